/- What is proved here serves the claim: the walk over the code and the plain laws, part 12 of 18. -/
import Derived.Test.YthngplknbbcecaaGreatDoorPkSnp11
import Derived.Shelf.Strings.Builder1
namespace Go.Proofs.YthngplknbbcecaaGreatDoor
open Go.RowKit Go.Aw
set_option maxHeartbeats 1000000 in
set_option maxRecDepth 100000 in
theorem copyCheck_used (b : Nat) (w : World) (h0 : w.cell? ⟨b, 0, none⟩ = some (.pointer (some ⟨b, 0, none⟩))) :
  Calls Tryz.prog 99 #[.pointer (some ⟨b, 0, none⟩)] w fun e w' => e = .returned (.tuple #[]) ∧ w' = w := by
 obtain ⟨j, hj⟩ : ∃ j, Tryz.prog.info? 75 = some j := ⟨_, rfl⟩
 have t34 : Tryz.prog.underlying 73 = some (.pointer 75) := by kernel_rfl
 go_enter Tryz.func99, Tryz.ntmps99
 go_wp2
 rw [Lib.run_neq_ptr_same w _ t34 hj]
 go_wp2
 go_end0
 exact ⟨rfl, rfl⟩
set_option maxHeartbeats 1000000 in
set_option maxRecDepth 100000 in
theorem copyCheck_fresh (b : Nat) (w : World) (h0 : w.cell? ⟨b, 0, none⟩ = some (.pointer none)) (hsh : w.shape? b = some (75, 2)) (hfz : w.frozen? ⟨b, 0, none⟩ = false) :
  Calls Tryz.prog 99 #[.pointer (some ⟨b, 0, none⟩)] w fun e w' => e = .returned (.tuple #[]) ∧ w' = w.setCell ⟨b, 0, none⟩ (.pointer (some ⟨b, 0, none⟩)) := by
 obtain ⟨j, hj, hjs⟩ : ∃ j, Tryz.prog.info? 75 = some j ∧ j.size = 2 := ⟨_, rfl, rfl⟩
 have t34 : Tryz.prog.underlying 73 = some (.pointer 75) := by kernel_rfl
 have t44 : Tryz.prog.underlying 155 = some .unsafePointer := by kernel_rfl
 have lies : liesAt Tryz.prog Tryz.prog.depth 75 (2 / Tryz.prog.cellsOf 75) 0 75 1 = true := by kernel_rfl
 go_enter Tryz.func99, Tryz.ntmps99
 go_wp2
 rw [Lib.run_to_unsafe w ⟨b, 0, none⟩ t34 t44 hj (by rw [hjs]; decide) hsh (Nat.zero_lt_succ 1)]
 simp only [Result.andThen]
 rw [Oper.upon_value]
 go_wp2
 rw [run_callFunc_extern Tryz.func147 (by kernel_rfl) (by kernel_rfl) (by kernel_rfl) (e := Extern.AbiNoEscape.same) (by kernel_rfl)]
 rw [Lib.run_noEscape]
 simp only [Result.andThen]
 rw [Oper.upon_value]
 go_wp2
 rw [Lib.run_from_unsafe w ⟨b, 0, none⟩ t44 t34 hj hsh lies]
 simp only [Result.andThen]
 rw [Oper.upon_value]
 go_wp2
 go_end0
 exact ⟨rfl, rfl⟩
set_option maxHeartbeats 1000000 in
set_option maxRecDepth 100000 in
theorem String_row (b g cap : Nat) (p : Value) (l : List UInt8) (cur : Array Value) (fr : Nat × Nat) (w : World) (h0 : l ≠ []) (hcap : l.length ≤ cap) (hmax : l.length ≤ 9223372036854775807)
  (hbk : w.heap[b]? = some (.cells #[p, .slice (some ⟨g, 0, none⟩) l.length cap] 75 (0, 0))) (hg : w.heap[g]? = some (.cells cur 5 fr)) (hcs : l.length ≤ cur.size) (hcell : ∀ (j : Nat) x, l[j]? = some x → cur[j]? = some (.int .u8 x.toNat)) :
  Calls Tryz.prog 61 #[.pointer (some ⟨b, 0, none⟩)] w fun e w' => e = .returned (.string ⟨l.toArray⟩) ∧ w' = w.drew.freeze ⟨g, 0, none⟩ l.length := by
 have hl0 : l.length ≠ 0 := by simpa using h0
 have c1 : w.drew.cell? ⟨b, 1, none⟩ = some (.slice (some ⟨g, 0, none⟩) l.length cap) := by
  have : w.drew.heap[b]? = some (.cells #[p, .slice (some ⟨g, 0, none⟩) l.length cap] 75 (0, 0)) := hbk
  rw [Lib.cell_of_heap this]; rfl
 have t42 : Tryz.prog.underlying 127 = some (.pointer 5) := by kernel_rfl
 have cb : Tryz.prog.cellsOf 5 = 1 := by kernel_rfl
 have hSD : (Builtin.unsafeSliceData_ #[25] 127 #[.slice (some ⟨g, 0, none⟩) l.length cap]).run Tryz.prog w.drew = .ok (.pointer (some ⟨g, 0, none⟩)) w.drew :=
  Lib.run_unsafeSliceData_row _ _ _ _ _ _ (by omega)
 have hUS : (Builtin.unsafeString_ #[127, 3] 9 #[.pointer (some ⟨g, 0, none⟩), .int .i64 l.length]).run Tryz.prog w.drew = .ok (.string ⟨l.toArray⟩) (w.drew.freeze ⟨g, 0, none⟩ l.length) := by
  refine Lib.run_unsafeString_row w.drew 127 3 9 5 t42 cb g cur.size (by have hg' : w.drew.heap[g]? = some (.cells cur 5 fr) := hg; simp [World.shape?, hg']) l h0 (by omega) hmax ?_
  intro j x hx
  have hg' : w.drew.heap[g]? = some (.cells cur 5 fr) := hg
  rw [Addr.add_none, Nat.zero_add, Lib.cell_of_heap hg']; exact hcell j x hx
 have mixed : Tryz.prog.follows .mixedOrders = true := by kernel_rfl
 go_enter Tryz.func61, Tryz.ntmps61
 go_wp2
 go_region_o
 all_goals (go_wp2; go_ret; exact ⟨rfl, rfl⟩)
set_option maxHeartbeats 1000000 in
set_option maxRecDepth 100000 in
theorem String_nil (b : Nat) (p : Value) (w : World) (hbk : w.heap[b]? = some (.cells #[p, .slice none 0 0] 75 (0, 0))) :
  Calls Tryz.prog 61 #[.pointer (some ⟨b, 0, none⟩)] w fun e w' => e = .returned (.string ⟨#[]⟩) ∧ w' = w.drew := by
 have hUS : ∀ (W : World) (q : Option Addr), (Builtin.unsafeString_ #[127, 3] 9 #[.pointer q, .int .i64 0]).run Tryz.prog W = .ok (.string .empty) W := fun W q => Lib.run_unsafeString_none W _ _ _ q
 have c1 : w.drew.cell? ⟨b, 1, none⟩ = some (.slice none 0 0) := by
  have : w.drew.heap[b]? = some (.cells #[p, .slice none 0 0] 75 (0, 0)) := hbk
  rw [Lib.cell_of_heap this]; rfl
 have hSD : (Builtin.unsafeSliceData_ #[25] 127 #[.slice none 0 0]).run Tryz.prog w.drew = .ok (.pointer none) w.drew := rfl
 have mixed : Tryz.prog.follows .mixedOrders = true := by kernel_rfl
 go_enter Tryz.func61, Tryz.ntmps61
 go_wp2
 go_region_o
 all_goals (go_wp2; go_ret; exact ⟨rfl, rfl⟩)
theorem copyCheck_ok (s : List UInt8) : CallsAbs Tryz.prog 99 [.ref 0 0 0] ⟨1, [(0, .bld 75 5 s)]⟩ fun r σ' => r = .tup [] ∧ σ' = ⟨1, [(0, .bld 75 5 s)]⟩ :=
 copyCheck_abs ⟨_, Tryz.func99, by decide +kernel, rfl⟩ copyCheck_used copyCheck_fresh s
theorem String_ok (s : List UInt8) (hs : s.length ≤ 9223372036854775807) : CallsAbs Tryz.prog 61 [.ref 0 0 0] ⟨1, [(0, .bld 75 5 s)]⟩ fun r σ' => r = .d (.str s) ∧ σ' = ⟨1, []⟩ :=
 String_abs ⟨_, Tryz.func61, by decide +kernel, rfl⟩ String_nil String_row s hs
set_option maxRecDepth 10000 in
theorem WriteByte_ok (s : List UInt8) (c : UInt8) (hs : s.length + 1 ≤ 140737488355328) : CallsAbs Tryz.prog 60 [.ref 0 0 0, .d (.int .u8 c.toNat)] ⟨1, [(0, .bld 75 5 s)]⟩ fun r σ' => r = .nili ∧ σ' = ⟨1, [(0, .bld 75 5 (s ++ [c]))]⟩ := by
 refine fn_okTE Tryz.wf Tryz.tab_ok Tryz.func60 (by decide +kernel) rfl rfl ?_
 refine E.seq (E.of Tryz.wf Tryz.tab_ok ?_)
 refine E.seq (E.of Tryz.wf Tryz.tab_ok ?_)
 refine (copyCheck_ok s).mono ?_
 rintro _ _ ⟨rfl, rfl⟩
 refine E.open (i := 0) (T := 75) (U := 5) (s := s) rfl fun pv hpv => ⟨fun hs0 => E.of Tryz.wf Tryz.tab_ok ?_, fun hs0 => E.of Tryz.wf Tryz.tab_ok ?_⟩
 ·subst hs0
  refine ⟨_, _, rfl, rfl, trivial, rfl, (by omega : (0 + 1) * 1 ≤ 140737488355328), Nat.le_refl _, Nat.le_refl _, rfl, rfl, rowsNone, rowsOne rfl rfl, .inr ?_⟩
  exact ⟨.nili, ⟨1, [(0, .bld 75 5 [c])]⟩, (fin_close 0 2 75 5 [c] hpv rfl rfl (by simp) (Nat.le_of_ble_eq_true rfl) rfl).trans (fin_mv [] rfl rfl rfl ⟨⟨rfl, rfl, rfl⟩, trivial⟩ trivial), rfl, rfl⟩
 ·have hl : ((bytesA s).drop 0).take s.length = bytesA s := takeAll (bytesA_len s)
  refine ⟨bytesA s, _, congrArg some hl, rfl, bytesA_len s, rfl, ?_, Nat.le_refl _, Nat.le_refl _, rfl, rfl, bytesRows s, rowsOne rfl rfl, ?_⟩
  ·show ((bytesA s).length + 1) * 1 ≤ _; rw [bytesA_len]; omega
  ·have e : bytesA (s ++ [c]) = bytesA s ++ [[.d (.int .u8 c.toNat)]] := bytesA_append s [c]
   refine ⟨.nili, ⟨1, [(0, .bld 75 5 (s ++ [c]))]⟩, (fin_close 0 3 75 5 (s ++ [c]) hpv ?_ (congrArg _ e.symm) (by simp) (Nat.le_of_ble_eq_true rfl) rfl).trans (fin_mv [] rfl rfl rfl ⟨⟨rfl, rfl, rfl⟩, trivial⟩ trivial), rfl, rfl⟩
   show Ob.two 75 pv (.own 3 0 ((bytesA s).length + 1)) = _
   simp [bytesA_len]
set_option maxRecDepth 10000 in
theorem WriteString_ok (s t : List UInt8) (hs : s.length + t.length ≤ 140737488355328) : CallsAbs Tryz.prog 59 [.ref 0 0 0, .d (.str t)] ⟨1, [(0, .bld 75 5 s)]⟩ fun r σ' => r = .tup [.d (.int .i64 t.length), .nili] ∧ σ' = ⟨1, [(0, .bld 75 5 (s ++ t))]⟩ := by
 refine fn_okTE Tryz.wf Tryz.tab_ok Tryz.func59 (by decide +kernel) rfl rfl ?_
 refine E.seq (E.of Tryz.wf Tryz.tab_ok ?_)
 refine E.seq (E.of Tryz.wf Tryz.tab_ok ?_)
 refine (copyCheck_ok s).mono ?_
 rintro _ _ ⟨rfl, rfl⟩
 have htl : ((bytesA t).drop 0).take t.length = bytesA t := takeAll (bytesA_len t)
 refine E.open (i := 0) (T := 75) (U := 5) (s := s) rfl fun pv hpv => ⟨fun hs0 => E.of Tryz.wf Tryz.tab_ok ?_, fun hs0 => E.of Tryz.wf Tryz.tab_ok ?_⟩
 ·subst hs0
  refine ⟨_, _, rfl, rfl, trivial, trivial, (by show (0 + (bytesA t).length) * 1 ≤ _; rw [bytesA_len]; simpa using hs), Nat.le_refl _, Nat.le_refl _, rfl, rfl, rowsNone, bytesRows t, ?_⟩
  by_cases ht : t = []
  ·subst ht
   refine .inl ⟨rfl, ?_⟩
   exact ⟨.tup [.d (.int .i64 0), .nili], ⟨1, [(0, .bld 75 5 [])]⟩, (fin_close0 0 75 5 hpv rfl).trans (fin_mv [] rfl rfl rfl ⟨⟨rfl, rfl, rfl⟩, trivial⟩ ⟨rfl, trivial, trivial⟩), rfl, rfl⟩
  ·refine .inr ?_
   refine ⟨.tup [.d (.int .i64 t.length), .nili], ⟨1, [(0, .bld 75 5 t)]⟩, (fin_close 0 1 75 5 t hpv ?_ rfl ht (Nat.le_of_ble_eq_true rfl) rfl).trans (fin_mv [] rfl rfl rfl ⟨⟨rfl, rfl, rfl⟩, trivial⟩ ⟨rfl, trivial, trivial⟩), rfl, rfl⟩
   show Ob.two 75 pv (.own 1 0 (0 + (bytesA t).length)) = _
   simp [bytesA_len]
 ·have hl : ((bytesA s).drop 0).take s.length = bytesA s := takeAll (bytesA_len s)
  refine ⟨bytesA s, _, congrArg some hl, rfl, bytesA_len s, trivial, ?_, Nat.le_refl _, Nat.le_refl _, rfl, rfl, bytesRows s, bytesRows t, ?_⟩
  ·show ((bytesA s).length + (bytesA t).length) * 1 ≤ _; rw [bytesA_len, bytesA_len]; omega
  ·refine ⟨.tup [.d (.int .i64 t.length), .nili], ⟨1, [(0, .bld 75 5 (s ++ t))]⟩, (fin_close 0 2 75 5 (s ++ t) hpv ?_ (congrArg _ (bytesA_append s t).symm) (by simp [hs0]) (Nat.le_of_ble_eq_true rfl) rfl).trans (fin_mv [] rfl rfl rfl ⟨⟨rfl, rfl, rfl⟩, trivial⟩ ⟨rfl, trivial, trivial⟩), rfl, rfl⟩
   show Ob.two 75 pv (.own 2 0 ((bytesA s).length + (bytesA t).length)) = _
   simp [bytesA_len]
end Go.Proofs.YthngplknbbcecaaGreatDoor
