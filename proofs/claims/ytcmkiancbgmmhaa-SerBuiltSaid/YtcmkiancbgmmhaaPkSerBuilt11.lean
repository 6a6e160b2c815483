/- What is proved here serves the claim: the walk over the code and the plain laws, part 11 of 14. -/
import Derived.Test.YtcmkiancbgmmhaaPkSerBuilt10
import Derived.Shelf.Strings.Builder1
namespace Go.Proofs.Ytcmkiancbgmmhaa
open Go.RowKit Go.Aw
set_option maxHeartbeats 1000000 in
set_option maxRecDepth 100000 in
theorem copyCheck_used (b : Nat) (w : World) (h0 : w.cell? ⟨b, 0, none⟩ = some (.pointer (some ⟨b, 0, none⟩))) :
    Calls Try.prog 86 #[.pointer (some ⟨b, 0, none⟩)] w fun e w' => e = .returned (.tuple #[]) ∧ w' = w := by
  obtain ⟨j, hj⟩ : ∃ j, Try.prog.info? 50 = some j := ⟨_, rfl⟩
  have t34 : Try.prog.underlying 47 = some (.pointer 50) := by kernel_rfl
  go_enter Try.func86, Try.ntmps86
  go_wp2
  rw [Lib.run_neq_ptr_same w _ t34 hj]
  go_wp2
  go_end0
  exact ⟨rfl, rfl⟩
set_option maxHeartbeats 1000000 in
set_option maxRecDepth 100000 in
theorem copyCheck_fresh (b : Nat) (w : World) (h0 : w.cell? ⟨b, 0, none⟩ = some (.pointer none)) (hsh : w.shape? b = some (50, 2)) (hfz : w.frozen? ⟨b, 0, none⟩ = false) :
    Calls Try.prog 86 #[.pointer (some ⟨b, 0, none⟩)] w fun e w' => e = .returned (.tuple #[]) ∧ w' = w.setCell ⟨b, 0, none⟩ (.pointer (some ⟨b, 0, none⟩)) := by
  obtain ⟨j, hj, hjs⟩ : ∃ j, Try.prog.info? 50 = some j ∧ j.size = 2 := ⟨_, rfl, rfl⟩
  have t34 : Try.prog.underlying 47 = some (.pointer 50) := by kernel_rfl
  have t44 : Try.prog.underlying 112 = some .unsafePointer := by kernel_rfl
  have lies : liesAt Try.prog Try.prog.depth 50 (2 / Try.prog.cellsOf 50) 0 50 1 = true := by kernel_rfl
  go_enter Try.func86, Try.ntmps86
  go_wp2
  rw [Lib.run_to_unsafe w ⟨b, 0, none⟩ t34 t44 hj (by rw [hjs]; decide) hsh (Nat.zero_lt_succ 1)]
  simp only [Result.andThen]
  rw [Oper.upon_value]
  go_wp2
  rw [run_callFunc_extern Try.func94 (by kernel_rfl) (by kernel_rfl) (by kernel_rfl) (e := Extern.AbiNoEscape.same) (by kernel_rfl)]
  rw [Lib.run_noEscape]
  simp only [Result.andThen]
  rw [Oper.upon_value]
  go_wp2
  rw [Lib.run_from_unsafe w ⟨b, 0, none⟩ t44 t34 hj hsh lies]
  simp only [Result.andThen]
  rw [Oper.upon_value]
  go_wp2
  go_end0
  exact ⟨rfl, rfl⟩
set_option maxHeartbeats 1000000 in
set_option maxRecDepth 100000 in
theorem String_row (b g cap : Nat) (p : Value) (l : List UInt8) (cur : Array Value) (fr : Nat × Nat) (w : World) (h0 : l ≠ []) (hcap : l.length ≤ cap) (hmax : l.length ≤ 9223372036854775807)
    (hbk : w.heap[b]? = some (.cells #[p, .slice (some ⟨g, 0, none⟩) l.length cap] 50 (0, 0))) (hg : w.heap[g]? = some (.cells cur 5 fr)) (hcs : l.length ≤ cur.size) (hcell : ∀ (j : Nat) x, l[j]? = some x → cur[j]? = some (.int .u8 x.toNat)) :
    Calls Try.prog 28 #[.pointer (some ⟨b, 0, none⟩)] w fun e w' => e = .returned (.string ⟨l.toArray⟩) ∧ w' = w.drew.freeze ⟨g, 0, none⟩ l.length := by
  have hl0 : l.length ≠ 0 := by simpa using h0
  have c1 : w.drew.cell? ⟨b, 1, none⟩ = some (.slice (some ⟨g, 0, none⟩) l.length cap) := by
    have : w.drew.heap[b]? = some (.cells #[p, .slice (some ⟨g, 0, none⟩) l.length cap] 50 (0, 0)) := hbk
    rw [Lib.cell_of_heap this]; rfl
  have t42 : Try.prog.underlying 75 = some (.pointer 5) := by kernel_rfl
  have cb : Try.prog.cellsOf 5 = 1 := by kernel_rfl
  have hSD : (Builtin.unsafeSliceData_ #[48] 75 #[.slice (some ⟨g, 0, none⟩) l.length cap]).run Try.prog w.drew = .ok (.pointer (some ⟨g, 0, none⟩)) w.drew :=
    Lib.run_unsafeSliceData_row _ _ _ _ _ _ (by omega)
  have hUS : (Builtin.unsafeString_ #[75, 3] 9 #[.pointer (some ⟨g, 0, none⟩), .int .i64 l.length]).run Try.prog w.drew = .ok (.string ⟨l.toArray⟩) (w.drew.freeze ⟨g, 0, none⟩ l.length) := by
    refine Lib.run_unsafeString_row w.drew 75 3 9 5 t42 cb g cur.size (by have hg' : w.drew.heap[g]? = some (.cells cur 5 fr) := hg; simp [World.shape?, hg']) l h0 (by omega) hmax ?_
    intro j x hx
    have hg' : w.drew.heap[g]? = some (.cells cur 5 fr) := hg
    rw [Addr.add_none, Nat.zero_add, Lib.cell_of_heap hg']; exact hcell j x hx
  have mixed : Try.prog.follows .mixedOrders = true := by kernel_rfl
  go_enter Try.func28, Try.ntmps28
  go_wp2
  go_region_o
  all_goals (go_wp2; go_ret; exact ⟨rfl, rfl⟩)
set_option maxHeartbeats 1000000 in
set_option maxRecDepth 100000 in
theorem String_nil (b : Nat) (p : Value) (w : World) (hbk : w.heap[b]? = some (.cells #[p, .slice none 0 0] 50 (0, 0))) :
    Calls Try.prog 28 #[.pointer (some ⟨b, 0, none⟩)] w fun e w' => e = .returned (.string ⟨#[]⟩) ∧ w' = w.drew := by
  have hUS : ∀ (W : World) (q : Option Addr), (Builtin.unsafeString_ #[75, 3] 9 #[.pointer q, .int .i64 0]).run Try.prog W = .ok (.string .empty) W := fun W q => Lib.run_unsafeString_none W _ _ _ q
  have c1 : w.drew.cell? ⟨b, 1, none⟩ = some (.slice none 0 0) := by
    have : w.drew.heap[b]? = some (.cells #[p, .slice none 0 0] 50 (0, 0)) := hbk
    rw [Lib.cell_of_heap this]; rfl
  have hSD : (Builtin.unsafeSliceData_ #[48] 75 #[.slice none 0 0]).run Try.prog w.drew = .ok (.pointer none) w.drew := rfl
  have mixed : Try.prog.follows .mixedOrders = true := by kernel_rfl
  go_enter Try.func28, Try.ntmps28
  go_wp2
  go_region_o
  all_goals (go_wp2; go_ret; exact ⟨rfl, rfl⟩)
theorem copyCheck_ok (s : List UInt8) : CallsAbs Try.prog 86 [.ref 0 0 0] ⟨1, [(0, .bld 50 5 s)]⟩ fun r σ' => r = .tup [] ∧ σ' = ⟨1, [(0, .bld 50 5 s)]⟩ :=
  copyCheck_abs ⟨_, Try.func86, by decide +kernel, rfl⟩ copyCheck_used copyCheck_fresh s
theorem String_ok (s : List UInt8) (hs : s.length ≤ 9223372036854775807) : CallsAbs Try.prog 28 [.ref 0 0 0] ⟨1, [(0, .bld 50 5 s)]⟩ fun r σ' => r = .d (.str s) ∧ σ' = ⟨1, []⟩ :=
  String_abs ⟨_, Try.func28, by decide +kernel, rfl⟩ String_nil String_row s hs
set_option maxRecDepth 10000 in
theorem WriteByte_ok (s : List UInt8) (c : UInt8) (hs : s.length + 1 ≤ 140737488355328) : CallsAbs Try.prog 82 [.ref 0 0 0, .d (.int .u8 c.toNat)] ⟨1, [(0, .bld 50 5 s)]⟩ fun r σ' => r = .nili ∧ σ' = ⟨1, [(0, .bld 50 5 (s ++ [c]))]⟩ := by
  refine fn_okTE Try.wf Try.tab_ok Try.func82 (by decide +kernel) rfl rfl ?_
  refine E.seq (E.of Try.wf Try.tab_ok ?_)
  refine E.seq (E.of Try.wf Try.tab_ok ?_)
  refine (copyCheck_ok s).mono ?_
  rintro _ _ ⟨rfl, rfl⟩
  refine E.open (i := 0) (T := 50) (U := 5) (s := s) rfl fun pv hpv => ⟨fun hs0 => E.of Try.wf Try.tab_ok ?_, fun hs0 => E.of Try.wf Try.tab_ok ?_⟩
  · subst hs0
    refine ⟨_, _, rfl, rfl, trivial, rfl, (by omega : (0 + 1) * 1 ≤ 140737488355328), Nat.le_refl _, Nat.le_refl _, rfl, rfl, rowsNone, rowsOne rfl rfl, .inr ?_⟩
    exact ⟨.nili, ⟨1, [(0, .bld 50 5 [c])]⟩, (fin_close 0 2 50 5 [c] hpv rfl rfl (by simp) (Nat.le_of_ble_eq_true rfl) rfl).trans (fin_mv [] rfl rfl rfl ⟨⟨rfl, rfl, rfl⟩, trivial⟩ trivial), rfl, rfl⟩
  · have hl : ((bytesA s).drop 0).take s.length = bytesA s := takeAll (bytesA_len s)
    refine ⟨bytesA s, _, congrArg some hl, rfl, bytesA_len s, rfl, ?_, Nat.le_refl _, Nat.le_refl _, rfl, rfl, bytesRows s, rowsOne rfl rfl, ?_⟩
    · show ((bytesA s).length + 1) * 1 ≤ _; rw [bytesA_len]; omega
    · have e : bytesA (s ++ [c]) = bytesA s ++ [[.d (.int .u8 c.toNat)]] := bytesA_append s [c]
      refine ⟨.nili, ⟨1, [(0, .bld 50 5 (s ++ [c]))]⟩, (fin_close 0 3 50 5 (s ++ [c]) hpv ?_ (congrArg _ e.symm) (by simp) (Nat.le_of_ble_eq_true rfl) rfl).trans (fin_mv [] rfl rfl rfl ⟨⟨rfl, rfl, rfl⟩, trivial⟩ trivial), rfl, rfl⟩
      show Ob.two 50 pv (.own 3 0 ((bytesA s).length + 1)) = _
      simp [bytesA_len]
set_option maxRecDepth 10000 in
theorem WriteString_ok (s t : List UInt8) (hs : s.length + t.length ≤ 140737488355328) : CallsAbs Try.prog 80 [.ref 0 0 0, .d (.str t)] ⟨1, [(0, .bld 50 5 s)]⟩ fun r σ' => r = .tup [.d (.int .i64 t.length), .nili] ∧ σ' = ⟨1, [(0, .bld 50 5 (s ++ t))]⟩ := by
  refine fn_okTE Try.wf Try.tab_ok Try.func80 (by decide +kernel) rfl rfl ?_
  refine E.seq (E.of Try.wf Try.tab_ok ?_)
  refine E.seq (E.of Try.wf Try.tab_ok ?_)
  refine (copyCheck_ok s).mono ?_
  rintro _ _ ⟨rfl, rfl⟩
  have htl : ((bytesA t).drop 0).take t.length = bytesA t := takeAll (bytesA_len t)
  refine E.open (i := 0) (T := 50) (U := 5) (s := s) rfl fun pv hpv => ⟨fun hs0 => E.of Try.wf Try.tab_ok ?_, fun hs0 => E.of Try.wf Try.tab_ok ?_⟩
  · subst hs0
    refine ⟨_, _, rfl, rfl, trivial, trivial, (by show (0 + (bytesA t).length) * 1 ≤ _; rw [bytesA_len]; simpa using hs), Nat.le_refl _, Nat.le_refl _, rfl, rfl, rowsNone, bytesRows t, ?_⟩
    by_cases ht : t = []
    · subst ht
      refine .inl ⟨rfl, ?_⟩
      exact ⟨.tup [.d (.int .i64 0), .nili], ⟨1, [(0, .bld 50 5 [])]⟩, (fin_close0 0 50 5 hpv rfl).trans (fin_mv [] rfl rfl rfl ⟨⟨rfl, rfl, rfl⟩, trivial⟩ ⟨rfl, trivial, trivial⟩), rfl, rfl⟩
    · refine .inr ?_
      refine ⟨.tup [.d (.int .i64 t.length), .nili], ⟨1, [(0, .bld 50 5 t)]⟩, (fin_close 0 1 50 5 t hpv ?_ rfl ht (Nat.le_of_ble_eq_true rfl) rfl).trans (fin_mv [] rfl rfl rfl ⟨⟨rfl, rfl, rfl⟩, trivial⟩ ⟨rfl, trivial, trivial⟩), rfl, rfl⟩
      show Ob.two 50 pv (.own 1 0 (0 + (bytesA t).length)) = _
      simp [bytesA_len]
  · have hl : ((bytesA s).drop 0).take s.length = bytesA s := takeAll (bytesA_len s)
    refine ⟨bytesA s, _, congrArg some hl, rfl, bytesA_len s, trivial, ?_, Nat.le_refl _, Nat.le_refl _, rfl, rfl, bytesRows s, bytesRows t, ?_⟩
    · show ((bytesA s).length + (bytesA t).length) * 1 ≤ _; rw [bytesA_len, bytesA_len]; omega
    · refine ⟨.tup [.d (.int .i64 t.length), .nili], ⟨1, [(0, .bld 50 5 (s ++ t))]⟩, (fin_close 0 2 50 5 (s ++ t) hpv ?_ (congrArg _ (bytesA_append s t).symm) (by simp [hs0]) (Nat.le_of_ble_eq_true rfl) rfl).trans (fin_mv [] rfl rfl rfl ⟨⟨rfl, rfl, rfl⟩, trivial⟩ ⟨rfl, trivial, trivial⟩), rfl, rfl⟩
      show Ob.two 50 pv (.own 2 0 ((bytesA s).length + (bytesA t).length)) = _
      simp [bytesA_len]
end Go.Proofs.Ytcmkiancbgmmhaa

namespace Go.Proofs.Ytcmkiancbgmmhaa
open Go.Aw
set_option maxHeartbeats 1600000
set_option linter.unusedSimpArgs false
set_option linter.unusedVariables false
def tabA : List AV := nameTab.flatMap fun e => [.d (.str e.1), .d (.int .i32 e.2)]
theorem pairs_at : ∀ (l : List (List UInt8 × Int)) (k : Nat) (h : k < l.length), ((l.flatMap fun e => [AV.d (.str e.1), .d (.int .i32 e.2)]).drop (k * 2)).take 2 = [.d (.str l[k].1), .d (.int .i32 l[k].2)]
  | e :: l, 0, _ => rfl
  | e :: l, k + 1, h => by
    have := pairs_at l k (by simpa using h)
    rw [List.flatMap_cons, Nat.add_mul, List.drop_append]
    simpa using this
set_option maxRecDepth 100000 in
theorem Named_ok (s : List UInt8) : PureC Try.prog 88 [.d (.str s)] (optV (named s)) := by
  refine pure_okT Try.wf Try.tab_ok Try.func88 (by decide +kernel) rfl rfl rfl (optV_pure _) ?_
  refine ⟨_, rfl, rfl, by decide, _, rfl, by decide, ?_⟩
  refine loopT Try.wf Try.tab_ok (fun n s' σ => ∃ k : Nat, n = 22 - k ∧ k ≤ 22 ∧ (∀ j (hj : j < nameTab.length), j < k → nameTab[j].1 ≠ s) ∧ s' = [(0, .d (.str s)), (30, .agg tabA), (31, .d (.int .i64 k))] ∧ σ = ⟨0, []⟩)
    ⟨0, rfl, Nat.zero_le _, fun j _ h => absurd h (by omega), rfl, rfl⟩ (Mv.of [] rfl rfl rfl trivial ⟨rfl, vrel_self (.agg tabA) rfl, rfl, trivial⟩) ?_
  rintro _ _ _ ⟨k, rfl, hk, hI, rfl, rfl⟩
  refine ⟨fun h => ?_, fun h => ?_⟩
  · have hlt : k < 22 := by have := of_decide_eq_true h; omega
    have hlt' : k < nameTab.length := hlt
    have e := pairs_at nameTab k hlt'
    refine ⟨⟨by omega, by omega⟩, rfl, ?_⟩
    have e' : List.take (nth Try.tab 115).size (List.drop (((k : Nat) : Int).toNat * (nth Try.tab 115).size) tabA) = [.d (.str nameTab[k].1), .d (.int .i32 nameTab[k].2)] := by
      rw [Int.toNat_natCast]; exact e
    rw [e']
    refine ⟨_, rfl, rfl, Nat.le_refl _, _, rfl, _, rfl, fun h1 => ?_, fun h1 => ?_⟩
    · have h1' : nameTab[k].1 = s := of_decide_eq_true h1
      refine ⟨_, rfl, _, rfl, ?_⟩
      exact ⟨_, _, fin_out rfl, by rw [named_hit hlt' hI h1']; rfl⟩
    · have h1' : ¬ nameTab[k].1 = s := of_decide_eq_false h1
      refine .inl ⟨⟨by omega, by omega⟩, _, _, _, ⟨k + 1, rfl, hlt, fun j hj hjk => ?_, rfl, rfl⟩, by omega, Mv.of [] rfl rfl rfl trivial ⟨rfl, vrel_self (.agg tabA) rfl, rfl, trivial⟩⟩
      by_cases hj2 : j = k
      · subst hj2; exact h1'
      · exact hI j hj (by omega)
  · have hk' : k = 22 := by have := of_decide_eq_false h; omega
    subst hk'
    exact ⟨_, _, FinMove.refl _ _ _, by rw [named_miss (fun j hj => hI j hj hj)]; rfl⟩
def numV : Option Nat → AV
  | some n => .tup [.d (.int .i64 n), .d (.bool true)]
  | none => .tup [.d (.int .i64 0), .d (.bool false)]
theorem numV_pure (o : Option Nat) : (numV o).pure = true := by cases o <;> rfl
def hexs : List UInt8 := [48, 49, 50, 51, 52, 53, 54, 55, 56, 57, 97, 98, 99, 100, 101, 102]
theorem hexs_all : ∀ n < 256, ¬ (65 ≤ n ∧ n ≤ 90) → idxB (UInt8.ofNat n) hexs = match hexv (UInt8.ofNat n) with | some d => (d : Int) | none => -1 := by decide +kernel
theorem hexs_at (c : UInt8) (h : ¬ (65 ≤ c.toNat ∧ c.toNat ≤ 90)) : idxB c hexs = match hexv c with | some d => (d : Int) | none => -1 := by
  have := hexs_all c.toNat c.toNat_lt h
  simpa using this
theorem hex_hi (c : UInt8) (h : 128 ≤ c.toNat) : hexv c = none := by
  unfold hexv
  rw [if_neg (by omega), if_neg (by omega), if_neg (by omega)]
theorem hex_low (c : UInt8) : hexv (lowB c) = hexv c := by
  by_cases h : 65 ≤ c.toNat ∧ c.toNat ≤ 90
  · have := lowB_hi c h
    unfold hexv
    by_cases h2 : c.toNat ≤ 70
    · rw [if_neg (by omega), if_pos (by omega), if_neg (by omega), if_neg (by omega), if_pos (by omega)]
      congr 1; omega
    · rw [if_neg (by omega), if_neg (by omega), if_neg (by omega), if_neg (by omega), if_neg (by omega), if_neg (by omega)]
  · rw [lowB_lo c h]
theorem digs_cons (base : Nat) (c : UInt8) (r : List UInt8) (n : Nat) : digs base (c :: r) n = match hexv c with
    | some d => if d < base then digs base r (n * base + d) else none
    | none => none := rfl
theorem digs_lower (base : Nat) : ∀ (s : List UInt8) (n : Nat), digs base (lower s) n = digs base s n
  | [], _ => rfl
  | c :: r, n => by
    show digs base (lowB c :: lower r) n = _
    unfold digs
    rw [hex_low]
    split
    · rw [digs_lower base r]
    · rfl
theorem low_not (s : List UInt8) : ∀ c ∈ lower s, ¬ (65 ≤ c.toNat ∧ c.toNat ≤ 90) := by
  intro c hc
  obtain ⟨d, _, rfl⟩ := List.mem_map.1 hc
  by_cases h : 65 ≤ d.toNat ∧ d.toNat ≤ 90
  · have := lowB_hi d h; omega
  · rw [lowB_lo d h]; exact h
theorem pow16 {k : Nat} (h : k ≤ 7) : 16 ^ k ≤ 268435456 := Nat.pow_le_pow_right (by decide) h
set_option maxRecDepth 100000 in
theorem number_ok (s : List UInt8) (base most : Nat) (hs : s.length ≤ 9223372036854775807) (hb : base ≤ 16) (hm : most ≤ 7) : PureC Try.prog 89 [.d (.str s), .d (.int .i64 base), .d (.int .i64 most)] (numV (number s base most)) := by
  refine pure_okT Try.wf Try.tab_ok Try.func89 (by decide +kernel) rfl rfl rfl (numV_pure _) ?_
  have no : number s base most = none → ∃ r2 σ2, FinMove ⟨0, []⟩ (.tup [.d (.int .i64 0), .d (.bool false)]) ⟨0, []⟩ r2 σ2 ∧ r2 = numV (number s base most) := fun h => ⟨_, _, fin_out rfl, by rw [h]; rfl⟩
  refine ⟨fun h1 => ⟨fun h2 => ?_, fun h2 => ?_⟩, fun h1 => ?_⟩
  · exact no (if_pos (.inr (by have := of_decide_eq_true h2; omega)))
  · have h1' : s ≠ [] := of_decide_eq_false h1
    have h2' : s.length ≤ most := by have := of_decide_eq_false h2; omega
    have hN : number s base most = digs base (lower s) 0 := by rw [digs_lower]; exact if_neg (by rintro (h | h); exact h1' h; omega)
    clear h1 h2
    refine PureC.use (Lower_ok s hs) ?_
    have hbl : (lower s).length ≤ 7 := by rw [show (lower s).length = s.length by simp [lower]]; omega
    have hnot := low_not s
    generalize lower s = b at *
    refine loopT Try.wf Try.tab_ok (fun m s' σ => ∃ k n : Nat, m = b.length - k ∧ k ≤ b.length ∧ n + 1 ≤ 16 ^ k ∧ digs base b 0 = digs base (b.drop k) n ∧ s' = [(1, .d (.int .i64 base)), (8, .d (.int .i64 n)), (22, .ref 0 0 0)] ∧ σ = ⟨1, [(0, .iter b k)]⟩)
      ⟨0, 0, rfl, Nat.zero_le _, by simp, rfl, rfl, rfl⟩ (Mv.of [.old 0] rfl rfl rfl ⟨⟨rfl, rfl⟩, trivial⟩ ⟨rfl, rfl, ⟨rfl, rfl, rfl⟩, trivial⟩) ?_
    rintro _ _ _ ⟨k, n, rfl, hk, hn, hI, rfl, rfl⟩
    have h16 := pow16 (k := k) (by omega)
    refine ⟨fun hlt => ?_, fun hge => ?_⟩
    · have hd : b.drop k = b[k] :: b.drop (k + 1) := List.drop_eq_getElem_cons hlt
      have no' : digs base b 0 = none → ∃ r2 σ2, FinMove ⟨0, []⟩ (.tup [.d (.int .i64 0), .d (.bool false)]) ⟨1, [(0, .iter b (k + (Utf8.decode ⟨b.toArray⟩ k).2)), (0, .iter b k)]⟩ r2 σ2 ∧ r2 = numV (number s base most) := fun h => ⟨_, _, fin_out rfl, by rw [hN, h]; rfl⟩
      refine ⟨fun _ => ?_, fun h => absurd h (by decide)⟩
      by_cases hlo : b[k].toNat < 128
      · have e := decode_lo b k hlt hlo
        rw [e] at no' ⊢
        have c1 := IndexByte_ok hexs b[k]
        rw [hexs_at b[k] (hnot _ (List.getElem_mem hlt))] at c1
        rw [hd, digs_cons] at hI
        cases hv : hexv b[k] with
        | none =>
          rw [hv] at hI c1
          refine .inl ⟨⟨by show 0 ≤ ((b[k].toNat : Nat) : Int); omega, by show ((b[k].toNat : Nat) : Int) ≤ 255; omega⟩, PureC.use c1 ?_⟩
          refine ⟨fun h1 => ⟨fun h2 => absurd h2 (by simp), fun h2 => no' hI⟩, fun h1 => no' hI⟩
        | some d =>
          rw [hv] at hI c1
          dsimp only at hI c1
          refine .inl ⟨⟨by show 0 ≤ ((b[k].toNat : Nat) : Int); omega, by show ((b[k].toNat : Nat) : Int) ≤ 255; omega⟩, PureC.use c1 ?_⟩
          refine ⟨fun h1 => ⟨fun h2 => ⟨fun h3 => ?_, fun h3 => ?_⟩, fun h2 => absurd h2 (by simp)⟩, fun h1 => absurd h1 (by simp; omega)⟩
          · have h3' := of_decide_eq_true h3
            rw [if_neg (by omega)] at hI
            exact no' hI
          · have h3' := of_decide_eq_false h3
            rw [if_pos (by omega)] at hI
            have hd16 := hexv_lt hv
            have hmul : n * base ≤ n * 16 := Nat.mul_le_mul_left _ hb
            have hcast : (n : Int) * (base : Int) = ((n * base : Nat) : Int) := by simp
            have hd0 : (0 : Int) ≤ (d : Int) := Int.natCast_nonneg d
            have hpos : (0 : Int) ≤ (n : Int) * (base : Int) := Int.mul_nonneg (by omega) (by omega)
            refine .inl ⟨⟨by omega, by omega⟩, .inl ⟨⟨by omega, by omega⟩, ?_⟩⟩
            · refine ⟨_, _, _, ⟨k + 1, n * base + d, rfl, hlt, ?_, hI, rfl, rfl⟩, by omega, Mv.of [.old 0] rfl rfl rfl ⟨⟨rfl, rfl⟩, trivial⟩ ⟨rfl, ?_, ⟨rfl, rfl, rfl⟩, trivial⟩⟩
              · rw [Nat.pow_succ]; omega
              · exact congrArg (D.int .i64) (by simp)
      · have hhi := decode_hi b k hlt (by omega)
        have hx : digs base b 0 = none := by rw [hI, hd, digs_cons, hex_hi _ (by omega)]
        generalize (Utf8.decode ⟨b.toArray⟩ k) = p at *
        obtain ⟨p1, p2⟩ := p
        have hw : IntKind.u8.wrap (p1 : Int) = (((UInt8.ofNat p1).toNat : Nat) : Int) := by
          simp [IntKind.wrap, IntKind.signed, IntKind.bits]
        refine .inr ?_
        rw [hw]
        refine PureC.use (IndexByte_ok hexs (UInt8.ofNat p1)) ?_
        refine ⟨fun h1 => ?_, fun h1 => no' hx⟩
        have h1' := of_decide_eq_false h1
        have := hhi.1
        dsimp only at this
        omega
    · have hk' : k = b.length := by omega
      subst hk'
      rw [List.drop_length] at hI
      refine ⟨fun h => absurd h (by decide), fun _ => ?_⟩
      exact ⟨_, _, fin_out rfl, by rw [hN, hI]; rfl⟩
  · exact no (if_pos (.inl (of_decide_eq_true h1)))
theorem cutPre_cons (c : UInt8) (d : List UInt8) : cutPre (c :: d) [c] = .tup [.d (.str d), .d (.bool true)] := by simp [cutPre, hasPre]
theorem cutPre_no (s : List UInt8) (c : UInt8) (h : ∀ d, s ≠ c :: d) : cutPre s [c] = .tup [.d (.str s), .d (.bool false)] := by
  have : hasPre s [c] = false := by
    cases s with
    | nil => rfl
    | cons x r =>
      have : x ≠ c := fun e => h r (by rw [e])
      simp [hasPre, this]
  rw [cutPre, this]; rfl
theorem hasPre_one (s : List UInt8) (c : UInt8) : hasPre s [c] = true ∨ (hasPre s [c] = false ∧ ∀ d, s ≠ c :: d) := by
  cases s with
  | nil => exact .inr ⟨rfl, by simp⟩
  | cons x r =>
    by_cases h : x = c
    · subst h; exact .inl (by simp [hasPre])
    · exact .inr ⟨by simp [hasPre, h], fun d e => h (by injection e)⟩
theorem hasPre_hit {s : List UInt8} {c : UInt8} (h : hasPre s [c] = true) : ∃ d, s = c :: d := by
  cases s with
  | nil => simp [hasPre] at h
  | cons x r => simp [hasPre] at h; exact ⟨r, by rw [h]⟩
set_option maxRecDepth 100000 in
theorem stands_ok (s : List UInt8) (hs : s.length ≤ 9223372036854775807) : PureC Try.prog 81 [.d (.str s)] (optV (stands s)) := by
  refine pure_okT Try.wf Try.tab_ok Try.func81 (by decide +kernel) rfl rfl rfl (optV_pure _) ?_
  by_cases hh : ∃ d, s = 35 :: d
  · obtain ⟨d, rfl⟩ := hh
    simp only [List.length_cons] at hs
    have c0 := CutPrefix_ok (35 :: d) [35]
    rw [cutPre_cons] at c0
    refine PureC.use c0 ⟨fun h => absurd h (by decide), fun _ => ?_⟩
    rw [stands_hash]
    have small : ∀ (e : List UInt8) (b m n : Nat), b ≤ 16 → m ≤ 7 → number e b m = some n → n < 268435456 := fun e b m n hb hm h => by
      have h1 := number_pos h
      have h2 := digs_lt hb h1.2.2
      have h3 := pow16 (k := e.length) (by omega)
      omega
    have c1 := HasPrefix_ok d [120]
    have c2 := HasPrefix_ok d [88]
    refine PureC.use c1 ?_
    have key : ∃ (e : List UInt8) (b m : Nat), b ≤ 16 ∧ m ≤ 7 ∧ e.length ≤ d.length ∧ hashN d = number e b m ∧
        ((hasPre d [120] = true ∧ d = 120 :: e ∧ b = 16 ∧ m = 6) ∨ (hasPre d [120] = false ∧ hasPre d [88] = true ∧ d = 88 :: e ∧ b = 16 ∧ m = 6) ∨ (hasPre d [120] = false ∧ hasPre d [88] = false ∧ d = e ∧ b = 10 ∧ m = 7)) := by
      rcases hasPre_one d 120 with h1 | ⟨h1, n1⟩
      · obtain ⟨e, rfl⟩ := hasPre_hit h1
        exact ⟨e, 16, 6, by decide, by decide, by simp, hash_x e, .inl ⟨h1, rfl, rfl, rfl⟩⟩
      · rcases hasPre_one d 88 with h2 | ⟨h2, n2⟩
        · obtain ⟨e, rfl⟩ := hasPre_hit h2
          exact ⟨e, 16, 6, by decide, by decide, by simp, hash_X e, .inr (.inl ⟨h1, h2, rfl, rfl, rfl⟩)⟩
        · exact ⟨d, 10, 7, by decide, by decide, Nat.le_refl _, hash_d d n1 n2, .inr (.inr ⟨h1, h2, rfl, rfl, rfl⟩)⟩
    obtain ⟨e, b, m, hb, hm, hel, hN, hcase⟩ := key
    have c3 := number_ok e b m (by omega) hb hm
    have hsm := fun n h => small e b m n hb hm h
    rw [hN]
    rcases hcase with ⟨h1, rfl, rfl, rfl⟩ | ⟨h1, h2, rfl, rfl, rfl⟩ | ⟨h1, h2, rfl, rfl, rfl⟩
    · rw [h1]
      refine ⟨fun h => absurd h (by decide), fun _ => ?_⟩
      refine drawnT Try.wf Try.tab_ok Try.mixed (by decide +kernel) ?_
      refine qstep rfl rfl (FinMove.refl _ _ _) ?_
      refine qstep rfl rfl ⟨⟨by omega, by simp; omega, by simp⟩, FinMove.refl _ _ _⟩ ?_
      refine qstep rfl rfl (FinMove.refl _ _ _) ?_
      refine qstep rfl rfl (FinMove.refl _ _ _) ?_
      refine qstep rfl rfl (FinMove.refl _ _ _) ?_
      have e1 : List.drop (Int.toNat 1) (List.take (Int.toNat ((120 :: e).length : Nat)) (120 :: e)) = e := by simp
      generalize number e 16 6 = n at *
      rw [← e1] at c3
      cases n with
      | none => exact PureC.use c3 ⟨fun _ => by exact ⟨_, _, fin_out rfl, rfl⟩, fun h => absurd h (by decide)⟩
      | some n =>
        have hn := hsm n rfl
        refine PureC.use c3 ⟨fun h => absurd h (by decide), fun _ => ?_⟩
        (repeat' first | refine ⟨fun _ => ?_, fun _ => ?_⟩ | fail)
        all_goals
          refine .inl ⟨⟨by omega, by omega⟩, ?_⟩
          refine ⟨_, _, fin_out rfl, ?_⟩
          simp only [decide_eq_true_eq, decide_eq_false_iff_not] at *
          refine congrArg (fun x => AV.tup [.d (.str (enc x)), .d (.bool true)]) ?_
          unfold fixN
          first | rw [if_pos (by omega)] | rw [if_neg (by omega)]
    · rw [h1]
      refine ⟨fun _ => ?_, fun h => absurd h (by decide)⟩
      refine PureC.use c2 ?_
      rw [h2]
      refine ⟨fun _ => ?_, fun h => absurd h (by decide)⟩
      refine drawnT Try.wf Try.tab_ok Try.mixed (by decide +kernel) ?_
      refine qstep rfl rfl (FinMove.refl _ _ _) ?_
      refine qstep rfl rfl ⟨⟨by omega, by simp; omega, by simp⟩, FinMove.refl _ _ _⟩ ?_
      refine qstep rfl rfl (FinMove.refl _ _ _) ?_
      refine qstep rfl rfl (FinMove.refl _ _ _) ?_
      refine qstep rfl rfl (FinMove.refl _ _ _) ?_
      have e1 : List.drop (Int.toNat 1) (List.take (Int.toNat ((88 :: e).length : Nat)) (88 :: e)) = e := by simp
      generalize number e 16 6 = n at *
      rw [← e1] at c3
      cases n with
      | none => exact PureC.use c3 ⟨fun _ => by exact ⟨_, _, fin_out rfl, rfl⟩, fun h => absurd h (by decide)⟩
      | some n =>
        have hn := hsm n rfl
        refine PureC.use c3 ⟨fun h => absurd h (by decide), fun _ => ?_⟩
        (repeat' first | refine ⟨fun _ => ?_, fun _ => ?_⟩ | fail)
        all_goals
          refine .inl ⟨⟨by omega, by omega⟩, ?_⟩
          refine ⟨_, _, fin_out rfl, ?_⟩
          simp only [decide_eq_true_eq, decide_eq_false_iff_not] at *
          refine congrArg (fun x => AV.tup [.d (.str (enc x)), .d (.bool true)]) ?_
          unfold fixN
          first | rw [if_pos (by omega)] | rw [if_neg (by omega)]
    · rw [h1]
      refine ⟨fun _ => ?_, fun h => absurd h (by decide)⟩
      refine PureC.use c2 ?_
      rw [h2]
      refine ⟨fun h => absurd h (by decide), fun _ => ?_⟩
      generalize number d 10 7 = n at *
      cases n with
      | none => exact PureC.use c3 ⟨fun _ => by exact ⟨_, _, fin_out rfl, rfl⟩, fun h => absurd h (by decide)⟩
      | some n =>
        have hn := hsm n rfl
        refine PureC.use c3 ⟨fun h => absurd h (by decide), fun _ => ?_⟩
        (repeat' first | refine ⟨fun _ => ?_, fun _ => ?_⟩ | fail)
        all_goals
          refine .inl ⟨⟨by omega, by omega⟩, ?_⟩
          refine ⟨_, _, fin_out rfl, ?_⟩
          simp only [decide_eq_true_eq, decide_eq_false_iff_not] at *
          refine congrArg (fun x => AV.tup [.d (.str (enc x)), .d (.bool true)]) ?_
          unfold fixN
          first | rw [if_pos (by omega)] | rw [if_neg (by omega)]
  · have c0 := CutPrefix_ok s [35]
    rw [cutPre_no s 35 (fun d e => hh ⟨d, e⟩)] at c0
    refine PureC.use c0 ⟨fun _ => ?_, fun h => absurd h (by decide)⟩
    have c1 := Named_ok s
    rw [stands_named s (fun d e => hh ⟨d, e⟩)]
    cases hn : named s with
    | none => rw [hn] at c1; exact PureC.use c1 (by exact ⟨_, _, fin_out rfl, rfl⟩)
    | some t => rw [hn] at c1; exact PureC.use c1 (by exact ⟨_, _, fin_out rfl, rfl⟩)
theorem head_of {c : UInt8} {a r s out : List UInt8} (hI : out ++ resolve (a ++ 38 :: r) = resolve s) (ha : (38 : UInt8) ∉ a) : (out ++ a) ++ resolve (38 :: r) = resolve s := by
  rw [resolve_plain a _ ha] at hI; rw [List.append_assoc]; exact hI
set_option maxRecDepth 100000 in
theorem Resolve_ok (s : List UInt8) (hs : s.length ≤ 140737488355000) : PureC Try.prog 65 [.d (.str s)] (.d (.str (resolve s))) := by
  refine PureC.of rfl rfl (fn_okTE Try.wf Try.tab_ok Try.func65 (by decide +kernel) rfl rfl ?_)
  refine E.seq (E.of Try.wf Try.tab_ok ?_)
  refine scopeE ?_
  refine E.of Try.wf Try.tab_ok ?_
  have hsl := resolve_len s.length s (Nat.le_refl _)
  refine loopE (fun n s' σ => ∃ t out : List UInt8, n = t.length ∧ t.length ≤ s.length ∧ out ++ resolve t = resolve s ∧ s' = [(0, .d (.str t)), (3, .ref 0 0 0)] ∧ σ = ⟨1, [(0, .bld 50 5 out)]⟩)
    ⟨s, [], rfl, Nat.le_refl _, rfl, rfl, rfl⟩ (Mv.of [.old 0] rfl rfl rfl ⟨⟨rfl, rfl, rfl⟩, trivial⟩ ⟨rfl, ⟨rfl, rfl, rfl⟩, trivial⟩) ?_
  rintro _ _ _ ⟨t, out, rfl, htl, hI, rfl, rfl⟩
  have hol : out.length ≤ s.length := by have := congrArg List.length hI; simp at this; omega
  refine blockE ?_
  refine E.seq (E.of Try.wf Try.tab_ok ?_)
  by_cases hm : (38 : UInt8) ∈ t
  · obtain ⟨a, r, rfl, ha⟩ := split_first hm
    have c1 := IndexByte_ok (a ++ 38 :: r) 38
    rw [idxB_some ha] at c1
    have hI2 := head_of (c := 38) hI ha
    simp only [List.length_append, List.length_cons] at htl
    have hoa : out.length + a.length ≤ s.length := by have := congrArg List.length hI2; simp at this; omega
    refine PureC.use c1 ?_
    refine E.seq (E.of Try.wf Try.tab_ok ?_)
    refine ⟨fun h => absurd (of_decide_eq_true h) (by omega), fun _ => ?_⟩
    refine E.seq (E.of Try.wf Try.tab_ok ?_)
    refine ⟨⟨by omega, by omega, by simp; omega⟩, ?_⟩
    refine CallsAbs.to [.ref 0 0 0, .d (.str a)] (congrArg (fun x => [AV.ref 0 0 0, .d (.str x)]) (by simp)) ?_
    refine CallsAbs.frame (WriteString_ok out a (by omega)) [.old 0] ⟨Nat.zero_le _, rfl, rfl, ⟨⟨rfl, rfl, rfl⟩, trivial⟩⟩ ⟨⟨rfl, rfl, rfl⟩, rfl, trivial⟩ ?_
    rintro _ _ ⟨rfl, rfl⟩
    refine ⟨.tup [.d (.int .i64 a.length), .nili], [(0, .bld 50 5 (out ++ a))], ⟨⟨rfl, rfl, rfl⟩, trivial⟩, rfl, ⟨rfl, trivial, trivial⟩, ?_⟩
    refine midT Try.wf Try.tab_ok (fun s' σ => s' = [(0, .d (.str (38 :: r))), (3, .ref 0 0 0)] ∧ σ = ⟨1, [(0, .bld 50 5 (out ++ a))]⟩) ?_ ?_
    · refine ⟨⟨by omega, by simp; omega, by simp⟩, _, _, ⟨rfl, rfl⟩, Mv.of [.old 0] rfl rfl rfl ⟨⟨rfl, rfl, rfl⟩, trivial⟩ ⟨congrArg D.str (tail_at a _).symm, ⟨rfl, rfl, rfl⟩, trivial⟩⟩
    rintro _ _ ⟨rfl, rfl⟩
    generalize out ++ a = out2 at *
    have hol2 : out2.length ≤ s.length := by have := congrArg List.length hI2; simp at this; omega
    have hol3 : oneR r = none → out2.length + 1 ≤ s.length := fun h => by
      rw [resolve_amp, h] at hI2
      have := congrArg List.length hI2; simp at this; omega
    -- one byte is passed over
    have pass : oneR r = none → (out2 ++ [38]) ++ resolve r = resolve s := fun h => by
      rw [resolve_amp, h] at hI2; simpa using hI2
    refine E.of Try.wf Try.tab_ok ?_
    have hmin : (if (12 : Int) < (((38 :: r : List UInt8).length : Nat) : Int) then (12 : Int) else (((38 :: r : List UInt8).length : Nat) : Int)) = ((min 12 (r.length + 1) : Nat) : Int) := by
      simp only [List.length_cons]
      split <;> omega
    refine ⟨⟨by omega, by rw [hmin]; omega, by rw [hmin]; simp; omega⟩, ?_⟩
    refine CallsAbs.to [.d (.str (38 :: r.take 11)), .d (.int .u8 59)] (congrArg (fun x => [AV.d (.str x), .d (.int .u8 59)]) ?_) ?_
    · rw [hmin, Int.toNat_natCast, Int.toNat_zero, List.drop_zero]
      by_cases h : 11 ≤ r.length
      · rw [Nat.min_eq_left (by omega)]; rfl
      · rw [Nat.min_eq_right (by omega), List.take_of_length_le (by simp), List.take_of_length_le (by omega)]
    have c2 := IndexByte_ok (38 :: r.take 11) 59
    by_cases h59 : (59 : UInt8) ∈ r.take 11
    · obtain ⟨x, y, rfl, hx, hxl⟩ := split_take r h59
      have ht : (x ++ 59 :: y).take 11 = x ++ 59 :: y.take (10 - x.length) := by
        rw [List.take_append, List.take_of_length_le (by omega)]
        congr 1
        rw [show 11 - x.length = (10 - x.length) + 1 by omega]; rfl
      have hidx : idxB 59 (38 :: (x ++ 59 :: y).take 11) = ((x.length + 1 : Nat) : Int) := by
        rw [ht]
        have := idxB_some (c := 59) (a := 38 :: x) (b := y.take (10 - x.length)) (by simp [hx])
        simpa using this
      rw [hidx] at c2
      refine PureC.use c2 ⟨fun _ => ?_, fun h => absurd (of_decide_eq_false h) (by omega)⟩
      refine ⟨⟨by omega, by omega, by simp; omega⟩, ?_⟩
      refine CallsAbs.to [.d (.str x)] (congrArg (fun x => [AV.d (.str x)]) ?_) ?_
      · rw [Int.toNat_natCast]
        show (List.take x.length (x ++ 59 :: y)).drop 0 = x
        simp
      have c3 := stands_ok x (by simp at htl; omega)
      have ho := oneR_some x y hx hxl
      cases hst : stands x with
      | none =>
        rw [hst] at c3 ho
        refine PureC.use c3 ⟨fun h => absurd h (by decide), fun _ => ?_⟩
        refine CallsAbs.frame (WriteByte_ok out2 38 (by have := hol3 ho; omega)) [.old 0] ⟨Nat.zero_le _, rfl, rfl, ⟨⟨rfl, rfl, rfl⟩, trivial⟩⟩ ⟨⟨rfl, rfl, rfl⟩, rfl, trivial⟩ ?_
        rintro _ _ ⟨rfl, rfl⟩
        refine ⟨.nili, [(0, .bld 50 5 (out2 ++ [38]))], ⟨⟨rfl, rfl, rfl⟩, trivial⟩, rfl, trivial, ?_⟩
        exact ⟨⟨by omega, by simp; omega, by simp⟩, _, _, _, ⟨x ++ 59 :: y, _, rfl, by simp at htl ⊢; omega, pass ho, rfl, rfl⟩, by simp; omega, Mv.of [.old 0] rfl rfl rfl ⟨⟨rfl, rfl, rfl⟩, trivial⟩ ⟨congrArg D.str (tail_at [38] _).symm, ⟨rfl, rfl, rfl⟩, trivial⟩⟩
      | some u =>
        rw [hst] at c3 ho
        rw [resolve_amp, ho] at hI2
        dsimp only [Option.map_some] at hI2
        have hul := stands_len hst
        refine PureC.use c3 ⟨fun _ => ?_, fun h => absurd h (by decide)⟩
        refine CallsAbs.frame (WriteString_ok out2 u (by omega)) [.old 0] ⟨Nat.zero_le _, rfl, rfl, ⟨⟨rfl, rfl, rfl⟩, trivial⟩⟩ ⟨⟨rfl, rfl, rfl⟩, rfl, trivial⟩ ?_
        rintro _ _ ⟨rfl, rfl⟩
        refine ⟨.tup [.d (.int .i64 u.length), .nili], [(0, .bld 50 5 (out2 ++ u))], ⟨⟨rfl, rfl, rfl⟩, trivial⟩, rfl, ⟨rfl, trivial, trivial⟩, ?_⟩
        refine .inl ⟨⟨by omega, by omega⟩, ⟨by omega, by simp; omega, by simp⟩, _, _, _, ⟨y, out2 ++ u, rfl, by simp at htl ⊢; omega, by rw [List.append_assoc]; exact hI2, rfl, rfl⟩, by simp; omega, Mv.of [.old 0] rfl rfl rfl ⟨⟨rfl, rfl, rfl⟩, trivial⟩ ⟨congrArg D.str ?_, ⟨rfl, rfl, rfl⟩, trivial⟩⟩
        exact tail_of (38 :: x ++ [59]) y _ _ _ (by simp) (by simp) rfl
    · have hno : idxB 59 (38 :: r.take 11) = -1 := idxB_none (by simp [h59])
      rw [hno] at c2
      have ho := oneR_none r h59
      refine PureC.use c2 ⟨fun h => absurd h (by decide), fun _ => ?_⟩
      refine CallsAbs.frame (WriteByte_ok out2 38 (by have := hol3 ho; omega)) [.old 0] ⟨Nat.zero_le _, rfl, rfl, ⟨⟨rfl, rfl, rfl⟩, trivial⟩⟩ ⟨⟨rfl, rfl, rfl⟩, rfl, trivial⟩ ?_
      rintro _ _ ⟨rfl, rfl⟩
      refine ⟨.nili, [(0, .bld 50 5 (out2 ++ [38]))], ⟨⟨rfl, rfl, rfl⟩, trivial⟩, rfl, trivial, ?_⟩
      exact ⟨⟨by omega, by simp; omega, by simp⟩, _, _, _, ⟨r, _, rfl, by omega, pass ho, rfl, rfl⟩, by simp; omega, Mv.of [.old 0] rfl rfl rfl ⟨⟨rfl, rfl, rfl⟩, trivial⟩ ⟨congrArg D.str (tail_at [38] _).symm, ⟨rfl, rfl, rfl⟩, trivial⟩⟩
  · have c1 := IndexByte_ok t 38
    rw [idxB_none hm] at c1
    refine PureC.use c1 ?_
    refine E.of Try.wf Try.tab_ok ⟨fun _ => ?_, fun h => absurd h (by decide)⟩
    rw [resolve_same t hm] at hI
    have hlen : out.length + t.length ≤ s.length := by have := congrArg List.length hI; simp at this; omega
    refine CallsAbs.frame (WriteString_ok out t (by omega)) [.old 0] ⟨Nat.zero_le _, rfl, rfl, ⟨⟨rfl, rfl, rfl⟩, trivial⟩⟩ ⟨⟨rfl, rfl, rfl⟩, rfl, trivial⟩ ?_
    rintro _ _ ⟨rfl, rfl⟩
    refine ⟨.tup [.d (.int .i64 t.length), .nili], [(0, .bld 50 5 (out ++ t))], ⟨⟨rfl, rfl, rfl⟩, trivial⟩, rfl, ⟨rfl, trivial, trivial⟩, ?_⟩
    refine CallsAbs.frame (String_ok (out ++ t) (by simp; omega)) [.old 0] ⟨Nat.zero_le _, rfl, rfl, ⟨⟨rfl, rfl, rfl⟩, trivial⟩⟩ ⟨⟨rfl, rfl, rfl⟩, trivial⟩ ?_
    rintro _ _ ⟨rfl, rfl⟩
    refine ⟨.d (.str (out ++ t)), [(0, .dead)], ⟨trivial, trivial⟩, rfl, rfl, ?_⟩
    exact ⟨_, _, fin_out rfl, congrArg (fun x => AV.d (.str x)) hI, rfl⟩
theorem esc_other (q : Bool) (c : UInt8) (h1 : c ≠ 38) (h2 : c ≠ 60) (h3 : c ≠ 62) (h4 : c = 34 → q = false) : esc1 q c = [c] := by
  unfold esc1
  rw [if_neg h1, if_neg h2, if_neg h3, if_neg (fun h => by rw [h4 h.1] at h; exact absurd h.2 (by decide))]
theorem u8_is {c d : UInt8} {n : Int} (h : (c.toNat : Int) = n) (hd : (d.toNat : Int) = n) : c = d := UInt8.toNat_inj.1 (by omega)
set_option maxRecDepth 100000 in
set_option maxHeartbeats 1000000 in
theorem Escape_ok (s : List UInt8) (q : Bool) (hs : s.length ≤ 17592186044416) : PureC Try.prog 115 [.d (.str s), .d (.bool q)] (.d (.str (escape q s))) := by
  refine pure_okT Try.wf Try.tab_ok Try.func115 (by decide +kernel) rfl rfl rfl rfl ?_
  have hel := (escape_len s.length q s (Nat.le_refl _)).2
  refine loopT Try.wf Try.tab_ok (fun n s' σ => ∃ (k : Nat) (out : List UInt8), n = s.length - k ∧ k ≤ s.length ∧ out ++ escape q (s.drop k) = escape q s ∧ s' = [(0, .d (.str s)), (1, .d (.bool q)), (5, .ref 0 0 0), (6, .d (.int .i64 k))] ∧ σ = ⟨1, [(0, .bld 50 5 out)]⟩)
    ⟨0, [], rfl, Nat.zero_le _, rfl, rfl, rfl⟩ (Mv.of [.old 0] rfl rfl rfl ⟨⟨rfl, rfl, rfl⟩, trivial⟩ ⟨rfl, rfl, ⟨rfl, rfl, rfl⟩, rfl, trivial⟩) ?_
  rintro _ _ _ ⟨k, out, rfl, hk, hI, rfl, rfl⟩
  have hol : out.length + (escape q (s.drop k)).length ≤ 6 * s.length := by have := congrArg List.length hI; simp at this; omega
  refine ⟨fun h => ?_, fun h => ?_⟩
  · have hlt : k < s.length := by have := of_decide_eq_true h; omega
    clear h
    have hg := getD_at s k hlt
    have hd : s.drop k = s[k] :: s.drop (k + 1) := List.drop_eq_getElem_cons hlt
    rw [hd] at hI hol
    have hu := s[k].toNat_lt
    refine ⟨⟨by omega, by omega⟩, ?_⟩
    rw [hg]
    generalize s[k] = c at *
    -- one more, by itself
    have one : ¬ (c = 194 ∧ ∃ t, s.drop (k + 1) = 160 :: t) → (out ++ esc1 q c) ++ escape q (s.drop (k + 1)) = escape q s ∧ out.length + (esc1 q c).length ≤ 6 * s.length := fun h => by
      rw [escape_cons q c _ h] at hI hol
      simp only [List.length_append] at hol
      exact ⟨by rw [List.append_assoc]; exact hI, by omega⟩
    refine ⟨fun h1 => ?_, fun h1 => ⟨fun h2 => ?_, fun h2 => ⟨fun h3 => ?_, fun h3 => ?_⟩⟩⟩
    · have hc : c = 38 := u8_is (of_decide_eq_true h1) rfl
      subst hc
      obtain ⟨o1, o2⟩ := one (by simp)
      refine CallsAbs.frame (WriteString_ok (out) ([38, 97, 109, 112, 59]) (by simp [esc1] at o2; simp; omega)) [.old 0] ⟨Nat.zero_le _, rfl, rfl, ⟨⟨rfl, rfl, rfl⟩, trivial⟩⟩ ⟨⟨rfl, rfl, rfl⟩, rfl, trivial⟩ ?_
      rintro _ _ ⟨rfl, rfl⟩
      refine ⟨.tup [.d (.int .i64 (([38, 97, 109, 112, 59] : List UInt8).length : Nat)), .nili], [(0, .bld 50 5 (out ++ [38, 97, 109, 112, 59]))], ⟨⟨rfl, rfl, rfl⟩, trivial⟩, rfl, ⟨rfl, trivial, trivial⟩, ?_⟩
      exact .inl ⟨⟨by omega, by omega⟩, _, _, _, ⟨k + 1, _, rfl, hlt, o1, rfl, rfl⟩, by omega, Mv.of [.old 0] rfl rfl rfl ⟨⟨rfl, rfl, rfl⟩, trivial⟩ ⟨rfl, rfl, ⟨rfl, rfl, rfl⟩, rfl, trivial⟩⟩
    · have hc : c = 60 := u8_is (of_decide_eq_true h2) rfl
      subst hc
      obtain ⟨o1, o2⟩ := one (by simp)
      refine CallsAbs.frame (WriteString_ok (out) ([38, 108, 116, 59]) (by simp [esc1] at o2; simp; omega)) [.old 0] ⟨Nat.zero_le _, rfl, rfl, ⟨⟨rfl, rfl, rfl⟩, trivial⟩⟩ ⟨⟨rfl, rfl, rfl⟩, rfl, trivial⟩ ?_
      rintro _ _ ⟨rfl, rfl⟩
      refine ⟨.tup [.d (.int .i64 (([38, 108, 116, 59] : List UInt8).length : Nat)), .nili], [(0, .bld 50 5 (out ++ [38, 108, 116, 59]))], ⟨⟨rfl, rfl, rfl⟩, trivial⟩, rfl, ⟨rfl, trivial, trivial⟩, ?_⟩
      exact .inl ⟨⟨by omega, by omega⟩, _, _, _, ⟨k + 1, _, rfl, hlt, o1, rfl, rfl⟩, by omega, Mv.of [.old 0] rfl rfl rfl ⟨⟨rfl, rfl, rfl⟩, trivial⟩ ⟨rfl, rfl, ⟨rfl, rfl, rfl⟩, rfl, trivial⟩⟩
    · have hc : c = 62 := u8_is (of_decide_eq_true h3) rfl
      subst hc
      obtain ⟨o1, o2⟩ := one (by simp)
      refine CallsAbs.frame (WriteString_ok (out) ([38, 103, 116, 59]) (by simp [esc1] at o2; simp; omega)) [.old 0] ⟨Nat.zero_le _, rfl, rfl, ⟨⟨rfl, rfl, rfl⟩, trivial⟩⟩ ⟨⟨rfl, rfl, rfl⟩, rfl, trivial⟩ ?_
      rintro _ _ ⟨rfl, rfl⟩
      refine ⟨.tup [.d (.int .i64 (([38, 103, 116, 59] : List UInt8).length : Nat)), .nili], [(0, .bld 50 5 (out ++ [38, 103, 116, 59]))], ⟨⟨rfl, rfl, rfl⟩, trivial⟩, rfl, ⟨rfl, trivial, trivial⟩, ?_⟩
      exact .inl ⟨⟨by omega, by omega⟩, _, _, _, ⟨k + 1, _, rfl, hlt, o1, rfl, rfl⟩, by omega, Mv.of [.old 0] rfl rfl rfl ⟨⟨rfl, rfl, rfl⟩, trivial⟩ ⟨rfl, rfl, ⟨rfl, rfl, rfl⟩, rfl, trivial⟩⟩
    · have c1 : c ≠ 38 := fun e => by subst e; exact absurd h1 (by decide)
      have c2 : c ≠ 60 := fun e => by subst e; exact absurd h2 (by decide)
      have c3 : c ≠ 62 := fun e => by subst e; exact absurd h3 (by decide)
      by_cases hq : c = 34 ∧ q = true
      · obtain ⟨rfl, rfl⟩ := hq
        obtain ⟨o1, o2⟩ := one (by simp)
        refine ⟨fun _ => ⟨fun _ => ?_, fun h => absurd h (by decide)⟩, fun h => absurd h (by decide)⟩
        refine CallsAbs.frame (WriteString_ok (out) ([38, 113, 117, 111, 116, 59]) (by simp [esc1] at o2; simp; omega)) [.old 0] ⟨Nat.zero_le _, rfl, rfl, ⟨⟨rfl, rfl, rfl⟩, trivial⟩⟩ ⟨⟨rfl, rfl, rfl⟩, rfl, trivial⟩ ?_
        rintro _ _ ⟨rfl, rfl⟩
        refine ⟨.tup [.d (.int .i64 (([38, 113, 117, 111, 116, 59] : List UInt8).length : Nat)), .nili], [(0, .bld 50 5 (out ++ [38, 113, 117, 111, 116, 59]))], ⟨⟨rfl, rfl, rfl⟩, trivial⟩, rfl, ⟨rfl, trivial, trivial⟩, ?_⟩
        exact .inl ⟨⟨by omega, by omega⟩, _, _, _, ⟨k + 1, _, rfl, hlt, o1, rfl, rfl⟩, by omega, Mv.of [.old 0] rfl rfl rfl ⟨⟨rfl, rfl, rfl⟩, trivial⟩ ⟨rfl, rfl, ⟨rfl, rfl, rfl⟩, rfl, trivial⟩⟩
      · have e1 : esc1 q c = [c] := esc_other q c c1 c2 c3 (fun h => by cases q with | true => exact absurd ⟨h, rfl⟩ hq | false => rfl)
        -- a byte as it is
        have byte : ¬ (c = 194 ∧ ∃ t, s.drop (k + 1) = 160 :: t) → (out ++ [c]) ++ escape q (s.drop (k + 1)) = escape q s ∧ out.length + 1 ≤ 6 * s.length := fun h => by
          obtain ⟨o1, o2⟩ := one h
          rw [e1] at o1 o2
          exact ⟨o1, o2⟩
        have rest : ∀ (b34 : Bool), b34 = decide ((c.toNat : Int) = 34) → b34 = true → q = true → False := fun b hb h1 h2 => hq ⟨u8_is (of_decide_eq_true (hb ▸ h1)) rfl, h2⟩
        clear h1 h2 h3
        refine ⟨fun h34 => ⟨fun hqt => absurd ⟨u8_is (of_decide_eq_true h34) rfl, hqt⟩ hq, fun hqf => ?_⟩, fun h34 => ?_⟩
        all_goals
          by_cases h194 : c = 194
          · subst h194
            refine ⟨fun _ => ?_, fun h => absurd h (by decide)⟩
            refine .inl ⟨⟨by omega, by omega⟩, fun hl => ?_, fun hl => ?_⟩
            · have hlt2 : k + 1 < s.length := by have := of_decide_eq_true hl; omega
              have hg2 : s.getD ((k : Int) + 1).toNat 0 = s[k + 1] := by have := getD_at s (k + 1) hlt2; simpa using this
              have hd2 : s.drop (k + 1) = s[k + 1] :: s.drop (k + 2) := List.drop_eq_getElem_cons hlt2
              refine .inl ⟨⟨by omega, by omega⟩, ⟨by omega, by omega⟩, ?_⟩
              rw [hg2]
              refine ⟨fun h5 => ?_, fun h5 => ?_⟩
              · have h160 : s[k + 1] = 160 := u8_is (of_decide_eq_true h5) rfl
                rw [h160] at hd2
                rw [hd2, escape_nb] at hI hol
                simp only [List.length_append] at hol
                refine CallsAbs.frame (WriteString_ok (out) ([38, 110, 98, 115, 112, 59]) (by simp at hol; simp; omega)) [.old 0] ⟨Nat.zero_le _, rfl, rfl, ⟨⟨rfl, rfl, rfl⟩, trivial⟩⟩ ⟨⟨rfl, rfl, rfl⟩, rfl, trivial⟩ ?_
                rintro _ _ ⟨rfl, rfl⟩
                refine ⟨.tup [.d (.int .i64 (([38, 110, 98, 115, 112, 59] : List UInt8).length : Nat)), .nili], [(0, .bld 50 5 (out ++ [38, 110, 98, 115, 112, 59]))], ⟨⟨rfl, rfl, rfl⟩, trivial⟩, rfl, ⟨rfl, trivial, trivial⟩, ?_⟩
                exact .inl ⟨⟨by omega, by omega⟩, .inl ⟨⟨by omega, by omega⟩, _, _, _, ⟨k + 2, _, rfl, hlt2, by rw [List.append_assoc]; exact hI, rfl, rfl⟩, by omega, Mv.of [.old 0] rfl rfl rfl ⟨⟨rfl, rfl, rfl⟩, trivial⟩ ⟨rfl, rfl, ⟨rfl, rfl, rfl⟩, congrArg (D.int .i64) (by simp; omega), trivial⟩⟩⟩
              · have n160 : s[k + 1] ≠ 160 := fun e => by rw [e] at h5; exact absurd h5 (by decide)
                obtain ⟨o1, o2⟩ := byte (by rintro ⟨_, t, ht⟩; rw [hd2] at ht; injection ht with h _; exact n160 h)
                refine CallsAbs.frame (WriteByte_ok (out) (194) (by omega)) [.old 0] ⟨Nat.zero_le _, rfl, rfl, ⟨⟨rfl, rfl, rfl⟩, trivial⟩⟩ ⟨⟨rfl, rfl, rfl⟩, rfl, trivial⟩ ?_
                rintro _ _ ⟨rfl, rfl⟩
                refine ⟨.nili, [(0, .bld 50 5 (out ++ [194]))], ⟨⟨rfl, rfl, rfl⟩, trivial⟩, rfl, trivial, ?_⟩
                exact .inl ⟨⟨by omega, by omega⟩, _, _, _, ⟨k + 1, _, rfl, hlt, o1, rfl, rfl⟩, by omega, Mv.of [.old 0] rfl rfl rfl ⟨⟨rfl, rfl, rfl⟩, trivial⟩ ⟨rfl, rfl, ⟨rfl, rfl, rfl⟩, rfl, trivial⟩⟩
            · have hge : s.length ≤ k + 1 := by have := of_decide_eq_false hl; omega
              obtain ⟨o1, o2⟩ := byte (by rintro ⟨_, t, ht⟩; rw [List.drop_eq_nil_of_le hge] at ht; cases ht)
              refine CallsAbs.frame (WriteByte_ok (out) (194) (by omega)) [.old 0] ⟨Nat.zero_le _, rfl, rfl, ⟨⟨rfl, rfl, rfl⟩, trivial⟩⟩ ⟨⟨rfl, rfl, rfl⟩, rfl, trivial⟩ ?_
              rintro _ _ ⟨rfl, rfl⟩
              refine ⟨.nili, [(0, .bld 50 5 (out ++ [194]))], ⟨⟨rfl, rfl, rfl⟩, trivial⟩, rfl, trivial, ?_⟩
              exact .inl ⟨⟨by omega, by omega⟩, _, _, _, ⟨k + 1, _, rfl, hlt, o1, rfl, rfl⟩, by omega, Mv.of [.old 0] rfl rfl rfl ⟨⟨rfl, rfl, rfl⟩, trivial⟩ ⟨rfl, rfl, ⟨rfl, rfl, rfl⟩, rfl, trivial⟩⟩
          · refine ⟨fun h => absurd (u8_is (of_decide_eq_true h) rfl) h194, fun _ => ?_⟩
            obtain ⟨o1, o2⟩ := byte (fun h => h194 h.1)
            refine CallsAbs.frame (WriteByte_ok (out) (c) (by omega)) [.old 0] ⟨Nat.zero_le _, rfl, rfl, ⟨⟨rfl, rfl, rfl⟩, trivial⟩⟩ ⟨⟨rfl, rfl, rfl⟩, rfl, trivial⟩ ?_
            rintro _ _ ⟨rfl, rfl⟩
            refine ⟨.nili, [(0, .bld 50 5 (out ++ [c]))], ⟨⟨rfl, rfl, rfl⟩, trivial⟩, rfl, trivial, ?_⟩
            exact .inl ⟨⟨by omega, by omega⟩, _, _, _, ⟨k + 1, _, rfl, hlt, o1, rfl, rfl⟩, by omega, Mv.of [.old 0] rfl rfl rfl ⟨⟨rfl, rfl, rfl⟩, trivial⟩ ⟨rfl, rfl, ⟨rfl, rfl, rfl⟩, rfl, trivial⟩⟩
  · have hk' : k = s.length := by have := of_decide_eq_false h; omega
    subst hk'
    rw [List.drop_length] at hI hol
    refine CallsAbs.frame (String_ok (out) (by omega)) [.old 0] ⟨Nat.zero_le _, rfl, rfl, ⟨⟨rfl, rfl, rfl⟩, trivial⟩⟩ ⟨⟨rfl, rfl, rfl⟩, trivial⟩ ?_
    rintro _ _ ⟨rfl, rfl⟩
    refine ⟨.d (.str (out)), [(0, .dead)], ⟨trivial, trivial⟩, rfl, rfl, ?_⟩
    exact ⟨_, _, fin_out rfl, congrArg (fun x => AV.d (.str x)) (by simpa [escape] using hI)⟩
end Go.Proofs.Ytcmkiancbgmmhaa

namespace Go.Proofs.Ytcmkiancbgmmhaa
open Go.Aw
set_option maxHeartbeats 1600000
set_option linter.unusedSimpArgs false
set_option linter.unusedVariables false
def attrH (a : List UInt8 × List UInt8) : List UInt8 := [32] ++ a.1 ++ [61, 34] ++ escape true a.2 ++ [34]
def attrsH (l : List (List UInt8 × List UInt8)) : List UInt8 := l.flatMap attrH
mutual
def htN : Node → List UInt8
  | .mk nm a t k => if nm = [] then escape false t else [60] ++ nm ++ attrsH a ++ [62] ++ (if nm ∈ voids then [] else htL k ++ ([60, 47] ++ nm ++ [62]))
def htL : List Node → List UInt8
  | [] => []
  | n :: r => htN n ++ htL r
end
theorem htN_eq (n : Node) : htN n = if n.name = [] then escape false n.text else [60] ++ n.name ++ attrsH n.attrs ++ [62] ++ (if n.name ∈ voids then [] else htL n.kids ++ ([60, 47] ++ n.name ++ [62])) := by cases n; unfold htN; rfl
theorem htL_cons (n : Node) (r : List Node) : htL (n :: r) = htN n ++ htL r := by rw [htL]
theorem htL_append : ∀ a b : List Node, htL (a ++ b) = htL a ++ htL b
  | [], b => by rw [htL]; rfl
  | n :: r, b => by rw [List.cons_append, htL_cons, htL_cons, htL_append r b, List.append_assoc]
theorem attrsH_cons (a : List UInt8 × List UInt8) (r : List (List UInt8 × List UInt8)) : attrsH (a :: r) = attrH a ++ attrsH r := rfl
def partV (n : Node) : AV := if n.name = [] then .ifc 73 (.d (.str n.text)) else .ifc 74 (nodeA n)
theorem partV_pure (n : Node) : (partV n).pure = true := by unfold partV; split <;> rfl
set_option maxRecDepth 100000 in
theorem partOf_ok (n : Node) : PureC Try.prog 27 [nodeA n] (partV n) := by
  refine pure_okT Try.wf Try.tab_ok Try.func27 (by decide +kernel) rfl rfl rfl (partV_pure n) ?_
  refine ⟨_, rfl, _, rfl, ?_⟩
  by_cases h : n.name = []
  · refine ⟨fun _ => ?_, fun h' => absurd (of_decide_eq_false h') (fun h' => h' h)⟩
    refine ⟨_, rfl, _, rfl, ?_⟩
    exact ⟨_, _, fin_out rfl, by unfold partV; rw [if_pos h]; rfl⟩
  · refine ⟨fun h' => absurd (of_decide_eq_true h') h, fun _ => ?_⟩
    refine ⟨_, rfl, Nat.le_refl _, ?_⟩
    exact ⟨_, _, fin_out rfl, by unfold partV; rw [if_neg h]; rfl⟩
abbrev bldS (s : List UInt8) : Store := ⟨1, [(0, .bld 50 5 s)]⟩
set_option maxRecDepth 100000 in
theorem lay_words (w s : List UInt8) (hw : w.length ≤ 1000000000) (hs : s.length + (escape false w).length ≤ 140737488355328) : CallsAbs Try.prog 114 [.d (.str w), .ref 0 0 0] (bldS s) fun r σ' => r = .tup [] ∧ σ' = bldS (s ++ escape false w) := by
  refine fn_okTE Try.wf Try.tab_ok Try.func114 (by decide +kernel) rfl rfl ?_
  refine E.of Try.wf Try.tab_ok ?_
  refine PureC.use (Escape_ok w false (by omega)) ?_
  refine CallsAbs.frame (WriteString_ok (s) (escape false w) hs) [.old 0] ⟨Nat.zero_le _, rfl, rfl, ⟨⟨rfl, rfl, rfl⟩, trivial⟩⟩ ⟨⟨rfl, rfl, rfl⟩, rfl, trivial⟩ ?_
  rintro _ _ ⟨rfl, rfl⟩
  refine ⟨.tup [.d (.int .i64 ((escape false w : List UInt8).length : Nat)), .nili], [(0, .bld 50 5 (s ++ escape false w))], ⟨⟨rfl, rfl, rfl⟩, trivial⟩, rfl, ⟨rfl, trivial, trivial⟩, ?_⟩
  exact ⟨.tup [], bldS (s ++ escape false w), fin_mv [] rfl rfl rfl ⟨⟨rfl, rfl, rfl⟩, trivial⟩ trivial, rfl, rfl⟩
theorem lay_method_w : methodOf Try.prog 73 "verso/ser.lay" = some 114 := by decide +kernel
theorem lay_method_e : methodOf Try.prog 74 "verso/ser.lay" = some 116 := by decide +kernel
def nodeE (n : Node) : Ob := .rows (4, 74) [[.d (.str n.name), .d (.sl (attrsD n.attrs)), .d (.str n.text), .d (.sl (nodesD n.kids))]]
def attrO (a : List UInt8 × List UInt8) : Ob := .rows (2, 42) [[.d (.str a.1), .d (.str a.2)]]
theorem attrsH_take (l : List (List UInt8 × List UInt8)) (k : Nat) (h : k < l.length) : attrsH (l.take (k + 1)) = attrsH (l.take k) ++ attrH l[k] := by
  unfold attrsH
  rw [List.take_succ_eq_append_getElem h, List.flatMap_append]; simp
theorem htL_take (l : List Node) (k : Nat) (h : k < l.length) : htL (l.take (k + 1)) = htL (l.take k) ++ htN l[k] := by
  rw [List.take_succ_eq_append_getElem h, htL_append]
  rw [htL_cons]; show _ = _; rw [htL, List.append_nil]
theorem attrsH_take_le (l : List (List UInt8 × List UInt8)) (k : Nat) : (attrsH (l.take k)).length ≤ (attrsH l).length := by
  have : attrsH l = attrsH (l.take k) ++ attrsH (l.drop k) := by
    unfold attrsH; rw [← List.flatMap_append, List.take_append_drop]
  rw [this, List.length_append]; omega
theorem htL_take_le (l : List Node) (k : Nat) : (htL (l.take k)).length ≤ (htL l).length := by
  have : htL l = htL (l.take k) ++ htL (l.drop k) := by
    rw [← htL_append, List.take_append_drop]
  rw [this, List.length_append]; omega
set_option maxHeartbeats 1000000 in
set_option maxRecDepth 100000 in
theorem lay_elem (N : Nat) : ∀ (n : Node) (s : List UInt8), szN n ≤ N → ShN n → n.name ≠ [] → s.length + (htN n).length ≤ 100000000000 → szN n ≤ 1000000000 → CallsAbs Try.prog 116 [nodeA n, .ref 0 0 0] (bldS s) fun r σ' => r = .tup [] ∧ σ' = bldS (s ++ htN n) := by
  induction N using Nat.strongRecOn with
  | ind N ih =>
  intro n s hN hSh hne hs hB
  have hsn := (ShN_eq _).1 hSh
  have hsz := szN_eq n
  have hkl := nodesD_len n.kids
  have hal := attrsD_len n.attrs
  have hlen := sz_len n.kids
  have hatt := hsn.2.1.1
  have hht := htN_eq n
  rw [if_neg hne] at hht
  have hL := congrArg List.length hht
  simp only [List.length_append, List.length_cons, List.length_nil] at hL
  refine fn_okTE Try.wf Try.tab_ok Try.func116 (by decide +kernel) rfl rfl ?_
  refine E.seq (E.of Try.wf Try.tab_ok ?_)
  refine E.seq (E.of Try.wf Try.tab_ok ?_)
  refine ⟨_, rfl, _, rfl, ?_⟩
  refine ⟨by simp only [List.length_cons, List.length_nil]; omega, ?_⟩
  refine CallsAbs.frame (WriteString_ok (s) (([60] ++ n.name)) (by simp only [List.length_append, List.length_cons, List.length_nil]; omega)) [.old 0] ⟨Nat.zero_le _, rfl, rfl, ⟨⟨rfl, rfl, rfl⟩, trivial⟩⟩ ⟨⟨rfl, rfl, rfl⟩, rfl, trivial⟩ ?_
  rintro _ _ ⟨rfl, rfl⟩
  refine ⟨.tup [.d (.int .i64 ((([60] ++ n.name) : List UInt8).length : Nat)), .nili], [(0, .bld 50 5 (s ++ ([60] ++ n.name)))], ⟨⟨rfl, rfl, rfl⟩, trivial⟩, rfl, ⟨rfl, trivial, trivial⟩, ?_⟩
  refine midE (fun s' σ => s' = [(1, .ref 0 0 0), (2, .ref 1 0 0)] ∧ σ = ⟨2, [(0, .bld 50 5 (s ++ ([60] ++ n.name) ++ attrsH n.attrs)), (1, nodeE n)]⟩) ?_ ?_
  · refine E.seq (E.of Try.wf Try.tab_ok ?_)
    refine ⟨_, rfl, _, rfl, ?_⟩
    refine blockE ?_
    refine loopE (fun m s' σ => ∃ (k : Nat), m = n.attrs.length - k ∧ k ≤ n.attrs.length ∧ s' = [(1, .ref 0 0 0), (2, .ref 1 0 0), (14, .d (.sl (attrsD n.attrs))), (15, .d (.int .i64 n.attrs.length)), (16, .d (.int .i64 k))] ∧ σ = ⟨2, [(0, .bld 50 5 (s ++ ([60] ++ n.name) ++ attrsH (n.attrs.take k))), (1, nodeE n)]⟩)
      ⟨0, rfl, Nat.zero_le _, rfl, rfl⟩ ?_ ?_
    · exact Mv.of [.old 1] rfl rfl rfl ⟨⟨rfl, rfl, by simp [attrsH]⟩, ⟨rfl, .inl ⟨rfl, fun row h => by rw [List.mem_singleton.1 h]; rfl⟩⟩, trivial⟩ ⟨⟨rfl, rfl, rfl⟩, ⟨rfl, rfl, rfl⟩, rfl, by rw [← hal]; rfl, rfl, trivial⟩
    rintro _ _ _ ⟨k, rfl, hk, rfl, rfl⟩
    refine E.seq (E.of Try.wf Try.tab_ok ?_)
    refine E.seq (E.of Try.wf Try.tab_ok ?_)
    refine ⟨fun h => ?_, fun h => ?_⟩
    · have hlt : k < n.attrs.length := by have := of_decide_eq_true h; omega
      clear h
      have htk := attrsH_take n.attrs k hlt
      have hle := attrsH_take_le n.attrs (k + 1)
      have hsa := hsn.2.1.2 _ (List.getElem_mem hlt)
      have hel := (escape_len n.attrs[k].2.length true n.attrs[k].2 (Nat.le_refl _)).2
      rw [htk] at hle
      refine E.seq (blockE ?_)
      refine midT Try.wf Try.tab_ok (fun s' σ => s' = [(1, .ref 0 0 0), (2, .ref 1 0 0), (5, .ref 2 0 0), (14, .d (.sl (attrsD n.attrs))), (15, .d (.int .i64 n.attrs.length)), (16, .d (.int .i64 k))] ∧ σ = ⟨3, [(0, .bld 50 5 (s ++ ([60] ++ n.name) ++ attrsH (n.attrs.take k))), (1, nodeE n), (2, attrO n.attrs[k])]⟩) ?_ ?_
      · refine ⟨⟨by omega, by rw [hal]; omega⟩, _, attrsD_get n.attrs k hlt, rfl, ?_⟩
        refine ⟨Nat.le_refl _, _, rfl, rfl, Nat.le_refl _, ?_⟩
        refine ⟨_, _, ⟨rfl, rfl⟩, ?_⟩
        exact Mv.of [.old 1, .old 2] rfl rfl rfl ⟨⟨rfl, rfl, rfl⟩, ⟨rfl, .inl ⟨rfl, fun row h => by rw [List.mem_singleton.1 h]; rfl⟩⟩, ⟨rfl, .inl ⟨rfl, fun row h => by rw [List.mem_singleton.1 h]; rfl⟩⟩, trivial⟩ ⟨⟨rfl, rfl, rfl⟩, ⟨rfl, rfl, rfl⟩, ⟨rfl, rfl, rfl⟩, rfl, rfl, rfl, trivial⟩
      rintro _ _ ⟨rfl, rfl⟩
      have c1 := Escape_ok n.attrs[k].2 true (by omega)
      refine drawnZ Try.wf Try.tab_ok [10] (fun t => match t with
        | 0 => ⟨3, [(0, .bld 50 5 (s ++ ([60] ++ n.name) ++ attrsH (n.attrs.take k))), (1, nodeE n), (2, attrO n.attrs[k])]⟩
        | _ => ⟨3, [(0, .bld 50 5 (s ++ ([60] ++ n.name) ++ attrsH (n.attrs.take k) ++ attrH n.attrs[k])), (1, nodeE n), (2, attrO n.attrs[k])]⟩) rfl Try.mixed (by decide +kernel) ?_
      unfold attrH at hle
      simp only [List.length_append, List.length_cons, List.length_nil] at hle
      refine zblind (by decide +kernel) rfl rfl (fun _ => FinMove.refl _ _ _) ?_
      refine zblind (by decide +kernel) rfl rfl (fun _ => FinMove.refl _ _ _) ?_
      refine zreadL (List.range 2) (by decide +kernel) rfl rfl (by repeat' first | exact trivial | exact ⟨_, rfl, _, rfl, FinMove.refl _ _ _⟩ | refine ⟨?_, ?_⟩) ?_
      refine zblind (by decide +kernel) rfl rfl (fun _ => ⟨by simp only [List.length_append, List.length_cons, List.length_nil]; omega, FinMove.refl _ _ _⟩) ?_
      refine zblind (by decide +kernel) rfl rfl (fun _ => ⟨by simp only [List.length_append, List.length_cons, List.length_nil]; omega, FinMove.refl _ _ _⟩) ?_
      refine zblind (by decide +kernel) rfl rfl (fun _ => FinMove.refl _ _ _) ?_
      refine zreadL (List.range 2) (by decide +kernel) rfl rfl (by repeat' first | exact trivial | exact ⟨_, rfl, _, rfl, FinMove.refl _ _ _⟩ | refine ⟨?_, ?_⟩) ?_
      refine zreadL [0, 1] (by decide +kernel) rfl rfl ⟨PureC.use c1 (FinMove.refl _ _ _), PureC.use c1 (FinMove.refl _ _ _), trivial⟩ ?_
      refine zblind (by decide +kernel) rfl rfl (fun _ => ⟨by simp only [List.length_append, List.length_cons, List.length_nil]; omega, FinMove.refl _ _ _⟩) ?_
      refine zblind (by decide +kernel) rfl rfl (fun _ => ⟨by simp only [List.length_append, List.length_cons, List.length_nil]; omega, FinMove.refl _ _ _⟩) ?_
      refine zeff (r := .tup [.d (.int .i64 (attrH n.attrs[k]).length), .nili]) rfl rfl rfl ?_ ?_
      · refine CallsAbs.frame (WriteString_ok ((s ++ ([60] ++ n.name) ++ attrsH (n.attrs.take k))) (attrH n.attrs[k]) (by unfold attrH; simp only [List.length_append, List.length_cons, List.length_nil]; omega)) [.old 0] ⟨Nat.zero_le _, rfl, rfl, ⟨⟨rfl, rfl, rfl⟩, trivial⟩⟩ ⟨⟨rfl, rfl, rfl⟩, rfl, trivial⟩ ?_
        rintro _ _ ⟨rfl, rfl⟩
        refine ⟨.tup [.d (.int .i64 ((attrH n.attrs[k] : List UInt8).length : Nat)), .nili], [(0, .bld 50 5 ((s ++ ([60] ++ n.name) ++ attrsH (n.attrs.take k)) ++ attrH n.attrs[k]))], ⟨⟨rfl, rfl, rfl⟩, trivial⟩, rfl, ⟨rfl, trivial, trivial⟩, ?_⟩
        exact fin_mv [] rfl rfl rfl ⟨⟨rfl, rfl, rfl⟩, ⟨rfl, .inl ⟨rfl, fun row h => by rw [List.mem_singleton.1 h]; rfl⟩⟩, ⟨rfl, .inl ⟨rfl, fun row h => by rw [List.mem_singleton.1 h]; rfl⟩⟩, trivial⟩ ⟨rfl, trivial, trivial⟩
      refine E.of Try.wf Try.tab_ok ?_
      repeat (first | refine ⟨fun _ => ?_, fun h => absurd (of_decide_eq_false h) (by omega)⟩ | refine ⟨fun h => absurd (of_decide_eq_true h) (by omega), fun _ => ?_⟩ | refine ⟨fun _ => ?_, fun h => absurd (of_decide_eq_true h) (by omega)⟩ | refine ⟨fun h => absurd (of_decide_eq_false h) (by omega), fun _ => ?_⟩ | refine .inl ⟨⟨by omega, by omega⟩, ?_⟩ | refine ⟨⟨by omega, by omega⟩, ?_⟩)
      refine ⟨_, _, _, ⟨k + 1, rfl, hlt, rfl, rfl⟩, by omega, ?_⟩
      exact Mv.of [.old 1] rfl rfl rfl ⟨⟨rfl, rfl, by rw [htk]; simp only [List.append_assoc]⟩, ⟨rfl, .inl ⟨rfl, fun row h => by rw [List.mem_singleton.1 h]; rfl⟩⟩, trivial⟩ ⟨⟨rfl, rfl, rfl⟩, ⟨rfl, rfl, rfl⟩, rfl, rfl, rfl, trivial⟩
    · have hk' : k = n.attrs.length := by have := of_decide_eq_false h; omega
      subst hk'
      rw [List.take_length]
      exact ⟨_, _, ⟨rfl, rfl⟩, Mv.of [.old 1] rfl rfl rfl ⟨⟨rfl, rfl, rfl⟩, ⟨rfl, .inl ⟨rfl, fun row h => by rw [List.mem_singleton.1 h]; rfl⟩⟩, trivial⟩ ⟨⟨rfl, rfl, rfl⟩, ⟨rfl, rfl, rfl⟩, trivial⟩⟩
  rintro _ _ ⟨rfl, rfl⟩
  refine E.seq (E.of Try.wf Try.tab_ok ?_)
  refine CallsAbs.frame (WriteString_ok ((s ++ ([60] ++ n.name) ++ attrsH n.attrs)) ([62]) (by simp only [List.length_append, List.length_cons, List.length_nil]; omega)) [.old 0] ⟨Nat.zero_le _, rfl, rfl, ⟨⟨rfl, rfl, rfl⟩, trivial⟩⟩ ⟨⟨rfl, rfl, rfl⟩, rfl, trivial⟩ ?_
  rintro _ _ ⟨rfl, rfl⟩
  refine ⟨.tup [.d (.int .i64 (([62] : List UInt8).length : Nat)), .nili], [(0, .bld 50 5 ((s ++ ([60] ++ n.name) ++ attrsH n.attrs) ++ [62]))], ⟨⟨rfl, rfl, rfl⟩, trivial⟩, rfl, ⟨rfl, trivial, trivial⟩, ?_⟩
  have c2 := Void_ok n.name
  refine midT Try.wf Try.tab_ok (fun s' σ => n.name ∉ voids ∧ s' = [(1, .ref 0 0 0), (2, .ref 1 0 0)] ∧ σ = ⟨2, [(0, .bld 50 5 (s ++ ([60] ++ n.name) ++ attrsH n.attrs ++ [62])), (1, nodeE n)]⟩) ?_ ?_
  · refine ⟨_, rfl, _, rfl, ?_⟩
    refine PureC.use c2 ?_
    by_cases hv : n.name ∈ voids
    · rw [decide_eq_true hv]
      repeat (first | refine ⟨fun _ => ?_, fun h => absurd h (by decide)⟩ | refine ⟨fun h => absurd h (by decide), fun _ => ?_⟩)
      refine ⟨.tup [], bldS (s ++ ([60] ++ n.name) ++ attrsH n.attrs ++ [62]), fin_mv [] rfl rfl rfl ⟨⟨rfl, rfl, rfl⟩, trivial⟩ trivial, rfl, ?_⟩
      rw [hht, if_pos hv]
      simp only [List.append_assoc, List.append_nil]
    · rw [decide_eq_false hv]
      repeat (first | refine ⟨fun _ => ?_, fun h => absurd h (by decide)⟩ | refine ⟨fun h => absurd h (by decide), fun _ => ?_⟩)
      exact ⟨_, _, ⟨hv, rfl, rfl⟩, Mv.of [.old 1] rfl rfl rfl ⟨⟨rfl, rfl, rfl⟩, ⟨rfl, .inl ⟨rfl, fun row h => by rw [List.mem_singleton.1 h]; rfl⟩⟩, trivial⟩ ⟨⟨rfl, rfl, rfl⟩, ⟨rfl, rfl, rfl⟩, trivial⟩⟩
  rintro _ _ ⟨hv, rfl, rfl⟩
  rw [if_neg hv] at hht hL
  simp only [List.length_append, List.length_cons, List.length_nil] at hL
  refine midE (fun s' σ => s' = [(1, .ref 0 0 0), (2, .ref 1 0 0)] ∧ σ = ⟨2, [(0, .bld 50 5 (s ++ ([60] ++ n.name) ++ attrsH n.attrs ++ [62] ++ htL n.kids)), (1, nodeE n)]⟩) ?_ ?_
  · refine E.seq (E.of Try.wf Try.tab_ok ?_)
    refine ⟨_, rfl, _, rfl, ?_⟩
    refine blockE ?_
    refine loopE (fun m s' σ => ∃ (k : Nat), m = n.kids.length - k ∧ k ≤ n.kids.length ∧ s' = [(1, .ref 0 0 0), (2, .ref 1 0 0), (38, .d (.sl (nodesD n.kids))), (39, .d (.int .i64 n.kids.length)), (40, .d (.int .i64 k))] ∧ σ = ⟨2, [(0, .bld 50 5 (s ++ ([60] ++ n.name) ++ attrsH n.attrs ++ [62] ++ htL (n.kids.take k))), (1, nodeE n)]⟩)
      ⟨0, rfl, Nat.zero_le _, rfl, rfl⟩ ?_ ?_
    · exact Mv.of [.old 1] rfl rfl rfl ⟨⟨rfl, rfl, by simp [htL]⟩, ⟨rfl, .inl ⟨rfl, fun row h => by rw [List.mem_singleton.1 h]; rfl⟩⟩, trivial⟩ ⟨⟨rfl, rfl, rfl⟩, ⟨rfl, rfl, rfl⟩, rfl, by rw [← hkl]; rfl, rfl, trivial⟩
    rintro _ _ _ ⟨k, rfl, hk, rfl, rfl⟩
    refine E.seq (E.of Try.wf Try.tab_ok ?_)
    refine E.seq (E.of Try.wf Try.tab_ok ?_)
    refine ⟨fun h => ?_, fun h => ?_⟩
    · have hlt : k < n.kids.length := by have := of_decide_eq_true h; omega
      clear h
      have htk := htL_take n.kids k hlt
      have hle := htL_take_le n.kids (k + 1)
      have hks := sz_mem (List.getElem_mem hlt)
      have hsk := ShL_mem hsn.2.2.2 _ (List.getElem_mem hlt)
      have hsk2 := (ShN_eq _).1 hsk
      rw [htk, List.length_append] at hle
      have c3 := partOf_ok n.kids[k]
      refine E.seq (blockE ?_)
      refine midT Try.wf Try.tab_ok (fun s' σ => s' = [(1, .ref 0 0 0), (2, .ref 1 0 0), (7, .ref 2 0 0), (38, .d (.sl (nodesD n.kids))), (39, .d (.int .i64 n.kids.length)), (40, .d (.int .i64 k))] ∧ σ = ⟨3, [(0, .bld 50 5 (s ++ ([60] ++ n.name) ++ attrsH n.attrs ++ [62] ++ htL (n.kids.take k))), (1, nodeE n), (2, nodeO n.kids[k])]⟩) ?_ ?_
      · refine ⟨⟨by omega, by rw [hkl]; omega⟩, _, nodesD_get n.kids k hlt, rfl, ?_⟩
        refine ⟨Nat.le_refl _, _, rfl, rfl, Nat.le_refl _, ?_⟩
        refine ⟨_, _, ⟨rfl, rfl⟩, ?_⟩
        exact Mv.of [.old 1, .old 2] rfl rfl rfl ⟨⟨rfl, rfl, rfl⟩, ⟨rfl, .inl ⟨rfl, fun row h => by rw [List.mem_singleton.1 h]; rfl⟩⟩, ⟨rfl, .inl ⟨rfl, fun row h => by rw [List.mem_singleton.1 h]; rfl⟩⟩, trivial⟩ ⟨⟨rfl, rfl, rfl⟩, ⟨rfl, rfl, rfl⟩, ⟨rfl, rfl, rfl⟩, rfl, rfl, rfl, trivial⟩
      rintro _ _ ⟨rfl, rfl⟩
      refine E.of Try.wf Try.tab_ok ?_
      refine ⟨_, rfl, Nat.le_refl _, ?_⟩
      by_cases hne2 : n.kids[k].name = []
      · have e : partV n.kids[k] = .ifc 73 (.d (.str n.kids[k].text)) := by unfold partV; rw [if_pos hne2]
        have e2 : htN n.kids[k] = escape false n.kids[k].text := by rw [htN_eq, if_pos hne2]
        rw [e] at c3
        rw [e2] at htk hle
        refine PureC.use c3 ?_
        refine ⟨_, lay_method_w, ?_⟩
        refine CallsAbs.frame (lay_words n.kids[k].text (s ++ ([60] ++ n.name) ++ attrsH n.attrs ++ [62] ++ htL (n.kids.take k)) hsk2.2.2.1 (by simp only [List.length_append, List.length_cons, List.length_nil]; omega)) [.old 0] ⟨Nat.zero_le _, rfl, rfl, ⟨⟨rfl, rfl, rfl⟩, trivial⟩⟩ ⟨rfl, ⟨rfl, rfl, rfl⟩, trivial⟩ ?_
        rintro _ _ ⟨rfl, rfl⟩
        refine ⟨.tup [], [(0, .bld 50 5 (s ++ ([60] ++ n.name) ++ attrsH n.attrs ++ [62] ++ htL (n.kids.take k) ++ escape false n.kids[k].text))], ⟨⟨rfl, rfl, rfl⟩, trivial⟩, rfl, trivial, ?_⟩
        refine E.of Try.wf Try.tab_ok ?_
        repeat (first | refine ⟨fun _ => ?_, fun h => absurd (of_decide_eq_false h) (by omega)⟩ | refine ⟨fun h => absurd (of_decide_eq_true h) (by omega), fun _ => ?_⟩ | refine ⟨fun _ => ?_, fun h => absurd (of_decide_eq_true h) (by omega)⟩ | refine ⟨fun h => absurd (of_decide_eq_false h) (by omega), fun _ => ?_⟩ | refine .inl ⟨⟨by omega, by omega⟩, ?_⟩ | refine ⟨⟨by omega, by omega⟩, ?_⟩)
        refine ⟨_, _, _, ⟨k + 1, rfl, hlt, rfl, rfl⟩, by omega, ?_⟩
        exact Mv.of [.old 1] rfl rfl rfl ⟨⟨rfl, rfl, by rw [htk]; simp only [List.append_assoc]⟩, ⟨rfl, .inl ⟨rfl, fun row h => by rw [List.mem_singleton.1 h]; rfl⟩⟩, trivial⟩ ⟨⟨rfl, rfl, rfl⟩, ⟨rfl, rfl, rfl⟩, rfl, rfl, rfl, trivial⟩
      · have e : partV n.kids[k] = .ifc 74 (nodeA n.kids[k]) := by unfold partV; rw [if_neg hne2]
        rw [e] at c3
        refine PureC.use c3 ?_
        refine ⟨_, lay_method_e, ?_⟩
        refine CallsAbs.frame (ih (szN n.kids[k]) (by omega) n.kids[k] (s ++ ([60] ++ n.name) ++ attrsH n.attrs ++ [62] ++ htL (n.kids.take k)) (Nat.le_refl _) hsk hne2 (by simp only [List.length_append, List.length_cons, List.length_nil]; omega) (by omega)) [.old 0] ⟨Nat.zero_le _, rfl, rfl, ⟨⟨rfl, rfl, rfl⟩, trivial⟩⟩ ⟨vrel_self _ rfl, ⟨rfl, rfl, rfl⟩, trivial⟩ ?_
        rintro _ _ ⟨rfl, rfl⟩
        refine ⟨.tup [], [(0, .bld 50 5 (s ++ ([60] ++ n.name) ++ attrsH n.attrs ++ [62] ++ htL (n.kids.take k) ++ htN n.kids[k]))], ⟨⟨rfl, rfl, rfl⟩, trivial⟩, rfl, trivial, ?_⟩
        refine E.of Try.wf Try.tab_ok ?_
        repeat (first | refine ⟨fun _ => ?_, fun h => absurd (of_decide_eq_false h) (by omega)⟩ | refine ⟨fun h => absurd (of_decide_eq_true h) (by omega), fun _ => ?_⟩ | refine ⟨fun _ => ?_, fun h => absurd (of_decide_eq_true h) (by omega)⟩ | refine ⟨fun h => absurd (of_decide_eq_false h) (by omega), fun _ => ?_⟩ | refine .inl ⟨⟨by omega, by omega⟩, ?_⟩ | refine ⟨⟨by omega, by omega⟩, ?_⟩)
        refine ⟨_, _, _, ⟨k + 1, rfl, hlt, rfl, rfl⟩, by omega, ?_⟩
        exact Mv.of [.old 1] rfl rfl rfl ⟨⟨rfl, rfl, by rw [htk]; simp only [List.append_assoc]⟩, ⟨rfl, .inl ⟨rfl, fun row h => by rw [List.mem_singleton.1 h]; rfl⟩⟩, trivial⟩ ⟨⟨rfl, rfl, rfl⟩, ⟨rfl, rfl, rfl⟩, rfl, rfl, rfl, trivial⟩
    · have hk' : k = n.kids.length := by have := of_decide_eq_false h; omega
      subst hk'
      rw [List.take_length]
      exact ⟨_, _, ⟨rfl, rfl⟩, Mv.of [.old 1] rfl rfl rfl ⟨⟨rfl, rfl, rfl⟩, ⟨rfl, .inl ⟨rfl, fun row h => by rw [List.mem_singleton.1 h]; rfl⟩⟩, trivial⟩ ⟨⟨rfl, rfl, rfl⟩, ⟨rfl, rfl, rfl⟩, trivial⟩⟩
  rintro _ _ ⟨rfl, rfl⟩
  refine E.of Try.wf Try.tab_ok ?_
  refine ⟨_, rfl, _, rfl, ?_⟩
  refine ⟨by simp only [List.length_append, List.length_cons, List.length_nil]; omega, ?_⟩
  refine ⟨by simp only [List.length_append, List.length_cons, List.length_nil]; omega, ?_⟩
  refine CallsAbs.frame (WriteString_ok ((s ++ ([60] ++ n.name) ++ attrsH n.attrs ++ [62] ++ htL n.kids)) (([60, 47] ++ n.name ++ [62])) (by simp only [List.length_append, List.length_cons, List.length_nil]; omega)) [.old 0] ⟨Nat.zero_le _, rfl, rfl, ⟨⟨rfl, rfl, rfl⟩, trivial⟩⟩ ⟨⟨rfl, rfl, rfl⟩, rfl, trivial⟩ ?_
  rintro _ _ ⟨rfl, rfl⟩
  refine ⟨.tup [.d (.int .i64 ((([60, 47] ++ n.name ++ [62]) : List UInt8).length : Nat)), .nili], [(0, .bld 50 5 ((s ++ ([60] ++ n.name) ++ attrsH n.attrs ++ [62] ++ htL n.kids) ++ ([60, 47] ++ n.name ++ [62])))], ⟨⟨rfl, rfl, rfl⟩, trivial⟩, rfl, ⟨rfl, trivial, trivial⟩, ?_⟩
  refine ⟨.tup [], bldS (s ++ ([60] ++ n.name) ++ attrsH n.attrs ++ [62] ++ htL n.kids ++ ([60, 47] ++ n.name ++ [62])), fin_mv [] rfl rfl rfl ⟨⟨rfl, rfl, rfl⟩, trivial⟩ trivial, rfl, ?_⟩
  rw [hht]
  simp only [List.append_assoc]
set_option maxHeartbeats 1000000 in
set_option maxRecDepth 100000 in
theorem HTML_ok (l : List Node) (hS : ShL l) (hB : szL l ≤ 1000000000) (hs : (htL l).length ≤ 10000000000) : PureC Try.prog 13 [.d (.sl (nodesD l))] (.d (.str (htL l))) := by
  refine PureC.of rfl rfl (fn_okTE Try.wf Try.tab_ok Try.func13 (by decide +kernel) rfl rfl ?_)
  have hn := nodesD_len l
  have hsl := sz_len l
  refine E.seq (E.of Try.wf Try.tab_ok ?_)
  refine E.seq (E.of Try.wf Try.tab_ok ?_)
  refine midE (fun s' σ => s' = [(3, .ref 0 0 0)] ∧ σ = bldS (htL l)) ?_ ?_
  · refine E.seq (E.of Try.wf Try.tab_ok ?_)
    refine blockE ?_
    refine loopE (fun m s' σ => ∃ (k : Nat), m = l.length - k ∧ k ≤ l.length ∧ s' = [(3, .ref 0 0 0), (6, .d (.sl (nodesD l))), (7, .d (.int .i64 l.length)), (8, .d (.int .i64 k))] ∧ σ = bldS (htL (l.take k)))
      ⟨0, rfl, Nat.zero_le _, rfl, rfl⟩ ?_ ?_
    · exact Mv.of [.old 0] rfl rfl rfl ⟨⟨rfl, rfl, by rw [List.take_zero, htL]⟩, trivial⟩ ⟨⟨rfl, rfl, rfl⟩, rfl, by rw [← hn]; rfl, rfl, trivial⟩
    rintro _ _ _ ⟨k, rfl, hk, rfl, rfl⟩
    refine E.seq (E.of Try.wf Try.tab_ok ?_)
    refine E.seq (E.of Try.wf Try.tab_ok ?_)
    refine ⟨fun h => ?_, fun h => ?_⟩
    · have hlt : k < l.length := by have := of_decide_eq_true h; omega
      clear h
      have htk := htL_take l k hlt
      have hle := htL_take_le l (k + 1)
      have hks := sz_mem (List.getElem_mem hlt)
      have hsk := ShL_mem hS _ (List.getElem_mem hlt)
      have hsk2 := (ShN_eq _).1 hsk
      rw [htk, List.length_append] at hle
      have c3 := partOf_ok l[k]
      refine E.seq (blockE ?_)
      refine midT Try.wf Try.tab_ok (fun s' σ => s' = [(3, .ref 0 0 0), (5, .ref 1 0 0), (6, .d (.sl (nodesD l))), (7, .d (.int .i64 l.length)), (8, .d (.int .i64 k))] ∧ σ = ⟨2, [(0, .bld 50 5 (htL (l.take k))), (1, nodeO l[k])]⟩) ?_ ?_
      · refine ⟨⟨by omega, by rw [hn]; omega⟩, _, nodesD_get l k hlt, rfl, ?_⟩
        refine ⟨Nat.le_refl _, _, rfl, rfl, Nat.le_refl _, ?_⟩
        refine ⟨_, _, ⟨rfl, rfl⟩, ?_⟩
        exact Mv.of [.old 0, .old 1] rfl rfl rfl ⟨⟨rfl, rfl, rfl⟩, ⟨rfl, .inl ⟨rfl, fun row h => by rw [List.mem_singleton.1 h]; rfl⟩⟩, trivial⟩ ⟨⟨rfl, rfl, rfl⟩, ⟨rfl, rfl, rfl⟩, rfl, rfl, rfl, trivial⟩
      rintro _ _ ⟨rfl, rfl⟩
      refine E.of Try.wf Try.tab_ok ?_
      refine ⟨_, rfl, Nat.le_refl _, ?_⟩
      by_cases hne2 : l[k].name = []
      · have e : partV l[k] = .ifc 73 (.d (.str l[k].text)) := by unfold partV; rw [if_pos hne2]
        have e2 : htN l[k] = escape false l[k].text := by rw [htN_eq, if_pos hne2]
        rw [e] at c3
        rw [e2] at htk hle
        refine PureC.use c3 ?_
        refine ⟨_, lay_method_w, ?_⟩
        refine CallsAbs.frame (lay_words l[k].text (htL (l.take k)) hsk2.2.2.1 (by omega)) [.old 0] ⟨Nat.zero_le _, rfl, rfl, ⟨⟨rfl, rfl, rfl⟩, trivial⟩⟩ ⟨rfl, ⟨rfl, rfl, rfl⟩, trivial⟩ ?_
        rintro _ _ ⟨rfl, rfl⟩
        refine ⟨.tup [], [(0, .bld 50 5 (htL (l.take k) ++ escape false l[k].text))], ⟨⟨rfl, rfl, rfl⟩, trivial⟩, rfl, trivial, ?_⟩
        refine E.of Try.wf Try.tab_ok ?_
        repeat (first | refine ⟨fun _ => ?_, fun h => absurd (of_decide_eq_false h) (by omega)⟩ | refine ⟨fun h => absurd (of_decide_eq_true h) (by omega), fun _ => ?_⟩ | refine ⟨fun _ => ?_, fun h => absurd (of_decide_eq_true h) (by omega)⟩ | refine ⟨fun h => absurd (of_decide_eq_false h) (by omega), fun _ => ?_⟩ | refine .inl ⟨⟨by omega, by omega⟩, ?_⟩ | refine ⟨⟨by omega, by omega⟩, ?_⟩)
        refine ⟨_, _, _, ⟨k + 1, rfl, hlt, rfl, rfl⟩, by omega, ?_⟩
        exact Mv.of [.old 0] rfl rfl rfl ⟨⟨rfl, rfl, htk⟩, trivial⟩ ⟨⟨rfl, rfl, rfl⟩, rfl, rfl, rfl, trivial⟩
      · have e : partV l[k] = .ifc 74 (nodeA l[k]) := by unfold partV; rw [if_neg hne2]
        rw [e] at c3
        refine PureC.use c3 ?_
        refine ⟨_, lay_method_e, ?_⟩
        refine CallsAbs.frame (lay_elem (szN l[k]) l[k] (htL (l.take k)) (Nat.le_refl _) hsk hne2 (by omega) (by omega)) [.old 0] ⟨Nat.zero_le _, rfl, rfl, ⟨⟨rfl, rfl, rfl⟩, trivial⟩⟩ ⟨vrel_self _ rfl, ⟨rfl, rfl, rfl⟩, trivial⟩ ?_
        rintro _ _ ⟨rfl, rfl⟩
        refine ⟨.tup [], [(0, .bld 50 5 (htL (l.take k) ++ htN l[k]))], ⟨⟨rfl, rfl, rfl⟩, trivial⟩, rfl, trivial, ?_⟩
        refine E.of Try.wf Try.tab_ok ?_
        repeat (first | refine ⟨fun _ => ?_, fun h => absurd (of_decide_eq_false h) (by omega)⟩ | refine ⟨fun h => absurd (of_decide_eq_true h) (by omega), fun _ => ?_⟩ | refine ⟨fun _ => ?_, fun h => absurd (of_decide_eq_true h) (by omega)⟩ | refine ⟨fun h => absurd (of_decide_eq_false h) (by omega), fun _ => ?_⟩ | refine .inl ⟨⟨by omega, by omega⟩, ?_⟩ | refine ⟨⟨by omega, by omega⟩, ?_⟩)
        refine ⟨_, _, _, ⟨k + 1, rfl, hlt, rfl, rfl⟩, by omega, ?_⟩
        exact Mv.of [.old 0] rfl rfl rfl ⟨⟨rfl, rfl, htk⟩, trivial⟩ ⟨⟨rfl, rfl, rfl⟩, rfl, rfl, rfl, trivial⟩
    · have hk' : k = l.length := by have := of_decide_eq_false h; omega
      subst hk'
      rw [List.take_length]
      exact ⟨_, _, ⟨rfl, rfl⟩, Mv.of [.old 0] rfl rfl rfl ⟨⟨rfl, rfl, rfl⟩, trivial⟩ ⟨⟨rfl, rfl, rfl⟩, trivial⟩⟩
  rintro _ _ ⟨rfl, rfl⟩
  refine E.of Try.wf Try.tab_ok ?_
  refine CallsAbs.frame (String_ok (htL l) (by omega)) [.old 0] ⟨Nat.zero_le _, rfl, rfl, ⟨⟨rfl, rfl, rfl⟩, trivial⟩⟩ ⟨⟨rfl, rfl, rfl⟩, trivial⟩ ?_
  rintro _ _ ⟨rfl, rfl⟩
  refine ⟨.d (.str (htL l)), [(0, .dead)], ⟨trivial, trivial⟩, rfl, rfl, ?_⟩
  exact ⟨_, _, fin_out rfl, rfl, rfl⟩
end Go.Proofs.Ytcmkiancbgmmhaa

namespace Go.Proofs.Ytcmkiancbgmmhaa
open Go.Aw
set_option maxHeartbeats 1600000
set_option linter.unusedSimpArgs false
set_option linter.unusedVariables false
def wtA (l : List (List UInt8 × List UInt8)) : Nat := (l.map fun a => 1 + a.1.length + a.2.length).sum
mutual
def wtN : Node → Nat
  | .mk nm a t k => 1 + nm.length + t.length + wtA a + wtL k
def wtL : List Node → Nat
  | [] => 0
  | n :: r => wtN n + wtL r
end
theorem wtN_eq (n : Node) : wtN n = 1 + n.name.length + n.text.length + wtA n.attrs + wtL n.kids := by cases n; unfold wtN; rfl
theorem wtL_cons (n : Node) (r : List Node) : wtL (n :: r) = wtN n + wtL r := by rw [wtL]
theorem wtL_append : ∀ a b : List Node, wtL (a ++ b) = wtL a + wtL b
  | [], b => by rw [wtL, List.nil_append, Nat.zero_add]
  | n :: r, b => by rw [List.cons_append, wtL_cons, wtL_cons, wtL_append r b, Nat.add_assoc]
mutual
theorem sz_wtN : ∀ n : Node, szN n ≤ wtN n
  | .mk nm a t k => by
    have := sz_wtL k
    unfold szN wtN
    omega
theorem sz_wtL : ∀ l : List Node, szL l ≤ wtL l
  | [] => by simp [szL]
  | n :: r => by
    have h1 := sz_wtN n
    have h2 := sz_wtL r
    unfold szL wtL
    omega
end
theorem wtA_mem {l : List (List UInt8 × List UInt8)} {a : List UInt8 × List UInt8} (h : a ∈ l) : 1 + a.1.length + a.2.length ≤ wtA l := by
  induction l with
  | nil => cases h
  | cons b r ih =>
    have e : wtA (b :: r) = (1 + b.1.length + b.2.length) + wtA r := rfl
    rcases List.mem_cons.1 h with rfl | h
    · omega
    · have := ih h; omega
theorem wtA_len (l : List (List UInt8 × List UInt8)) : l.length ≤ wtA l := by
  induction l with
  | nil => exact Nat.le_refl _
  | cons b r ih =>
    have e : wtA (b :: r) = (1 + b.1.length + b.2.length) + wtA r := rfl
    simp only [List.length_cons]; omega
theorem Short_wt {l : List (List UInt8 × List UInt8)} (h : wtA l ≤ 1000000000) : Short l :=
  ⟨by have := wtA_len l; omega, fun a ha => by have := wtA_mem ha; omega⟩
mutual
theorem Sh_wtN : ∀ n : Node, wtN n ≤ 1000000000 → ShN n
  | .mk nm a t k => fun h => by
    unfold wtN at h
    unfold ShN
    exact ⟨by omega, Short_wt (by omega), by omega, Sh_wtL k (by omega)⟩
theorem Sh_wtL : ∀ l : List Node, wtL l ≤ 1000000000 → ShL l
  | [] => fun _ => by simp [ShL]
  | n :: r => fun h => by
    unfold wtL at h
    unfold ShL
    exact ⟨Sh_wtN n (by omega), Sh_wtL r (by omega)⟩
end
end Go.Proofs.Ytcmkiancbgmmhaa

namespace Go.Proofs.Ytcmkiancbgmmhaa
open Go.Aw
set_option maxHeartbeats 1600000
set_option linter.unusedSimpArgs false
set_option linter.unusedVariables false
theorem agg_str : isAggB Try.prog 9 = false := by kernel_rfl
theorem arg_str (s : List UInt8) : argAV Try.prog 9 [.str s] = .d (.str s) := by rw [argAV, agg_str]; rfl
theorem dok_str {n : Nat} {row : List D} (h : DOk Try.prog n 9 row) : ∃ s, row = [.str s] ∧ s.length ≤ 140737488351232 := by
  cases n with
  | zero => exact h.elim
  | succ n => simp only [DOk, Try.underlying9] at h; exact h
end Go.Proofs.Ytcmkiancbgmmhaa

namespace Go.Proofs.Ytcmkiancbgmmhaa
open Go.Aw
set_option maxHeartbeats 1600000
set_option linter.unusedSimpArgs false
set_option linter.unusedVariables false
theorem attrsH_wt : ∀ l : List (List UInt8 × List UInt8), (attrsH l).length ≤ 6 * wtA l
  | [] => Nat.le_refl _
  | a :: r => by
    have e : wtA (a :: r) = (1 + a.1.length + a.2.length) + wtA r := rfl
    have ih := attrsH_wt r
    have hel := (escape_len a.2.length true a.2 (Nat.le_refl _)).2
    rw [attrsH_cons, e]
    unfold attrH
    simp only [List.length_append, List.length_cons, List.length_nil]
    omega
mutual
theorem ht_wtN : ∀ n : Node, (htN n).length ≤ 6 * wtN n
  | .mk nm a t k => by
    have h1 := attrsH_wt a
    have h2 := ht_wtL k
    have h3 := (escape_len t.length false t (Nat.le_refl _)).2
    unfold htN wtN
    split
    · omega
    · split
      · simp only [List.length_append, List.length_cons, List.length_nil]; omega
      · simp only [List.length_append, List.length_cons, List.length_nil]; omega
theorem ht_wtL : ∀ l : List Node, (htL l).length ≤ 6 * wtL l
  | [] => by simp [htL]
  | n :: r => by
    have h1 := ht_wtN n
    have h2 := ht_wtL r
    unfold htL wtL
    rw [List.length_append]
    omega
end
def awakeL : List Node := [.mk [112] [([105, 100], [34])] [] [.mk [] [] [97, 60] [], .mk [98, 114] [] [] []]]
set_option maxRecDepth 100000 in
theorem awake_ok : PureC Try.prog 11 [] (.d (.bool true)) := by
  refine PureC.of rfl rfl (fn_okTE Try.wf Try.tab_ok Try.func11 (by decide +kernel) rfl rfl ?_)
  refine E.seq (E.of Try.wf Try.tab_ok ?_)
  refine E.seq (textT Try.wf Try.tab_ok ?_)
  refine pstep _ rfl rfl (FinMove.refl _ _ _) ?_
  refine pstep (r := .d (.sl (attrsD [([105, 100], [34])]))) ⟨0, []⟩ rfl rfl (fin_lit rfl rfl rfl trivial) ?_
  refine pstep _ rfl rfl (FinMove.refl _ _ _) ?_
  refine pstep _ rfl rfl (FinMove.refl _ _ _) ?_
  refine pstep (r := .d (.sl (nodesD [.mk [] [] [97, 60] [], .mk [98, 114] [] [] []]))) ⟨0, []⟩ rfl rfl (fin_lit rfl rfl rfl trivial) ?_
  refine pstep _ rfl rfl (FinMove.refl _ _ _) ?_
  refine pstep (r := .d (.sl (nodesD awakeL))) ⟨0, []⟩ rfl rfl (fin_lit rfl rfl rfl trivial) ?_
  refine pstep _ rfl rfl (FinMove.refl _ _ _) ?_
  have e1 : htL awakeL = [60, 112, 32, 105, 100, 61, 34, 38, 113, 117, 111, 116, 59, 34, 62, 97, 38, 108, 116, 59, 60, 98, 114, 62, 60, 47, 112, 62] := by decide +kernel
  have e2 : stableB awakeL = true := by decide +kernel
  have hw : wtL awakeL ≤ 100 := by decide +kernel
  have c1 := HTML_ok awakeL (Sh_wtL _ (by omega)) (by have := sz_wtL awakeL; omega) (by have := ht_wtL awakeL; omega)
  have c2 := Stable_ok awakeL (by have := sz_wtL awakeL; omega) (Sh_wtL _ (by omega))
  rw [e1] at c1
  rw [e2] at c2
  refine E.of Try.wf Try.tab_ok ?_
  refine PureC.use c1 ?_
  repeat (first | refine ⟨fun _ => ?_, fun h => absurd h (by decide)⟩ | refine ⟨fun h => absurd h (by decide), fun _ => ?_⟩)
  refine PureC.use c2 ?_
  exact ⟨_, _, fin_out rfl, rfl, rfl⟩
end Go.Proofs.Ytcmkiancbgmmhaa

namespace Go.Proofs.Ytcmkiancbgmmhaa
open Go.Aw
set_option maxHeartbeats 1600000
set_option linter.unusedSimpArgs false
set_option linter.unusedVariables false
theorem attr_eq (a b : List UInt8 × List UInt8) : (decide (a.1 = b.1) && decide (a.2 = b.2)) = decide (a = b) := by
  rw [← Bool.decide_and, decide_eq_decide, Prod.ext_iff]
set_option maxRecDepth 100000 in
theorem SameAttrs_ok (a b : List (List UInt8 × List UInt8)) (ha1 : a.length ≤ 1000000000) : PureC Try.prog 34 [.d (.sl (attrsD a)), .d (.sl (attrsD b))] (.d (.bool (decide (a = b)))) := by
  refine pure_okT Try.wf Try.tab_ok Try.func34 (by decide +kernel) rfl rfl rfl rfl ?_
  have ha := attrsD_len a
  have hb := attrsD_len b
  have no : ∀ σ : Store, a ≠ b → ∃ r2 σ2, FinMove ⟨0, []⟩ (AV.d (.bool false)) σ r2 σ2 ∧ r2 = AV.d (.bool (decide (a = b))) := fun σ h => ⟨_, _, fin_out rfl, by rw [decide_eq_false h]⟩
  by_cases hl : a.length = b.length
  · refine ⟨fun h => absurd h (by rw [ha, hb, hl]; simp), fun _ => ?_⟩
    refine loopT Try.wf Try.tab_ok (fun m s' σ => ∃ (k : Nat), m = a.length - k ∧ k ≤ a.length ∧ a.take k = b.take k ∧ s' = [(0, .d (.sl (attrsD a))), (1, .d (.sl (attrsD b))), (5, .d (.int .i64 k))] ∧ σ = ⟨0, []⟩)
      ⟨0, rfl, Nat.zero_le _, by simp, rfl, rfl⟩ (Mv.of [] rfl rfl rfl trivial ⟨rfl, rfl, rfl, trivial⟩) ?_
    rintro _ _ _ ⟨k, rfl, hk, hI, rfl, rfl⟩
    by_cases hlt : k < a.length
    · repeat (first | refine ⟨fun _ => ?_, fun h => absurd (of_decide_eq_false h) (by omega)⟩ | refine ⟨fun h => absurd (of_decide_eq_true h) (by omega), fun _ => ?_⟩ | refine ⟨fun _ => ?_, fun h => absurd (of_decide_eq_true h) (by omega)⟩ | refine ⟨fun h => absurd (of_decide_eq_false h) (by omega), fun _ => ?_⟩ | refine .inl ⟨⟨by omega, by omega⟩, ?_⟩ | refine ⟨⟨by omega, by omega⟩, ?_⟩)
      have hlt2 : k < b.length := by omega
      refine drawnT Try.wf Try.tab_ok Try.mixed (by decide +kernel) ?_
      refine qstep rfl rfl (FinMove.refl _ _ _) ?_
      refine qstep rfl rfl (FinMove.refl _ _ _) ?_
      refine qstep rfl rfl ⟨⟨by omega, by omega⟩, _, attrsD_get a k hlt, rfl, FinMove.refl _ _ _⟩ ?_
      refine qstep rfl rfl ⟨Nat.le_refl _, FinMove.refl _ _ _⟩ ?_
      refine qstep rfl rfl (FinMove.refl _ _ _) ?_
      refine qstep rfl rfl (FinMove.refl _ _ _) ?_
      refine qstep rfl rfl ⟨⟨by omega, by omega⟩, _, attrsD_get b k hlt2, rfl, FinMove.refl _ _ _⟩ ?_
      refine qstep rfl rfl ⟨Nat.le_refl _, FinMove.refl _ _ _⟩ ?_
      refine qstep (r := .d (.bool (!decide (a[k] = b[k])))) rfl rfl (fin_eq (congrArg (fun x => AV.d (.bool (!x))) ?_)) ?_
      · rw [← attr_eq]; simp
      by_cases he : a[k] = b[k]
      · rw [decide_eq_true he]
        repeat (first | refine ⟨fun _ => ?_, fun h => absurd h (by decide)⟩ | refine ⟨fun h => absurd h (by decide), fun _ => ?_⟩)
        repeat (first | refine ⟨fun _ => ?_, fun h => absurd (of_decide_eq_false h) (by omega)⟩ | refine ⟨fun h => absurd (of_decide_eq_true h) (by omega), fun _ => ?_⟩ | refine ⟨fun _ => ?_, fun h => absurd (of_decide_eq_true h) (by omega)⟩ | refine ⟨fun h => absurd (of_decide_eq_false h) (by omega), fun _ => ?_⟩ | refine .inl ⟨⟨by omega, by omega⟩, ?_⟩ | refine ⟨⟨by omega, by omega⟩, ?_⟩)
        refine ⟨_, _, _, ⟨k + 1, rfl, hlt, ?_, rfl, rfl⟩, by omega, Mv.of [] rfl rfl rfl trivial ⟨rfl, rfl, rfl, trivial⟩⟩
        rw [List.take_succ_eq_append_getElem hlt, List.take_succ_eq_append_getElem hlt2, hI, he]
      · rw [decide_eq_false he]
        repeat (first | refine ⟨fun _ => ?_, fun h => absurd h (by decide)⟩ | refine ⟨fun h => absurd h (by decide), fun _ => ?_⟩)
        exact no _ (fun e => he (by subst e; rfl))
    · repeat (first | refine ⟨fun _ => ?_, fun h => absurd (of_decide_eq_false h) (by omega)⟩ | refine ⟨fun h => absurd (of_decide_eq_true h) (by omega), fun _ => ?_⟩ | refine ⟨fun _ => ?_, fun h => absurd (of_decide_eq_true h) (by omega)⟩ | refine ⟨fun h => absurd (of_decide_eq_false h) (by omega), fun _ => ?_⟩ | refine .inl ⟨⟨by omega, by omega⟩, ?_⟩ | refine ⟨⟨by omega, by omega⟩, ?_⟩)
      obtain rfl : k = a.length := by omega
      have e : a = b := by rw [List.take_length, hl, List.take_length] at hI; exact hI
      exact ⟨_, _, fin_out rfl, congrArg (fun b => AV.d (.bool b)) (decide_eq_true e).symm⟩
  · refine ⟨fun _ => no _ (fun e => hl (by rw [e])), fun h => absurd h (by rw [ha, hb]; simp; omega)⟩
/-- Are two trees the same? -/
noncomputable def sameB (a b : List Node) : Bool := @decide (a = b) (Classical.propDecidable _)
theorem sameB_true {a b : List Node} (h : a = b) : sameB a b = true := by unfold sameB; exact @decide_eq_true _ (Classical.propDecidable _) h
theorem sameB_false {a b : List Node} (h : a ≠ b) : sameB a b = false := by unfold sameB; exact @decide_eq_false _ (Classical.propDecidable _) h
theorem node_eta {a b : Node} (h1 : a.name = b.name) (h2 : a.attrs = b.attrs) (h3 : a.text = b.text) (h4 : a.kids = b.kids) : a = b := by
  cases a; cases b
  simp only [Node.name, Node.attrs, Node.text, Node.kids] at h1 h2 h3 h4
  rw [h1, h2, h3, h4]
set_option maxHeartbeats 1000000 in
set_option maxRecDepth 100000 in
theorem Same_ok (N : Nat) : ∀ (a b : List Node), szL a ≤ N → N ≤ 1000000000 → ShL a → PureC Try.prog 18 [.d (.sl (nodesD a)), .d (.sl (nodesD b))] (.d (.bool (sameB a b))) := by
  induction N using Nat.strongRecOn with
  | ind N ih =>
  intro a b hN hB hS
  refine pure_okT Try.wf Try.tab_ok Try.func18 (by decide +kernel) rfl rfl rfl rfl ?_
  have ha := nodesD_len a
  have hb := nodesD_len b
  have hsl := sz_len a
  have no : ∀ σ : Store, a ≠ b → ∃ r2 σ2, FinMove ⟨0, []⟩ (AV.d (.bool false)) σ r2 σ2 ∧ r2 = AV.d (.bool (sameB a b)) := fun σ h => ⟨_, _, fin_out rfl, by rw [sameB_false h]⟩
  by_cases hl : a.length = b.length
  · refine ⟨fun h => absurd h (by rw [ha, hb, hl]; simp), fun _ => ?_⟩
    refine loopT Try.wf Try.tab_ok (fun m s' σ => ∃ (k : Nat), m = a.length - k ∧ k ≤ a.length ∧ a.take k = b.take k ∧ s' = [(0, .d (.sl (nodesD a))), (1, .d (.sl (nodesD b))), (5, .d (.int .i64 k))] ∧ σ = ⟨0, []⟩)
      ⟨0, rfl, Nat.zero_le _, by simp, rfl, rfl⟩ (Mv.of [] rfl rfl rfl trivial ⟨rfl, rfl, rfl, trivial⟩) ?_
    rintro _ _ _ ⟨k, rfl, hk, hI, rfl, rfl⟩
    by_cases hlt : k < a.length
    · repeat (first | refine ⟨fun _ => ?_, fun h => absurd (of_decide_eq_false h) (by omega)⟩ | refine ⟨fun h => absurd (of_decide_eq_true h) (by omega), fun _ => ?_⟩ | refine ⟨fun _ => ?_, fun h => absurd (of_decide_eq_true h) (by omega)⟩ | refine ⟨fun h => absurd (of_decide_eq_false h) (by omega), fun _ => ?_⟩ | refine .inl ⟨⟨by omega, by omega⟩, ?_⟩ | refine ⟨⟨by omega, by omega⟩, ?_⟩)
      have hlt2 : k < b.length := by omega
      have hga := nodesD_get a k hlt
      have hgb := nodesD_get b k hlt2
      have hks := kids_lt (List.getElem_mem hlt)
      have hsn := (ShN_eq _).1 (ShL_mem hS _ (List.getElem_mem hlt))
      have c1 := SameAttrs_ok a[k].attrs b[k].attrs hsn.2.1.1
      have c2 := ih (szL a[k].kids) (by omega) a[k].kids b[k].kids (Nat.le_refl _) (by omega) hsn.2.2.2
      have bad : a[k] ≠ b[k] → a ≠ b := fun h e => h (by subst e; rfl)
      refine drawnT Try.wf Try.tab_ok Try.mixed (by decide +kernel) ?_
      refine qstep rfl rfl (FinMove.refl _ _ _) ?_
      refine qstep rfl rfl (FinMove.refl _ _ _) ?_
      refine qstep rfl rfl ⟨⟨by omega, by omega⟩, _, hga, rfl, FinMove.refl _ _ _⟩ ?_
      refine qstep rfl rfl (FinMove.refl _ _ _) ?_
      refine qstep rfl rfl ⟨_, rfl, FinMove.refl _ _ _⟩ ?_
      refine qstep rfl rfl (FinMove.refl _ _ _) ?_
      refine qstep rfl rfl (FinMove.refl _ _ _) ?_
      refine qstep rfl rfl ⟨⟨by omega, by omega⟩, _, hgb, rfl, FinMove.refl _ _ _⟩ ?_
      refine qstep rfl rfl (FinMove.refl _ _ _) ?_
      refine qstep rfl rfl ⟨_, rfl, FinMove.refl _ _ _⟩ ?_
      by_cases h1 : a[k].name = b[k].name
      · refine qstep (r := .d (.bool false)) rfl rfl (fin_eq (congrArg (fun x => AV.d (.bool (!x))) (decide_eq_true h1))) ?_
        refine qstep rfl rfl (FinMove.refl _ _ _) ?_
        refine qstep rfl rfl (FinMove.refl _ _ _) ?_
        refine qstep rfl rfl (FinMove.refl _ _ _) ?_
        refine qstep rfl rfl ⟨⟨by omega, by omega⟩, _, hga, rfl, FinMove.refl _ _ _⟩ ?_
        refine qstep rfl rfl (FinMove.refl _ _ _) ?_
        refine qstep rfl rfl ⟨_, rfl, FinMove.refl _ _ _⟩ ?_
        refine qstep rfl rfl (FinMove.refl _ _ _) ?_
        refine qstep rfl rfl (FinMove.refl _ _ _) ?_
        refine qstep rfl rfl ⟨⟨by omega, by omega⟩, _, hgb, rfl, FinMove.refl _ _ _⟩ ?_
        refine qstep rfl rfl (FinMove.refl _ _ _) ?_
        refine qstep rfl rfl ⟨_, rfl, FinMove.refl _ _ _⟩ ?_
        by_cases h2 : a[k].text = b[k].text
        · refine qstep (r := .d (.bool false)) rfl rfl (fin_eq (congrArg (fun x => AV.d (.bool (!x))) (decide_eq_true h2))) ?_
          refine qstep (r := .d (.bool false)) rfl rfl ⟨fun h => absurd h (by decide), fun _ => FinMove.refl _ _ _⟩ ?_
          refine qstep rfl rfl (FinMove.refl _ _ _) ?_
          refine qstep rfl rfl (FinMove.refl _ _ _) ?_
          refine qstep rfl rfl (FinMove.refl _ _ _) ?_
          refine qstep rfl rfl ⟨⟨by omega, by omega⟩, _, hga, rfl, FinMove.refl _ _ _⟩ ?_
          refine qstep rfl rfl (FinMove.refl _ _ _) ?_
          refine qstep rfl rfl ⟨_, rfl, FinMove.refl _ _ _⟩ ?_
          refine qstep rfl rfl (FinMove.refl _ _ _) ?_
          refine qstep rfl rfl (FinMove.refl _ _ _) ?_
          refine qstep rfl rfl ⟨⟨by omega, by omega⟩, _, hgb, rfl, FinMove.refl _ _ _⟩ ?_
          refine qstep rfl rfl (FinMove.refl _ _ _) ?_
          refine qstep rfl rfl ⟨_, rfl, FinMove.refl _ _ _⟩ ?_
          by_cases h3 : a[k].attrs = b[k].attrs
          · rw [decide_eq_true h3] at c1
            refine qstep (r := .d (.bool true)) rfl rfl (PureC.use c1 (FinMove.refl _ _ _)) ?_
            refine qstep rfl rfl (FinMove.refl _ _ _) ?_
            refine qstep (r := .d (.bool false)) rfl rfl ⟨fun h => absurd h (by decide), fun _ => FinMove.refl _ _ _⟩ ?_
            refine qstep rfl rfl (FinMove.refl _ _ _) ?_
            refine qstep rfl rfl (FinMove.refl _ _ _) ?_
            refine qstep rfl rfl (FinMove.refl _ _ _) ?_
            refine qstep rfl rfl ⟨⟨by omega, by omega⟩, _, hga, rfl, FinMove.refl _ _ _⟩ ?_
            refine qstep rfl rfl (FinMove.refl _ _ _) ?_
            refine qstep rfl rfl ⟨_, rfl, FinMove.refl _ _ _⟩ ?_
            refine qstep rfl rfl (FinMove.refl _ _ _) ?_
            refine qstep rfl rfl (FinMove.refl _ _ _) ?_
            refine qstep rfl rfl ⟨⟨by omega, by omega⟩, _, hgb, rfl, FinMove.refl _ _ _⟩ ?_
            refine qstep rfl rfl (FinMove.refl _ _ _) ?_
            refine qstep rfl rfl ⟨_, rfl, FinMove.refl _ _ _⟩ ?_
            by_cases h4 : a[k].kids = b[k].kids
            · rw [sameB_true h4] at c2
              refine qstep (r := .d (.bool true)) rfl rfl (PureC.use c2 (FinMove.refl _ _ _)) ?_
              refine qstep rfl rfl (FinMove.refl _ _ _) ?_
              refine qstep (r := .d (.bool false)) rfl rfl ⟨fun h => absurd h (by decide), fun _ => FinMove.refl _ _ _⟩ ?_
              repeat (first | refine ⟨fun _ => ?_, fun h => absurd h (by decide)⟩ | refine ⟨fun h => absurd h (by decide), fun _ => ?_⟩)
              repeat (first | refine ⟨fun _ => ?_, fun h => absurd (of_decide_eq_false h) (by omega)⟩ | refine ⟨fun h => absurd (of_decide_eq_true h) (by omega), fun _ => ?_⟩ | refine ⟨fun _ => ?_, fun h => absurd (of_decide_eq_true h) (by omega)⟩ | refine ⟨fun h => absurd (of_decide_eq_false h) (by omega), fun _ => ?_⟩ | refine .inl ⟨⟨by omega, by omega⟩, ?_⟩ | refine ⟨⟨by omega, by omega⟩, ?_⟩)
              refine ⟨_, _, _, ⟨k + 1, rfl, hlt, ?_, rfl, rfl⟩, by omega, Mv.of [] rfl rfl rfl trivial ⟨rfl, rfl, rfl, trivial⟩⟩
              rw [List.take_succ_eq_append_getElem hlt, List.take_succ_eq_append_getElem hlt2, hI, node_eta h1 h3 h2 h4]
            · rw [sameB_false h4] at c2
              refine qstep (r := .d (.bool false)) rfl rfl (PureC.use c2 (FinMove.refl _ _ _)) ?_
              refine qstep rfl rfl (FinMove.refl _ _ _) ?_
              refine qstep (r := .d (.bool true)) rfl rfl ⟨fun h => absurd h (by decide), fun _ => FinMove.refl _ _ _⟩ ?_
              repeat (first | refine ⟨fun _ => ?_, fun h => absurd h (by decide)⟩ | refine ⟨fun h => absurd h (by decide), fun _ => ?_⟩)
              exact no _ (bad (fun e => h4 (by rw [e])))
          · rw [decide_eq_false h3] at c1
            refine qstep (r := .d (.bool false)) rfl rfl (PureC.use c1 (FinMove.refl _ _ _)) ?_
            refine qstep rfl rfl (FinMove.refl _ _ _) ?_
            refine qstep (r := .d (.bool true)) rfl rfl ⟨fun h => absurd h (by decide), fun _ => FinMove.refl _ _ _⟩ ?_
            refine qstep rfl rfl (FinMove.refl _ _ _) ?_
            iterate 12 (refine qskip rfl rfl ?_)
            refine qstep (r := .tt) rfl rfl ⟨fun _ => FinMove.refl _ _ _, fun h => absurd h (by decide)⟩ ?_
            repeat (first | refine ⟨fun _ => ?_, fun h => absurd h (by decide)⟩ | refine ⟨fun h => absurd h (by decide), fun _ => ?_⟩)
            exact no _ (bad (fun e => h3 (by rw [e])))
        · refine qstep (r := .d (.bool true)) rfl rfl (fin_eq (congrArg (fun x => AV.d (.bool (!x))) (decide_eq_false h2))) ?_
          refine qstep (r := .d (.bool true)) rfl rfl ⟨fun h => absurd h (by decide), fun _ => FinMove.refl _ _ _⟩ ?_
          refine qstep rfl rfl (FinMove.refl _ _ _) ?_
          iterate 12 (refine qskip rfl rfl ?_)
          refine qstep (r := .tt) rfl rfl ⟨fun _ => FinMove.refl _ _ _, fun h => absurd h (by decide)⟩ ?_
          refine qstep rfl rfl (FinMove.refl _ _ _) ?_
          iterate 12 (refine qskip rfl rfl ?_)
          refine qstep (r := .tt) rfl rfl (FinMove.refl _ _ _) ?_
          repeat (first | refine ⟨fun _ => ?_, fun h => absurd h (by decide)⟩ | refine ⟨fun h => absurd h (by decide), fun _ => ?_⟩)
          exact no _ (bad (fun e => h2 (by rw [e])))
      · refine qstep (r := .d (.bool true)) rfl rfl (fin_eq (congrArg (fun x => AV.d (.bool (!x))) (decide_eq_false h1))) ?_
        refine qstep rfl rfl (FinMove.refl _ _ _) ?_
        iterate 11 (refine qskip rfl rfl ?_)
        refine qstep (r := .tt) rfl rfl ⟨fun _ => FinMove.refl _ _ _, fun h => absurd h (by decide)⟩ ?_
        refine qstep rfl rfl (FinMove.refl _ _ _) ?_
        iterate 12 (refine qskip rfl rfl ?_)
        refine qstep (r := .tt) rfl rfl (FinMove.refl _ _ _) ?_
        refine qstep rfl rfl (FinMove.refl _ _ _) ?_
        iterate 12 (refine qskip rfl rfl ?_)
        refine qstep (r := .tt) rfl rfl (FinMove.refl _ _ _) ?_
        repeat (first | refine ⟨fun _ => ?_, fun h => absurd h (by decide)⟩ | refine ⟨fun h => absurd h (by decide), fun _ => ?_⟩)
        exact no _ (bad (fun e => h1 (by rw [e])))
    · repeat (first | refine ⟨fun _ => ?_, fun h => absurd (of_decide_eq_false h) (by omega)⟩ | refine ⟨fun h => absurd (of_decide_eq_true h) (by omega), fun _ => ?_⟩ | refine ⟨fun _ => ?_, fun h => absurd (of_decide_eq_true h) (by omega)⟩ | refine ⟨fun h => absurd (of_decide_eq_false h) (by omega), fun _ => ?_⟩ | refine .inl ⟨⟨by omega, by omega⟩, ?_⟩ | refine ⟨⟨by omega, by omega⟩, ?_⟩)
      obtain rfl : k = a.length := by omega
      have e : a = b := by rw [List.take_length, hl, List.take_length] at hI; exact hI
      exact ⟨_, _, fin_out rfl, congrArg (fun b => AV.d (.bool b)) (sameB_true e).symm⟩
  · refine ⟨fun _ => no _ (fun e => hl (by rw [e])), fun h => absurd h (by rw [ha, hb]; simp; omega)⟩
end Go.Proofs.Ytcmkiancbgmmhaa

namespace Go.Proofs.Ytcmkiancbgmmhaa
open Go.Aw
set_option maxHeartbeats 1600000
set_option linter.unusedSimpArgs false
set_option linter.unusedVariables false
theorem _root_.Go.Aw.CallsAbs.use1 {P : Program} {f : FuncId} {args : List AV} {σ σ0 : Store} {r0 : AV} {K : AV → Store → Prop} (h : CallsAbs P f args σ fun r σ' => r = r0 ∧ σ' = σ0) (hK : K r0 σ0) : CallsAbs P f args σ K :=
  h.mono fun r σ' ⟨h1, h2⟩ => by subst h1; subst h2; exact hK
/-- Arguments told otherwise. -/
theorem _root_.Go.Aw.CallsAbs.vr {P : Program} {f : FuncId} {args args' : List AV} {σ : Store} {K : AV → Store → Prop} (hv : vrelL (phi 0 []) args' args) (h : CallsAbs P f args' σ K) : CallsAbs P f args σ K := by
  refine h.args fun g w vs R hL => ⟨g, Ext.refl g σ w, R, ?_⟩
  have e : ∀ i, phi 0 [] i = none := fun i => by simp [phi, Nat.ble, nthE]
  have t : Tr (phi 0 []) g g := ⟨fun i k h hk => absurd h (by rw [e]; simp), fun i sz h => absurd h (by rw [e]; simp), fun b h => h⟩
  exact hL.tr t hv
end Go.Proofs.Ytcmkiancbgmmhaa

namespace Go.Proofs.Ytcmkiancbgmmhaa
open Go.Aw
set_option maxHeartbeats 1600000
set_option linter.unusedSimpArgs false
set_option linter.unusedVariables false
abbrev Attr := List UInt8 × List UInt8
/-- A token, as plain data. -/
structure Tok where
  kd : Int
  nm : List UInt8
  ats : List (List UInt8 × List UInt8)
  cl : Bool
  tx : List UInt8
  deriving DecidableEq
def tokD (t : Tok) : List D := [.int .i64 t.kd, .str t.nm, .sl (attrsD t.ats), .bool t.cl, .str t.tx]
def toksD (l : List Tok) : List (List D) := l.map tokD
theorem toksD_len (l : List Tok) : (toksD l).length = l.length := by simp [toksD]
theorem toksD_get (l : List Tok) (k : Nat) (h : k < l.length) : (toksD l)[((k : Nat) : Int).toNat]? = some (tokD l[k]) := by
  rw [Int.toNat_natCast]; simp [toksD, h]
def blkB (c : UInt8) : Bool := decide (c.toNat = 9) || (decide (c.toNat = 10) || (decide (c.toNat = 12) || (decide (c.toNat = 13) || decide (c.toNat = 32))))
def ltrB (c : UInt8) : Bool := (decide (97 ≤ c.toNat) && decide (c.toNat ≤ 122)) || (decide (65 ≤ c.toNat) && decide (c.toNat ≤ 90))
/-- Of what a text begins with. -/
def hdB (p : UInt8 → Bool) : List UInt8 → Bool
  | c :: _ => p c
  | [] => false
/-- How far something holds of what is left. -/
def runN (p : List UInt8 → Bool) : List UInt8 → Nat
  | [] => 0
  | c :: r => if p (c :: r) then runN p r + 1 else 0
theorem runN_le (p : List UInt8 → Bool) : ∀ s : List UInt8, runN p s ≤ s.length
  | [] => Nat.le_refl _
  | c :: r => by
    have := runN_le p r
    unfold runN
    split <;> simp <;> omega
theorem runN_in (p : List UInt8 → Bool) : ∀ (s : List UInt8) (j : Nat), j < runN p s → p (s.drop j) = true
  | [], j, h => by simp [runN] at h
  | c :: r, j, h => by
    unfold runN at h
    split at h
    · rename_i hp
      cases j with
      | zero => exact hp
      | succ j => exact runN_in p r j (by omega)
    · omega
theorem runN_stop (p : List UInt8 → Bool) : ∀ (s : List UInt8), runN p s < s.length → p (s.drop (runN p s)) = false
  | [], h => by simp [runN] at h
  | c :: r, h => by
    unfold runN at h ⊢
    split
    · rename_i hp
      rw [if_pos hp] at h
      exact runN_stop p r (by simp at h; omega)
    · rename_i hp
      simpa using hp
theorem runN_eq (p : List UInt8 → Bool) (s : List UInt8) (k : Nat) (hk : k ≤ s.length) (h1 : ∀ j, j < k → p (s.drop j) = true) (h2 : k < s.length → p (s.drop k) = false) : runN p s = k := by
  have h3 := runN_le p s
  rcases Nat.lt_trichotomy (runN p s) k with h | h | h
  · have := runN_stop p s (by omega)
    rw [h1 _ h] at this; cases this
  · exact h
  · have := runN_in p s k h
    rw [h2 (by omega)] at this; cases this
theorem runN_more (p : List UInt8 → Bool) (s : List UInt8) (k : Nat) (hk : k ≤ runN p s) (hl : k < s.length) (h : p (s.drop k) = true) : k + 1 ≤ runN p s := by
  rcases Nat.lt_or_ge k (runN p s) with h1 | h1
  · exact h1
  · have : k = runN p s := by omega
    have h2 := runN_stop p s (by omega)
    rw [← this, h] at h2; cases h2
theorem runN_done (p : List UInt8 → Bool) (s : List UInt8) (k : Nat) (hk : k ≤ runN p s) (h : k < s.length → p (s.drop k) = false) : k = runN p s := by
  rcases Nat.lt_or_ge k (runN p s) with h1 | h1
  · have h2 := runN_in p s k h1
    have := runN_le p s
    rw [h (by omega)] at h2; cases h2
  · omega
def kindL (s : List UInt8) : Nat := match s with
  | a :: c :: r => if a = 60 then
      (if hasPre (c :: r) [33, 45, 45] then 1 else if c = 33 ∨ c = 63 then 3 else if ltrB c then 4 else if c = 47 then (match r with
        | [] => 0
        | d :: _ => if d = 62 then 2 else if ltrB d then 5 else 3) else 0)
    else 0
  | _ => 0
def plainB (s : List UInt8) : Bool := decide (kindL s = 0)
def nameC (c : UInt8) : Bool := !(blkB c || (decide (c = 47) || decide (c = 62)))
def attrC (c : UInt8) : Bool := !(blkB c || (decide (c = 47) || (decide (c = 62) || decide (c = 61))))
def bareC (c : UInt8) : Bool := !(blkB c || decide (c = 62))
def skipB (s : List UInt8) : List UInt8 := s.drop (runN (hdB blkB) s)
def valueAt (s : List UInt8) : Option (List UInt8 × List UInt8) := match s with
  | [] => some ([], [])
  | c :: r => if c = 34 ∨ c = 39 then
      (if runN (hdB fun x => !decide (x = c)) r = r.length then none else some (r.take (runN (hdB fun x => !decide (x = c)) r), r.drop (runN (hdB fun x => !decide (x = c)) r + 1)))
    else some ((c :: r).take (runN (hdB bareC) (c :: r)), (c :: r).drop (runN (hdB bareC) (c :: r)))
def addA (ats : List (List UInt8 × List UInt8)) (a : List UInt8 × List UInt8) : List (List UInt8 × List UInt8) := if a.1 ∈ ats.map (·.1) then ats else ats ++ [a]
/-- An attribute and what is left behind it. -/
def attrAt (c : UInt8) (r : List UInt8) : Option ((List UInt8 × List UInt8) × List UInt8) :=
  match skipB (r.drop (runN (hdB attrC) r)) with
  | [] => some ((lower (c :: r.take (runN (hdB attrC) r)), []), [])
  | d :: r1 => if d = 61 then (valueAt (skipB r1)).map fun v => ((lower (c :: r.take (runN (hdB attrC) r)), resolve v.1), v.2)
    else some ((lower (c :: r.take (runN (hdB attrC) r)), []), d :: r1)
def tagF : Nat → List UInt8 → Bool → List (List UInt8 × List UInt8) → Option (Bool × List (List UInt8 × List UInt8) × List UInt8)
  | 0, _, _, _ => none
  | _ + 1, [], _, _ => none
  | n + 1, c :: r, cl, ats =>
    if blkB c then tagF n r cl ats
    else if c = 47 then tagF n r (cl || hdB (fun x => decide (x = 62)) r) ats
    else if c = 62 then some (cl, ats, r)
    else match attrAt c r with
      | none => none
      | some (a, r') => tagF n r' cl (addA ats a)
theorem skipB_le (s : List UInt8) : (skipB s).length ≤ s.length := by unfold skipB; simp
theorem valueAt_le {s v r : List UInt8} (h : valueAt s = some (v, r)) : r.length ≤ s.length := by
  unfold valueAt at h
  split at h
  · cases h; simp
  · split at h
    · split at h
      · cases h
      · cases h; simp; omega
    · cases h; simp
theorem attrAt_le {c : UInt8} {r r' : List UInt8} {a : List UInt8 × List UInt8} (h : attrAt c r = some (a, r')) : r'.length ≤ r.length := by
  have h1 := skipB_le (r.drop (runN (hdB attrC) r))
  rw [List.length_drop] at h1
  unfold attrAt at h
  split at h
  · cases h; simp
  · rename_i d r1 e
    rw [e, List.length_cons] at h1
    split at h
    · cases hv : valueAt (skipB r1) with
      | none => rw [hv] at h; cases h
      | some v =>
        rw [hv] at h
        cases h
        have := valueAt_le (v := v.1) (r := v.2) hv
        have := skipB_le r1
        omega
    · cases h; simp; omega
theorem tagF_fuel : ∀ (n m : Nat) (s : List UInt8) (cl : Bool) (ats : List (List UInt8 × List UInt8)), s.length < n → s.length < m → tagF n s cl ats = tagF m s cl ats
  | 0, _, _, _, _, h, _ => by omega
  | _ + 1, 0, _, _, _, _, h => by omega
  | n + 1, m + 1, [], _, _, _, _ => rfl
  | n + 1, m + 1, c :: r, cl, ats, h1, h2 => by
    simp at h1 h2
    unfold tagF
    rw [tagF_fuel n m r _ _ h1 h2, tagF_fuel n m r _ _ h1 h2]
    cases e : attrAt c r with
    | none => rfl
    | some x =>
      obtain ⟨a, r'⟩ := x
      have := attrAt_le e
      dsimp only
      rw [tagF_fuel n m r' _ _ (by omega) (by omega)]
def between (s : List UInt8) (cl : Bool) (ats : List (List UInt8 × List UInt8)) : Option (Bool × List (List UInt8 × List UInt8) × List UInt8) := tagF (s.length + 1) s cl ats
theorem between_nil (cl : Bool) (ats : List (List UInt8 × List UInt8)) : between [] cl ats = none := rfl
theorem between_cons (c : UInt8) (r : List UInt8) (cl : Bool) (ats : List (List UInt8 × List UInt8)) : between (c :: r) cl ats =
    if blkB c then between r cl ats
    else if c = 47 then between r (cl || hdB (fun x => decide (x = 62)) r) ats
    else if c = 62 then some (cl, ats, r)
    else match attrAt c r with
      | none => none
      | some (a, r') => between r' cl (addA ats a) := by
  show tagF (r.length + 1 + 1) (c :: r) cl ats = _
  rw [tagF]
  repeat' split
  all_goals first | rfl | skip
  rename_i a r' e
  have := attrAt_le e
  exact tagF_fuel _ _ _ _ _ (by omega) (by omega)
theorem tagF_le : ∀ (n : Nat) (s : List UInt8) (cl : Bool) (ats : List (List UInt8 × List UInt8)) {x : Bool} {y : List (List UInt8 × List UInt8)} {r : List UInt8}, tagF n s cl ats = some (x, y, r) → r.length < s.length
  | 0, _, _, _, _, _, _, h => by cases h
  | n + 1, [], _, _, _, _, _, h => by cases h
  | n + 1, c :: r, cl, ats, x, y, r', h => by
    unfold tagF at h
    rw [List.length_cons]
    split at h
    · have := tagF_le n _ _ _ h; omega
    · split at h
      · have := tagF_le n _ _ _ h; omega
      · split at h
        · cases h; omega
        · split at h
          · cases h
          · rename_i e
            have := attrAt_le e
            have := tagF_le n _ _ _ h; omega
/-- A tag from its name on. -/
def tagAt (s : List UInt8) : Option (List UInt8 × Bool × List (List UInt8 × List UInt8) × List UInt8) :=
  (between (s.drop (runN (hdB nameC) s)) false []).map fun t => (lower (s.take (runN (hdB nameC) s)), t.1, t.2.1, t.2.2)
theorem tagAt_le {s nm r : List UInt8} {cl : Bool} {ats : List (List UInt8 × List UInt8)} (h : tagAt s = some (nm, cl, ats, r)) : r.length < s.length := by
  unfold tagAt at h
  cases e : between (s.drop (runN (hdB nameC) s)) false [] with
  | none => rw [e] at h; cases h
  | some t =>
    rw [e] at h
    cases h
    have := tagF_le _ _ _ _ (x := t.1) (y := t.2.1) (r := t.2.2) e
    simp at this
    omega
def plaintext : List UInt8 := [112, 108, 97, 105, 110, 116, 101, 120, 116]
/-- Does a raw element of a name end here? -/
def rawEnd (nm s : List UInt8) : Bool := !decide (nm = plaintext) && (hasPre s [60, 47] && (decide (nm.length + 2 < s.length) && (decide (lower ((s.drop 2).take nm.length) = nm) && hdB (fun c => blkB c || (decide (c = 47) || decide (c = 62))) (s.drop (nm.length + 2)))))
def rawN (nm s : List UInt8) : Nat := runN (fun x => !rawEnd nm x) s
def textT (x : List UInt8) : Tok := ⟨1, [], [], false, x⟩
def noteT (x : List UInt8) : Tok := ⟨4, [], [], false, x⟩
def endT (x : List UInt8) : Tok := ⟨3, x, [], false, []⟩
def startT (nm : List UInt8) (cl : Bool) (ats : List (List UInt8 × List UInt8)) : Tok := ⟨2, nm, ats, cl, []⟩
def softB (nm : List UInt8) : Bool := decide (nm ∉ raws) && decide (nm ∈ softs)
def rawText (nm s : List UInt8) : List UInt8 := if softB nm then resolve (s.take (rawN nm s)) else s.take (rawN nm s)
/-- What begins here: its tokens, and what is left. -/
def step (s : List UInt8) : Option (List Tok × List UInt8) := match kindL s with
  | 0 => some ([textT (resolve (s.take (runN plainB s)))], s.drop (runN plainB s))
  | 1 => some ([noteT ((s.drop 4).take (runN (fun x => !hasPre x [45, 45, 62]) (s.drop 4)))], (s.drop 4).drop (runN (fun x => !hasPre x [45, 45, 62]) (s.drop 4) + 3))
  | 2 => some ([], s.drop 3)
  | 3 => some ([], s.drop (runN (fun x => !hasPre x [62]) s + 1))
  | 4 => match tagAt (s.drop 1) with
    | none => none
    | some (nm, cl, ats, r) => if rawB nm then some (startT nm cl ats :: (if rawText nm r = [] then [] else [textT (rawText nm r)]), r.drop (rawN nm r)) else some ([startT nm cl ats], r)
  | _ => match tagAt (s.drop 2) with
    | none => none
    | some (nm, _, _, r) => some ([endT nm], r)
theorem plain_pos {s : List UInt8} (h : s ≠ []) (hk : kindL s = 0) : 1 ≤ runN plainB s := by
  cases s with
  | nil => exact absurd rfl h
  | cons c r =>
    unfold runN
    rw [if_pos (by unfold plainB; rw [hk]; rfl)]
    omega
theorem kind_pos {s : List UInt8} (hk : kindL s ≠ 0) : ∃ c r, s = 60 :: c :: r := by
  unfold kindL at hk
  split at hk
  · split at hk
    · rename_i h; subst h; exact ⟨_, _, rfl⟩
    · exact absurd rfl hk
  · exact absurd rfl hk
theorem step_lt {s r : List UInt8} {e : List Tok} (hs : s ≠ []) (h : step s = some (e, r)) : r.length < s.length := by
  have hp : 0 < s.length := List.length_pos_iff.2 hs
  unfold step at h
  split at h
  · rename_i hk
    have := plain_pos hs hk
    cases h; simp; omega
  · cases h; simp; omega
  · cases h; simp; omega
  · cases h; simp; omega
  · split at h
    · cases h
    · rename_i e
      have := tagAt_le e
      simp at this
      split at h
      · cases h; simp; omega
      · cases h; omega
  · split at h
    · cases h
    · rename_i e
      have := tagAt_le e
      simp at this
      cases h; omega
def toksF : Nat → List UInt8 → List Tok
  | 0, _ => []
  | n + 1, s => if s = [] then [] else match step s with
    | none => []
    | some (e, r) => e ++ toksF n r
theorem toksF_fuel : ∀ (n m : Nat) (s : List UInt8), s.length < n → s.length < m → toksF n s = toksF m s
  | 0, _, _, h, _ => by omega
  | _ + 1, 0, _, _, h => by omega
  | n + 1, m + 1, s, h1, h2 => by
    unfold toksF
    split
    · rfl
    · rename_i hs
      cases e : step s with
      | none => rfl
      | some x =>
        obtain ⟨t, r⟩ := x
        have := step_lt hs e
        dsimp only
        rw [toksF_fuel n m r (by omega) (by omega)]
def toks (s : List UInt8) : List Tok := toksF (s.length + 1) s
theorem toks_nil : toks [] = [] := rfl
theorem toks_none {s : List UInt8} (h : step s = none) : toks s = [] := by
  unfold toks toksF
  split
  · rfl
  · rw [h]
theorem toks_some {s r : List UInt8} {e : List Tok} (hs : s ≠ []) (h : step s = some (e, r)) : toks s = e ++ toks r := by
  have := step_lt hs h
  show toksF (s.length + 1) s = _
  rw [toksF, if_neg hs, h]
  exact congrArg (e ++ ·) (toksF_fuel _ _ _ (by omega) (by omega))
end Go.Proofs.Ytcmkiancbgmmhaa

namespace Go.Proofs.Ytcmkiancbgmmhaa
open Go.Aw
set_option maxHeartbeats 1600000
set_option linter.unusedSimpArgs false
set_option linter.unusedVariables false
theorem u8eq (c : UInt8) (n : Nat) (h : n < 256) : (decide (c = UInt8.ofNat n)) = decide ((c.toNat : Int) = n) := by
  rw [decide_eq_decide]
  constructor
  · intro e; subst e; rw [UInt8.toNat_ofNat_of_lt' h]
  · intro e; apply UInt8.toNat_inj.1; rw [UInt8.toNat_ofNat_of_lt' h]; omega
set_option maxRecDepth 100000 in
theorem blank_ok (c : UInt8) : PureC Try.prog 71 [.d (.int .u8 c.toNat)] (.d (.bool (blkB c))) := by
  have hu := c.toNat_lt
  refine pure_okT Try.wf Try.tab_ok Try.func71 (by decide +kernel) rfl rfl rfl rfl ?_
  repeat' (first |                        refine ⟨fun _ => ?_, fun h => absurd h (by decide)⟩ | refine ⟨fun h => absurd h (by decide), fun _ => ?_⟩ | (refine ⟨fun h => ?_, fun h => ?_⟩ <;> (try simp only [decide_eq_true_eq, decide_eq_false_iff_not, Bool.not_eq_true', Bool.not_eq_false', Bool.not_eq_true, Bool.not_eq_false, not_true_eq_false, beq_iff_eq, beq_eq_false_iff_ne, ne_eq, decide_eq_decide, true_iff, false_iff, iff_true, iff_false, true_and, and_true, false_or, or_false, Bool.and_true, Bool.and_eq_true, Bool.and_eq_false_iff, Bool.or_eq_true, Bool.or_eq_false_iff, List.length_cons, List.length_nil] at h) <;> (try (exfalso; first | omega | exact h rfl | (cases h; done) | exact absurd h (by assumption) | exact h (by assumption) | (simp at h; done)))) | refine ⟨⟨by (first | omega | (simp only [lenS]; omega)), by (first | omega | (simp only [lenS]; omega))⟩, _, by assumption, by rfl, ?_⟩ | refine .inl ⟨⟨by (first | omega | (simp only [lenS]; omega)), by (first | omega | (simp only [lenS]; omega))⟩, ?_⟩ | refine ⟨⟨by (first | omega | (simp only [lenS]; omega)), by (first | omega | (simp only [lenS]; omega))⟩, ?_⟩ | refine ⟨⟨by (first | omega | (simp only [lenS]; omega)), by (first | omega | (simp only [lenS]; omega)), by (first | omega | (simp only [lenS]; omega))⟩, ?_⟩ | refine ⟨.inl rfl, ?_⟩ | refine ⟨.inr (.inl (by (first | omega | (simp only [lenS]; omega)))), ?_⟩ | refine ⟨_, rfl, rfl, by (first | exact Nat.le_refl _ | exact Nat.le_of_ble_eq_true rfl | decide), ?_⟩ | refine ⟨_, rfl, by (first | exact Nat.le_refl _ | exact Nat.le_of_ble_eq_true rfl | decide), ?_⟩ | refine ⟨by (first | exact Nat.le_refl _ | exact Nat.le_of_ble_eq_true rfl | decide | exact rfl), ?_⟩ | refine ⟨show _ ≤ (9223372036854775807 : Nat) by (first | omega | (simp only [lenS]; omega)), ?_⟩ | refine ⟨show _ ≠ (0 : Int) by (first | omega | (simp only [lenS]; omega)), ?_⟩ | refine ⟨_, rfl, _, rfl, ?_⟩ | refine ⟨_, by assumption, Nat.le_of_ble_eq_true rfl, ?_⟩ | refine ⟨_, by assumption, _, rfl, ?_⟩ | refine ⟨_, rfl, ?_⟩ | fail)
  all_goals exact ⟨_, _, fin_out rfl, congrArg (fun b => AV.d (.bool b)) (by unfold blkB; (rw [Bool.eq_iff_iff]; simp only [Bool.or_eq_true, Bool.and_eq_true, Bool.not_eq_true', decide_eq_true_eq, decide_eq_false_iff_not, iff_true, iff_false, true_iff, false_iff, not_and, Bool.false_eq_true, reduceCtorEq, and_false, false_and, and_true, true_and, not_false_eq_true, false_or, or_false] <;> omega))⟩
set_option maxRecDepth 100000 in
theorem letter_ok (c : UInt8) : PureC Try.prog 53 [.d (.int .u8 c.toNat)] (.d (.bool (ltrB c))) := by
  have hu := c.toNat_lt
  refine pure_okT Try.wf Try.tab_ok Try.func53 (by decide +kernel) rfl rfl rfl rfl ?_
  repeat' (first |                        refine ⟨fun _ => ?_, fun h => absurd h (by decide)⟩ | refine ⟨fun h => absurd h (by decide), fun _ => ?_⟩ | (refine ⟨fun h => ?_, fun h => ?_⟩ <;> (try simp only [decide_eq_true_eq, decide_eq_false_iff_not, Bool.not_eq_true', Bool.not_eq_false', Bool.not_eq_true, Bool.not_eq_false, not_true_eq_false, beq_iff_eq, beq_eq_false_iff_ne, ne_eq, decide_eq_decide, true_iff, false_iff, iff_true, iff_false, true_and, and_true, false_or, or_false, Bool.and_true, Bool.and_eq_true, Bool.and_eq_false_iff, Bool.or_eq_true, Bool.or_eq_false_iff, List.length_cons, List.length_nil] at h) <;> (try (exfalso; first | omega | exact h rfl | (cases h; done) | exact absurd h (by assumption) | exact h (by assumption) | (simp at h; done)))) | refine ⟨⟨by (first | omega | (simp only [lenS]; omega)), by (first | omega | (simp only [lenS]; omega))⟩, _, by assumption, by rfl, ?_⟩ | refine .inl ⟨⟨by (first | omega | (simp only [lenS]; omega)), by (first | omega | (simp only [lenS]; omega))⟩, ?_⟩ | refine ⟨⟨by (first | omega | (simp only [lenS]; omega)), by (first | omega | (simp only [lenS]; omega))⟩, ?_⟩ | refine ⟨⟨by (first | omega | (simp only [lenS]; omega)), by (first | omega | (simp only [lenS]; omega)), by (first | omega | (simp only [lenS]; omega))⟩, ?_⟩ | refine ⟨.inl rfl, ?_⟩ | refine ⟨.inr (.inl (by (first | omega | (simp only [lenS]; omega)))), ?_⟩ | refine ⟨_, rfl, rfl, by (first | exact Nat.le_refl _ | exact Nat.le_of_ble_eq_true rfl | decide), ?_⟩ | refine ⟨_, rfl, by (first | exact Nat.le_refl _ | exact Nat.le_of_ble_eq_true rfl | decide), ?_⟩ | refine ⟨by (first | exact Nat.le_refl _ | exact Nat.le_of_ble_eq_true rfl | decide | exact rfl), ?_⟩ | refine ⟨show _ ≤ (9223372036854775807 : Nat) by (first | omega | (simp only [lenS]; omega)), ?_⟩ | refine ⟨show _ ≠ (0 : Int) by (first | omega | (simp only [lenS]; omega)), ?_⟩ | refine ⟨_, rfl, _, rfl, ?_⟩ | refine ⟨_, by assumption, Nat.le_of_ble_eq_true rfl, ?_⟩ | refine ⟨_, by assumption, _, rfl, ?_⟩ | refine ⟨_, rfl, ?_⟩ | fail)
  all_goals exact ⟨_, _, fin_out rfl, congrArg (fun b => AV.d (.bool b)) (by unfold ltrB; (rw [Bool.eq_iff_iff]; simp only [Bool.or_eq_true, Bool.and_eq_true, Bool.not_eq_true', decide_eq_true_eq, decide_eq_false_iff_not, iff_true, iff_false, true_iff, false_iff, not_and, Bool.false_eq_true, reduceCtorEq, and_false, false_and, and_true, true_and, not_false_eq_true, false_or, or_false] <;> omega))⟩
set_option maxRecDepth 100000 in
theorem cls1_ok (c : UInt8) : PureC Try.prog 70 [.d (.int .u8 c.toNat)] (.d (.bool (nameC c))) := by
  have hc1 := blank_ok c
  have e1 := u8eq c 47 (by decide)
  have e2 := u8eq c 62 (by decide)
  unfold nameC
  rw [show (47 : UInt8) = UInt8.ofNat 47 from rfl, show (62 : UInt8) = UInt8.ofNat 62 from rfl, e1, e2]
  clear e1 e2
  generalize blkB c = b1 at *
  refine pure_okT Try.wf Try.tab_ok Try.func70 (by decide +kernel) rfl rfl rfl rfl ?_
  repeat' (first | refine PureC.use hc1 ?_ |                       refine ⟨fun _ => ?_, fun h => absurd h (by decide)⟩ | refine ⟨fun h => absurd h (by decide), fun _ => ?_⟩ | (refine ⟨fun h => ?_, fun h => ?_⟩ <;> (try simp only [decide_eq_true_eq, decide_eq_false_iff_not, Bool.not_eq_true', Bool.not_eq_false', Bool.not_eq_true, Bool.not_eq_false, not_true_eq_false, beq_iff_eq, beq_eq_false_iff_ne, ne_eq, decide_eq_decide, true_iff, false_iff, iff_true, iff_false, true_and, and_true, false_or, or_false, Bool.and_true, Bool.and_eq_true, Bool.and_eq_false_iff, Bool.or_eq_true, Bool.or_eq_false_iff, List.length_cons, List.length_nil] at h) <;> (try (exfalso; first | omega | exact h rfl | (cases h; done) | exact absurd h (by assumption) | exact h (by assumption) | (simp at h; done)))) | refine ⟨⟨by (first | omega | (simp only [lenS]; omega)), by (first | omega | (simp only [lenS]; omega))⟩, _, by assumption, by rfl, ?_⟩ | refine .inl ⟨⟨by (first | omega | (simp only [lenS]; omega)), by (first | omega | (simp only [lenS]; omega))⟩, ?_⟩ | refine ⟨⟨by (first | omega | (simp only [lenS]; omega)), by (first | omega | (simp only [lenS]; omega))⟩, ?_⟩ | refine ⟨⟨by (first | omega | (simp only [lenS]; omega)), by (first | omega | (simp only [lenS]; omega)), by (first | omega | (simp only [lenS]; omega))⟩, ?_⟩ | refine ⟨.inl rfl, ?_⟩ | refine ⟨.inr (.inl (by (first | omega | (simp only [lenS]; omega)))), ?_⟩ | refine ⟨_, rfl, rfl, by (first | exact Nat.le_refl _ | exact Nat.le_of_ble_eq_true rfl | decide), ?_⟩ | refine ⟨_, rfl, by (first | exact Nat.le_refl _ | exact Nat.le_of_ble_eq_true rfl | decide), ?_⟩ | refine ⟨by (first | exact Nat.le_refl _ | exact Nat.le_of_ble_eq_true rfl | decide | exact rfl), ?_⟩ | refine ⟨show _ ≤ (9223372036854775807 : Nat) by (first | omega | (simp only [lenS]; omega)), ?_⟩ | refine ⟨show _ ≠ (0 : Int) by (first | omega | (simp only [lenS]; omega)), ?_⟩ | refine ⟨_, rfl, _, rfl, ?_⟩ | refine ⟨_, by assumption, Nat.le_of_ble_eq_true rfl, ?_⟩ | refine ⟨_, by assumption, _, rfl, ?_⟩ | refine ⟨_, rfl, ?_⟩ | fail)
  all_goals exact ⟨_, _, fin_out rfl, congrArg (fun b => AV.d (.bool b)) (by ((          try clear hc1;             skip); first | rfl | (subst_vars; rfl) | (simp_all; done) | (simp_all; omega) | (simp_all; grind)))⟩
theorem cls2_ok (c : UInt8) : PureC Try.prog 72 [.d (.int .u8 c.toNat)] (.d (.bool (blkB c))) := by
  refine pure_okT Try.wf Try.tab_ok Try.func72 (by decide +kernel) rfl rfl rfl rfl ?_
  exact PureC.use (blank_ok c) ⟨_, _, fin_out rfl, rfl⟩
theorem cls4_ok (c : UInt8) : PureC Try.prog 74 [.d (.int .u8 c.toNat)] (.d (.bool (blkB c))) := by
  refine pure_okT Try.wf Try.tab_ok Try.func74 (by decide +kernel) rfl rfl rfl rfl ?_
  exact PureC.use (blank_ok c) ⟨_, _, fin_out rfl, rfl⟩
theorem cls5_ok (c : UInt8) : PureC Try.prog 75 [.d (.int .u8 c.toNat)] (.d (.bool (blkB c))) := by
  refine pure_okT Try.wf Try.tab_ok Try.func75 (by decide +kernel) rfl rfl rfl rfl ?_
  exact PureC.use (blank_ok c) ⟨_, _, fin_out rfl, rfl⟩
set_option maxRecDepth 100000 in
theorem cls3_ok (c : UInt8) : PureC Try.prog 73 [.d (.int .u8 c.toNat)] (.d (.bool (attrC c))) := by
  have hc1 := blank_ok c
  have e1 := u8eq c 47 (by decide)
  have e2 := u8eq c 62 (by decide)
  have e3 := u8eq c 61 (by decide)
  unfold attrC
  rw [show (47 : UInt8) = UInt8.ofNat 47 from rfl, show (62 : UInt8) = UInt8.ofNat 62 from rfl, show (61 : UInt8) = UInt8.ofNat 61 from rfl, e1, e2, e3]
  clear e1 e2 e3
  generalize blkB c = b1 at *
  refine pure_okT Try.wf Try.tab_ok Try.func73 (by decide +kernel) rfl rfl rfl rfl ?_
  repeat' (first | refine PureC.use hc1 ?_ |                       refine ⟨fun _ => ?_, fun h => absurd h (by decide)⟩ | refine ⟨fun h => absurd h (by decide), fun _ => ?_⟩ | (refine ⟨fun h => ?_, fun h => ?_⟩ <;> (try simp only [decide_eq_true_eq, decide_eq_false_iff_not, Bool.not_eq_true', Bool.not_eq_false', Bool.not_eq_true, Bool.not_eq_false, not_true_eq_false, beq_iff_eq, beq_eq_false_iff_ne, ne_eq, decide_eq_decide, true_iff, false_iff, iff_true, iff_false, true_and, and_true, false_or, or_false, Bool.and_true, Bool.and_eq_true, Bool.and_eq_false_iff, Bool.or_eq_true, Bool.or_eq_false_iff, List.length_cons, List.length_nil] at h) <;> (try (exfalso; first | omega | exact h rfl | (cases h; done) | exact absurd h (by assumption) | exact h (by assumption) | (simp at h; done)))) | refine ⟨⟨by (first | omega | (simp only [lenS]; omega)), by (first | omega | (simp only [lenS]; omega))⟩, _, by assumption, by rfl, ?_⟩ | refine .inl ⟨⟨by (first | omega | (simp only [lenS]; omega)), by (first | omega | (simp only [lenS]; omega))⟩, ?_⟩ | refine ⟨⟨by (first | omega | (simp only [lenS]; omega)), by (first | omega | (simp only [lenS]; omega))⟩, ?_⟩ | refine ⟨⟨by (first | omega | (simp only [lenS]; omega)), by (first | omega | (simp only [lenS]; omega)), by (first | omega | (simp only [lenS]; omega))⟩, ?_⟩ | refine ⟨.inl rfl, ?_⟩ | refine ⟨.inr (.inl (by (first | omega | (simp only [lenS]; omega)))), ?_⟩ | refine ⟨_, rfl, rfl, by (first | exact Nat.le_refl _ | exact Nat.le_of_ble_eq_true rfl | decide), ?_⟩ | refine ⟨_, rfl, by (first | exact Nat.le_refl _ | exact Nat.le_of_ble_eq_true rfl | decide), ?_⟩ | refine ⟨by (first | exact Nat.le_refl _ | exact Nat.le_of_ble_eq_true rfl | decide | exact rfl), ?_⟩ | refine ⟨show _ ≤ (9223372036854775807 : Nat) by (first | omega | (simp only [lenS]; omega)), ?_⟩ | refine ⟨show _ ≠ (0 : Int) by (first | omega | (simp only [lenS]; omega)), ?_⟩ | refine ⟨_, rfl, _, rfl, ?_⟩ | refine ⟨_, by assumption, Nat.le_of_ble_eq_true rfl, ?_⟩ | refine ⟨_, by assumption, _, rfl, ?_⟩ | refine ⟨_, rfl, ?_⟩ | fail)
  all_goals exact ⟨_, _, fin_out rfl, congrArg (fun b => AV.d (.bool b)) (by ((          try clear hc1;             skip); first | rfl | (subst_vars; rfl) | (simp_all; done) | (simp_all; omega) | (simp_all; grind)))⟩
set_option maxRecDepth 100000 in
theorem cls6_ok (c : UInt8) : PureC Try.prog 77 [.d (.int .u8 c.toNat)] (.d (.bool (bareC c))) := by
  have hc1 := blank_ok c
  have e2 := u8eq c 62 (by decide)
  unfold bareC
  rw [show (62 : UInt8) = UInt8.ofNat 62 from rfl, e2]
  clear e2
  generalize blkB c = b1 at *
  refine pure_okT Try.wf Try.tab_ok Try.func77 (by decide +kernel) rfl rfl rfl rfl ?_
  repeat' (first | refine PureC.use hc1 ?_ |                       refine ⟨fun _ => ?_, fun h => absurd h (by decide)⟩ | refine ⟨fun h => absurd h (by decide), fun _ => ?_⟩ | (refine ⟨fun h => ?_, fun h => ?_⟩ <;> (try simp only [decide_eq_true_eq, decide_eq_false_iff_not, Bool.not_eq_true', Bool.not_eq_false', Bool.not_eq_true, Bool.not_eq_false, not_true_eq_false, beq_iff_eq, beq_eq_false_iff_ne, ne_eq, decide_eq_decide, true_iff, false_iff, iff_true, iff_false, true_and, and_true, false_or, or_false, Bool.and_true, Bool.and_eq_true, Bool.and_eq_false_iff, Bool.or_eq_true, Bool.or_eq_false_iff, List.length_cons, List.length_nil] at h) <;> (try (exfalso; first | omega | exact h rfl | (cases h; done) | exact absurd h (by assumption) | exact h (by assumption) | (simp at h; done)))) | refine ⟨⟨by (first | omega | (simp only [lenS]; omega)), by (first | omega | (simp only [lenS]; omega))⟩, _, by assumption, by rfl, ?_⟩ | refine .inl ⟨⟨by (first | omega | (simp only [lenS]; omega)), by (first | omega | (simp only [lenS]; omega))⟩, ?_⟩ | refine ⟨⟨by (first | omega | (simp only [lenS]; omega)), by (first | omega | (simp only [lenS]; omega))⟩, ?_⟩ | refine ⟨⟨by (first | omega | (simp only [lenS]; omega)), by (first | omega | (simp only [lenS]; omega)), by (first | omega | (simp only [lenS]; omega))⟩, ?_⟩ | refine ⟨.inl rfl, ?_⟩ | refine ⟨.inr (.inl (by (first | omega | (simp only [lenS]; omega)))), ?_⟩ | refine ⟨_, rfl, rfl, by (first | exact Nat.le_refl _ | exact Nat.le_of_ble_eq_true rfl | decide), ?_⟩ | refine ⟨_, rfl, by (first | exact Nat.le_refl _ | exact Nat.le_of_ble_eq_true rfl | decide), ?_⟩ | refine ⟨by (first | exact Nat.le_refl _ | exact Nat.le_of_ble_eq_true rfl | decide | exact rfl), ?_⟩ | refine ⟨show _ ≤ (9223372036854775807 : Nat) by (first | omega | (simp only [lenS]; omega)), ?_⟩ | refine ⟨show _ ≠ (0 : Int) by (first | omega | (simp only [lenS]; omega)), ?_⟩ | refine ⟨_, rfl, _, rfl, ?_⟩ | refine ⟨_, by assumption, Nat.le_of_ble_eq_true rfl, ?_⟩ | refine ⟨_, by assumption, _, rfl, ?_⟩ | refine ⟨_, rfl, ?_⟩ | fail)
  all_goals exact ⟨_, _, fin_out rfl, congrArg (fun b => AV.d (.bool b)) (by ((          try clear hc1;             skip); first | rfl | (subst_vars; rfl) | (simp_all; done) | (simp_all; omega) | (simp_all; grind)))⟩
/-- The reader as it is seen by what only reads it. -/
def rdR (s : List UInt8) (n : Nat) (l : List Tok) : List D := [.str s, .int .i64 n, .sl (toksD l)]
theorem drop_of (s : List UInt8) (n : Nat) : (s.take ((s.length : Nat) : Int).toNat).drop ((n : Nat) : Int).toNat = s.drop n := by
  rw [Int.toNat_natCast, Int.toNat_natCast, List.take_length]
set_option maxRecDepth 100000 in
theorem left_pure (s : List UInt8) (n : Nat) (l : List Tok) (hn : n ≤ s.length) : PureC Try.prog 48 [.ip (rdR s n l) 0] (.d (.str (s.drop n))) := by
  refine pure_okT Try.wf Try.tab_ok Try.func48 (by decide +kernel) rfl rfl rfl rfl ?_
  refine drawnT Try.wf Try.tab_ok Try.mixed (by decide +kernel) ?_; repeat' (first |       refine qskip rfl rfl ?_ | refine qstep (r := .d (.bool true)) rfl rfl (fin_eq (congrArg (fun b => AV.d (.bool b)) (decide_eq_true (by omega)))) ?_ | refine qstep (r := .d (.bool false)) rfl rfl (fin_eq (congrArg (fun b => AV.d (.bool b)) (decide_eq_false (by omega)))) ?_ | refine qstep rfl rfl ⟨fun _ => FinMove.refl _ _ _, fun h => absurd h (by decide)⟩ ?_ | refine qstep rfl rfl ⟨fun h => absurd h (by decide), fun _ => FinMove.refl _ _ _⟩ ?_ | refine qstep rfl rfl (FinMove.refl _ _ _) ?_ |             refine qstep rfl rfl ⟨⟨by (first | omega | (simp only [lenS]; omega)), by (first | omega | (simp only [lenS]; omega))⟩, _, by assumption, by rfl, FinMove.refl _ _ _⟩ ?_ | refine qstep rfl rfl (.inl ⟨⟨by (first | omega | (simp only [lenS]; omega)), by (first | omega | (simp only [lenS]; omega))⟩, FinMove.refl _ _ _⟩) ?_ | refine qstep rfl rfl ⟨⟨by (first | omega | (simp only [lenS]; omega)), by (first | omega | (simp only [lenS]; omega))⟩, FinMove.refl _ _ _⟩ ?_ | refine qstep rfl rfl ⟨⟨by (first | omega | (simp only [lenS]; omega)), by (first | omega | (simp only [lenS]; omega)), by (first | omega | (simp only [lenS]; omega))⟩, FinMove.refl _ _ _⟩ ?_ | refine qstep rfl rfl ⟨⟨by (first | omega | (simp only [lenS]; omega)), by (first | omega | (simp only [lenS]; omega)), by (first | omega | (simp only [lenS]; omega))⟩, .inl rfl, FinMove.refl _ _ _⟩ ?_ | refine qstep rfl rfl ⟨_, rfl, _, rfl, FinMove.refl _ _ _⟩ ?_ | refine qstep rfl rfl ⟨_, rfl, FinMove.refl _ _ _⟩ ?_ | refine qstep rfl rfl ⟨_, rfl, Nat.le_refl _, FinMove.refl _ _ _⟩ ?_ | refine qstep rfl rfl ⟨Nat.le_refl _, FinMove.refl _ _ _⟩ ?_ | refine qstep rfl rfl ⟨by decide, FinMove.refl _ _ _⟩ ?_ | refine qstep rfl rfl ⟨show _ ≤ (9223372036854775807 : Nat) by (first | omega | (simp only [lenS]; omega)), FinMove.refl _ _ _⟩ ?_ | fail)
  exact ⟨_, _, fin_out rfl, congrArg (fun x => AV.d (.str x)) (drop_of s n)⟩
theorem plain_cons (a : UInt8) (c : UInt8) (r : List UInt8) : plainB (a :: c :: r) = (!decide (a = 60) || (if c = 47 then decide (r = []) else !(decide (c = 33) || (decide (c = 63) || ltrB c)))) := by
  unfold plainB kindL
  by_cases h : a = 60
  · subst h
    simp only [if_true, decide_true, Bool.not_true, Bool.false_or]
    by_cases h47 : c = 47
    · subst h47
      rw [if_pos rfl]
      have e1 : hasPre (47 :: r) [33, 45, 45] = false := by simp [hasPre]
      rw [e1]
      cases r with
      | nil => decide
      | cons d t =>
        have : ltrB 47 = false := by decide
        rw [this]
        simp only [Bool.false_eq_true, if_false, if_true]
        by_cases h1 : d = 62
        · simp [h1]
        · by_cases h2 : ltrB d = true <;> simp [h1, h2]
    · rw [if_neg h47]
      by_cases h33 : c = 33
      · subst h33
        by_cases h1 : hasPre (33 :: r) [33, 45, 45] = true <;> simp [h1]
      · have e1 : hasPre (c :: r) [33, 45, 45] = false := by simp [hasPre]; intro _ e; exact absurd e h33
        rw [e1]
        by_cases h63 : c = 63
        · simp [h63]
        · by_cases h2 : ltrB c = true <;> simp [h33, h63, h2, h47]
  · simp [h]
set_option maxRecDepth 100000 in
theorem plain_pure (s : List UInt8) (n : Nat) (l : List Tok) (hn : n < s.length) : PureC Try.prog 49 [.ip (rdR s n l) 0] (.d (.bool (plainB (s.drop n)))) := by
  have hc1 := left_pure s n l (by omega)
  have hl : (s.drop n).length = s.length - n := by simp
  generalize s.drop n = x at *
  cases x with
  | nil => simp at hl; omega
  | cons a r =>
  cases r with
  | nil =>
    have hb : plainB [a] = true := rfl
    rw [hb]
    refine pure_okT Try.wf Try.tab_ok Try.func49 (by decide +kernel) rfl rfl rfl rfl ?_
    repeat' (first | refine PureC.use hc1 ?_ | refine PureC.use hc2 ?_ |                      refine ⟨fun _ => ?_, fun h => absurd h (by decide)⟩ | refine ⟨fun h => absurd h (by decide), fun _ => ?_⟩ | (refine ⟨fun h => ?_, fun h => ?_⟩ <;> (try simp only [decide_eq_true_eq, decide_eq_false_iff_not, Bool.not_eq_true', Bool.not_eq_false', Bool.not_eq_true, Bool.not_eq_false, not_true_eq_false, beq_iff_eq, beq_eq_false_iff_ne, ne_eq, decide_eq_decide, true_iff, false_iff, iff_true, iff_false, true_and, and_true, false_or, or_false, Bool.and_true, Bool.and_eq_true, Bool.and_eq_false_iff, Bool.or_eq_true, Bool.or_eq_false_iff, List.length_cons, List.length_nil] at h) <;> (try (exfalso; first | omega | exact h rfl | (cases h; done) | exact absurd h (by assumption) | exact h (by assumption) | (simp at h; done)))) | refine ⟨⟨by (first | omega | (simp only [lenS]; omega)), by (first | omega | (simp only [lenS]; omega))⟩, _, by assumption, by rfl, ?_⟩ | refine .inl ⟨⟨by (first | omega | (simp only [lenS]; omega)), by (first | omega | (simp only [lenS]; omega))⟩, ?_⟩ | refine ⟨⟨by (first | omega | (simp only [lenS]; omega)), by (first | omega | (simp only [lenS]; omega))⟩, ?_⟩ | refine ⟨⟨by (first | omega | (simp only [lenS]; omega)), by (first | omega | (simp only [lenS]; omega)), by (first | omega | (simp only [lenS]; omega))⟩, ?_⟩ | refine ⟨.inl rfl, ?_⟩ | refine ⟨.inr (.inl (by (first | omega | (simp only [lenS]; omega)))), ?_⟩ | refine ⟨_, rfl, rfl, by (first | exact Nat.le_refl _ | exact Nat.le_of_ble_eq_true rfl | decide), ?_⟩ | refine ⟨_, rfl, by (first | exact Nat.le_refl _ | exact Nat.le_of_ble_eq_true rfl | decide), ?_⟩ | refine ⟨by (first | exact Nat.le_refl _ | exact Nat.le_of_ble_eq_true rfl | decide | exact rfl), ?_⟩ | refine ⟨show _ ≤ (9223372036854775807 : Nat) by (first | omega | (simp only [lenS]; omega)), ?_⟩ | refine ⟨show _ ≠ (0 : Int) by (first | omega | (simp only [lenS]; omega)), ?_⟩ | refine ⟨_, rfl, _, rfl, ?_⟩ | refine ⟨_, by assumption, Nat.le_of_ble_eq_true rfl, ?_⟩ | refine ⟨_, by assumption, _, rfl, ?_⟩ | refine ⟨_, rfl, ?_⟩ | fail)
    all_goals exact ⟨_, _, fin_out rfl, rfl⟩
  | cons c r =>
    rw [plain_cons]
    have hc2 := letter_ok c
    have e1 := u8eq a 60 (by decide)
    have e2 := u8eq c 33 (by decide)
    have e3 := u8eq c 63 (by decide)
    have e4 : (c = 47) = ((c.toNat : Int) = 47) := by have := u8eq c 47 (by decide); rw [decide_eq_decide] at this; exact propext this
    rw [show (60 : UInt8) = UInt8.ofNat 60 from rfl, show (33 : UInt8) = UInt8.ofNat 33 from rfl, show (63 : UInt8) = UInt8.ofNat 63 from rfl, e1, e2, e3]
    simp only [e4]
    have e5 : decide (r = []) = decide (((r.length + 1 + 1 : Nat) : Int) = 2) := by
      rw [decide_eq_decide, ← List.length_eq_zero_iff]; omega
    rw [e5]
    clear e1 e2 e3 e4 e5
    generalize ltrB c = b1 at *
    refine pure_okT Try.wf Try.tab_ok Try.func49 (by decide +kernel) rfl rfl rfl rfl ?_
    repeat' (first | refine PureC.use hc1 ?_ | refine PureC.use hc2 ?_ |                      refine ⟨fun _ => ?_, fun h => absurd h (by decide)⟩ | refine ⟨fun h => absurd h (by decide), fun _ => ?_⟩ | (refine ⟨fun h => ?_, fun h => ?_⟩ <;> (try simp only [decide_eq_true_eq, decide_eq_false_iff_not, Bool.not_eq_true', Bool.not_eq_false', Bool.not_eq_true, Bool.not_eq_false, not_true_eq_false, beq_iff_eq, beq_eq_false_iff_ne, ne_eq, decide_eq_decide, true_iff, false_iff, iff_true, iff_false, true_and, and_true, false_or, or_false, Bool.and_true, Bool.and_eq_true, Bool.and_eq_false_iff, Bool.or_eq_true, Bool.or_eq_false_iff, List.length_cons, List.length_nil] at h) <;> (try (exfalso; first | omega | exact h rfl | (cases h; done) | exact absurd h (by assumption) | exact h (by assumption) | (simp at h; done)))) | refine ⟨⟨by (first | omega | (simp only [lenS]; omega)), by (first | omega | (simp only [lenS]; omega))⟩, _, by assumption, by rfl, ?_⟩ | refine .inl ⟨⟨by (first | omega | (simp only [lenS]; omega)), by (first | omega | (simp only [lenS]; omega))⟩, ?_⟩ | refine ⟨⟨by (first | omega | (simp only [lenS]; omega)), by (first | omega | (simp only [lenS]; omega))⟩, ?_⟩ | refine ⟨⟨by (first | omega | (simp only [lenS]; omega)), by (first | omega | (simp only [lenS]; omega)), by (first | omega | (simp only [lenS]; omega))⟩, ?_⟩ | refine ⟨.inl rfl, ?_⟩ | refine ⟨.inr (.inl (by (first | omega | (simp only [lenS]; omega)))), ?_⟩ | refine ⟨_, rfl, rfl, by (first | exact Nat.le_refl _ | exact Nat.le_of_ble_eq_true rfl | decide), ?_⟩ | refine ⟨_, rfl, by (first | exact Nat.le_refl _ | exact Nat.le_of_ble_eq_true rfl | decide), ?_⟩ | refine ⟨by (first | exact Nat.le_refl _ | exact Nat.le_of_ble_eq_true rfl | decide | exact rfl), ?_⟩ | refine ⟨show _ ≤ (9223372036854775807 : Nat) by (first | omega | (simp only [lenS]; omega)), ?_⟩ | refine ⟨show _ ≠ (0 : Int) by (first | omega | (simp only [lenS]; omega)), ?_⟩ | refine ⟨_, rfl, _, rfl, ?_⟩ | refine ⟨_, by assumption, Nat.le_of_ble_eq_true rfl, ?_⟩ | refine ⟨_, by assumption, _, rfl, ?_⟩ | refine ⟨_, rfl, ?_⟩ | fail)
    all_goals exact ⟨_, _, fin_out rfl, congrArg (fun b => AV.d (.bool b)) (by ((          try clear hc1; try clear hc2;       try clear hl;     skip); first | rfl | (subst_vars; rfl) | (simp_all; done) | (simp_all; omega) | (simp_all; grind)))⟩
def rdO (s : List UInt8) (n : Nat) (m : Nat) : Ob := .rows (3, 64) [[.d (.str s), .d (.int .i64 n), .own 1 0 m]]
def outO (l : List Tok) : Ob := .rows (5, 37) ((toksD l).map fun r => r.map AV.d)
/-- The reader of a text at a place, and what it has read. -/
abbrev rdS (s : List UInt8) (n : Nat) (l : List Tok) : Store := ⟨2, [(1, outO l), (0, rdO s n l.length)]⟩
theorem hd_drop (p : UInt8 → Bool) (s : List UInt8) (k : Nat) (h : k < s.length) : hdB p (s.drop k) = p s[k] := by
  rw [List.drop_eq_getElem_cons h]; rfl
set_option maxRecDepth 100000 in
theorem pass_ok (f : FuncId) (p : UInt8 → Bool) (hf : ∀ c : UInt8, PureC Try.prog f [.d (.int .u8 c.toNat)] (.d (.bool (p c)))) (s : List UInt8) (n : Nat) (l : List Tok) (hn : n ≤ s.length) (hs : s.length ≤ 4611686018427387904) :
    CallsAbs Try.prog 69 [.ref 0 0 0, .fn (.func f) [] []] (rdS s n l) fun r σ' => r = .d (.str ((s.drop n).take (runN (hdB p) (s.drop n)))) ∧ σ' = rdS s (n + runN (hdB p) (s.drop n)) l := by
  refine fn_okT Try.wf Try.tab_ok Try.func69 (by decide +kernel) rfl rfl ?_
  repeat' (first | refine PureC.use hc1 ?_ |                       refine ⟨fun _ => ?_, fun h => absurd h (by decide)⟩ | refine ⟨fun h => absurd h (by decide), fun _ => ?_⟩ | (refine ⟨fun h => ?_, fun h => ?_⟩ <;> (try simp only [decide_eq_true_eq, decide_eq_false_iff_not, Bool.not_eq_true', Bool.not_eq_false', Bool.not_eq_true, Bool.not_eq_false, not_true_eq_false, beq_iff_eq, beq_eq_false_iff_ne, ne_eq, decide_eq_decide, true_iff, false_iff, iff_true, iff_false, true_and, and_true, false_or, or_false, Bool.and_true, Bool.and_eq_true, Bool.and_eq_false_iff, Bool.or_eq_true, Bool.or_eq_false_iff, List.length_cons, List.length_nil] at h) <;> (try (exfalso; first | omega | exact h rfl | (cases h; done) | exact absurd h (by assumption) | exact h (by assumption) | (simp at h; done)))) | refine ⟨⟨by (first | omega | (simp only [lenS]; omega)), by (first | omega | (simp only [lenS]; omega))⟩, _, by assumption, by rfl, ?_⟩ | refine .inl ⟨⟨by (first | omega | (simp only [lenS]; omega)), by (first | omega | (simp only [lenS]; omega))⟩, ?_⟩ | refine ⟨⟨by (first | omega | (simp only [lenS]; omega)), by (first | omega | (simp only [lenS]; omega))⟩, ?_⟩ | refine ⟨⟨by (first | omega | (simp only [lenS]; omega)), by (first | omega | (simp only [lenS]; omega)), by (first | omega | (simp only [lenS]; omega))⟩, ?_⟩ | refine ⟨.inl rfl, ?_⟩ | refine ⟨.inr (.inl (by (first | omega | (simp only [lenS]; omega)))), ?_⟩ | refine ⟨_, rfl, rfl, by (first | exact Nat.le_refl _ | exact Nat.le_of_ble_eq_true rfl | decide), ?_⟩ | refine ⟨_, rfl, by (first | exact Nat.le_refl _ | exact Nat.le_of_ble_eq_true rfl | decide), ?_⟩ | refine ⟨by (first | exact Nat.le_refl _ | exact Nat.le_of_ble_eq_true rfl | decide | exact rfl), ?_⟩ | refine ⟨show _ ≤ (9223372036854775807 : Nat) by (first | omega | (simp only [lenS]; omega)), ?_⟩ | refine ⟨show _ ≠ (0 : Int) by (first | omega | (simp only [lenS]; omega)), ?_⟩ | refine ⟨_, rfl, _, rfl, ?_⟩ | refine ⟨_, by assumption, Nat.le_of_ble_eq_true rfl, ?_⟩ | refine ⟨_, by assumption, _, rfl, ?_⟩ | refine ⟨_, rfl, ?_⟩ | fail)
  have hdl : (s.drop n).length = s.length - n := by simp
  have hle := runN_le (hdB p) (s.drop n)
  refine loopT Try.wf Try.tab_ok (fun m s' σ => ∃ k : Nat, m = s.length - (n + k) ∧ k ≤ runN (hdB p) (s.drop n) ∧ s' = [(0, .ref 0 0 0), (1, .fn (.func f) [] []), (5, .d (.int .i64 n))] ∧ σ = rdS s (n + k) l)
    ⟨0, rfl, Nat.zero_le _, rfl, rfl⟩ (Mv.of [] rfl rfl rfl ⟨⟨rfl, .inl ⟨rfl, dataA_pure _⟩⟩, ⟨rfl, .inr ⟨⟨rfl, rfl, ⟨rfl, rfl, rfl⟩, trivial⟩, trivial⟩⟩, trivial⟩ ⟨⟨rfl, rfl, rfl⟩, ⟨rfl, trivial, trivial⟩, rfl, trivial⟩) ?_
  rintro _ _ _ ⟨k, rfl, hk, rfl, rfl⟩
  have mv : ∀ m : Nat, (n : Int) + m = ((n + m : Nat) : Int) := fun m => by omega
  have fin : ∀ k : Nat, k = runN (hdB p) (s.drop n) → AV.d (.str ((s.take ((n + k : Nat) : Int).toNat).drop ((n : Nat) : Int).toNat)) = AV.d (.str ((s.drop n).take (runN (hdB p) (s.drop n)))) := fun k e => by
    rw [← e, Int.toNat_natCast, Int.toNat_natCast, List.drop_take, Nat.add_sub_cancel_left]
  have endm : ∀ k : Nat, k = runN (hdB p) (s.drop n) → ∃ r' σ', FinMove (rdS s n l) (AV.d (.str ((s.take ((n + k : Nat) : Int).toNat).drop ((n : Nat) : Int).toNat))) (rdS s (n + k) l) r' σ' ∧ r' = .d (.str ((s.drop n).take (runN (hdB p) (s.drop n)))) ∧ σ' = rdS s (n + runN (hdB p) (s.drop n)) l := fun k e => by
    refine ⟨_, _, FinMove.refl _ _ _, fin k e, by rw [e]⟩
  by_cases hlt : n + k < s.length
  · have hc1 := hf s[n + k]
    have hg := getD_at s (n + k) hlt
    have hd : hdB p ((s.drop n).drop k) = p s[n + k] := by rw [List.drop_drop, hd_drop p s (n + k) hlt]
    cases hp : p s[n + k] with
    | true =>
      have hk1 := runN_more (hdB p) (s.drop n) k hk (by omega) (by rw [hd, hp])
      rw [hp, ← hg] at hc1
      clear hp hg hd hf fin endm
      repeat' (first | refine PureC.use hc1 ?_ |                       refine ⟨fun _ => ?_, fun h => absurd h (by decide)⟩ | refine ⟨fun h => absurd h (by decide), fun _ => ?_⟩ | (refine ⟨fun h => ?_, fun h => ?_⟩ <;> (try simp only [decide_eq_true_eq, decide_eq_false_iff_not, Bool.not_eq_true', Bool.not_eq_false', Bool.not_eq_true, Bool.not_eq_false, not_true_eq_false, beq_iff_eq, beq_eq_false_iff_ne, ne_eq, decide_eq_decide, true_iff, false_iff, iff_true, iff_false, true_and, and_true, false_or, or_false, Bool.and_true, Bool.and_eq_true, Bool.and_eq_false_iff, Bool.or_eq_true, Bool.or_eq_false_iff, List.length_cons, List.length_nil] at h) <;> (try (exfalso; first | omega | exact h rfl | (cases h; done) | exact absurd h (by assumption) | exact h (by assumption) | (simp at h; done)))) | refine ⟨⟨by (first | omega | (simp only [lenS]; omega)), by (first | omega | (simp only [lenS]; omega))⟩, _, by assumption, by rfl, ?_⟩ | refine .inl ⟨⟨by (first | omega | (simp only [lenS]; omega)), by (first | omega | (simp only [lenS]; omega))⟩, ?_⟩ | refine ⟨⟨by (first | omega | (simp only [lenS]; omega)), by (first | omega | (simp only [lenS]; omega))⟩, ?_⟩ | refine ⟨⟨by (first | omega | (simp only [lenS]; omega)), by (first | omega | (simp only [lenS]; omega)), by (first | omega | (simp only [lenS]; omega))⟩, ?_⟩ | refine ⟨.inl rfl, ?_⟩ | refine ⟨.inr (.inl (by (first | omega | (simp only [lenS]; omega)))), ?_⟩ | refine ⟨_, rfl, rfl, by (first | exact Nat.le_refl _ | exact Nat.le_of_ble_eq_true rfl | decide), ?_⟩ | refine ⟨_, rfl, by (first | exact Nat.le_refl _ | exact Nat.le_of_ble_eq_true rfl | decide), ?_⟩ | refine ⟨by (first | exact Nat.le_refl _ | exact Nat.le_of_ble_eq_true rfl | decide | exact rfl), ?_⟩ | refine ⟨show _ ≤ (9223372036854775807 : Nat) by (first | omega | (simp only [lenS]; omega)), ?_⟩ | refine ⟨show _ ≠ (0 : Int) by (first | omega | (simp only [lenS]; omega)), ?_⟩ | refine ⟨_, rfl, _, rfl, ?_⟩ | refine ⟨_, by assumption, Nat.le_of_ble_eq_true rfl, ?_⟩ | refine ⟨_, by assumption, _, rfl, ?_⟩ | refine ⟨_, rfl, ?_⟩ | fail)
      refine drawnT Try.wf Try.tab_ok Try.mixed (by decide +kernel) ?_
      repeat' (first |       refine qskip rfl rfl ?_ | refine qstep (r := .d (.bool true)) rfl rfl (fin_eq (congrArg (fun b => AV.d (.bool b)) (decide_eq_true (by omega)))) ?_ | refine qstep (r := .d (.bool false)) rfl rfl (fin_eq (congrArg (fun b => AV.d (.bool b)) (decide_eq_false (by omega)))) ?_ | refine qstep rfl rfl ⟨fun _ => FinMove.refl _ _ _, fun h => absurd h (by decide)⟩ ?_ | refine qstep rfl rfl ⟨fun h => absurd h (by decide), fun _ => FinMove.refl _ _ _⟩ ?_ | refine qstep rfl rfl (FinMove.refl _ _ _) ?_ |     refine qstep rfl rfl (PureC.use hc1 (FinMove.refl _ _ _)) ?_ |        refine qstep rfl rfl ⟨⟨by (first | omega | (simp only [lenS]; omega)), by (first | omega | (simp only [lenS]; omega))⟩, _, by assumption, by rfl, FinMove.refl _ _ _⟩ ?_ | refine qstep rfl rfl (.inl ⟨⟨by (first | omega | (simp only [lenS]; omega)), by (first | omega | (simp only [lenS]; omega))⟩, FinMove.refl _ _ _⟩) ?_ | refine qstep rfl rfl ⟨⟨by (first | omega | (simp only [lenS]; omega)), by (first | omega | (simp only [lenS]; omega))⟩, FinMove.refl _ _ _⟩ ?_ | refine qstep rfl rfl ⟨⟨by (first | omega | (simp only [lenS]; omega)), by (first | omega | (simp only [lenS]; omega)), by (first | omega | (simp only [lenS]; omega))⟩, FinMove.refl _ _ _⟩ ?_ | refine qstep rfl rfl ⟨⟨by (first | omega | (simp only [lenS]; omega)), by (first | omega | (simp only [lenS]; omega)), by (first | omega | (simp only [lenS]; omega))⟩, .inl rfl, FinMove.refl _ _ _⟩ ?_ | refine qstep rfl rfl ⟨_, rfl, _, rfl, FinMove.refl _ _ _⟩ ?_ | refine qstep rfl rfl ⟨_, rfl, FinMove.refl _ _ _⟩ ?_ | refine qstep rfl rfl ⟨_, rfl, Nat.le_refl _, FinMove.refl _ _ _⟩ ?_ | refine qstep rfl rfl ⟨Nat.le_refl _, FinMove.refl _ _ _⟩ ?_ | refine qstep rfl rfl ⟨by decide, FinMove.refl _ _ _⟩ ?_ | refine qstep rfl rfl ⟨show _ ≤ (9223372036854775807 : Nat) by (first | omega | (simp only [lenS]; omega)), FinMove.refl _ _ _⟩ ?_ | fail)
      repeat' (first | refine PureC.use hc1 ?_ |                       refine ⟨fun _ => ?_, fun h => absurd h (by decide)⟩ | refine ⟨fun h => absurd h (by decide), fun _ => ?_⟩ | (refine ⟨fun h => ?_, fun h => ?_⟩ <;> (try simp only [decide_eq_true_eq, decide_eq_false_iff_not, Bool.not_eq_true', Bool.not_eq_false', Bool.not_eq_true, Bool.not_eq_false, not_true_eq_false, beq_iff_eq, beq_eq_false_iff_ne, ne_eq, decide_eq_decide, true_iff, false_iff, iff_true, iff_false, true_and, and_true, false_or, or_false, Bool.and_true, Bool.and_eq_true, Bool.and_eq_false_iff, Bool.or_eq_true, Bool.or_eq_false_iff, List.length_cons, List.length_nil] at h) <;> (try (exfalso; first | omega | exact h rfl | (cases h; done) | exact absurd h (by assumption) | exact h (by assumption) | (simp at h; done)))) | refine ⟨⟨by (first | omega | (simp only [lenS]; omega)), by (first | omega | (simp only [lenS]; omega))⟩, _, by assumption, by rfl, ?_⟩ | refine .inl ⟨⟨by (first | omega | (simp only [lenS]; omega)), by (first | omega | (simp only [lenS]; omega))⟩, ?_⟩ | refine ⟨⟨by (first | omega | (simp only [lenS]; omega)), by (first | omega | (simp only [lenS]; omega))⟩, ?_⟩ | refine ⟨⟨by (first | omega | (simp only [lenS]; omega)), by (first | omega | (simp only [lenS]; omega)), by (first | omega | (simp only [lenS]; omega))⟩, ?_⟩ | refine ⟨.inl rfl, ?_⟩ | refine ⟨.inr (.inl (by (first | omega | (simp only [lenS]; omega)))), ?_⟩ | refine ⟨_, rfl, rfl, by (first | exact Nat.le_refl _ | exact Nat.le_of_ble_eq_true rfl | decide), ?_⟩ | refine ⟨_, rfl, by (first | exact Nat.le_refl _ | exact Nat.le_of_ble_eq_true rfl | decide), ?_⟩ | refine ⟨by (first | exact Nat.le_refl _ | exact Nat.le_of_ble_eq_true rfl | decide | exact rfl), ?_⟩ | refine ⟨show _ ≤ (9223372036854775807 : Nat) by (first | omega | (simp only [lenS]; omega)), ?_⟩ | refine ⟨show _ ≠ (0 : Int) by (first | omega | (simp only [lenS]; omega)), ?_⟩ | refine ⟨_, rfl, _, rfl, ?_⟩ | refine ⟨_, by assumption, Nat.le_of_ble_eq_true rfl, ?_⟩ | refine ⟨_, by assumption, _, rfl, ?_⟩ | refine ⟨_, rfl, ?_⟩ | fail)
      exact ⟨_, _, _, ⟨k + 1, rfl, hk1, rfl, rfl⟩, by omega, Mv.of [] rfl rfl rfl ⟨⟨rfl, .inl ⟨rfl, dataA_pure _⟩⟩, ⟨rfl, .inr ⟨⟨rfl, congrArg (D.int .i64) (show ((n + (k + 1) : Nat) : Int) = ((n + k : Nat) : Int) + 1 by omega), ⟨rfl, rfl, rfl⟩, trivial⟩, trivial⟩⟩, trivial⟩ ⟨⟨rfl, rfl, rfl⟩, ⟨rfl, trivial, trivial⟩, rfl, trivial⟩⟩
    | false =>
      have hk1 := runN_done (hdB p) (s.drop n) k hk (fun _ => by rw [hd, hp])
      rw [hp, ← hg] at hc1
      have em := endm k hk1
      clear hp hg hd hf fin endm
      repeat' (first | refine PureC.use hc1 ?_ |                       refine ⟨fun _ => ?_, fun h => absurd h (by decide)⟩ | refine ⟨fun h => absurd h (by decide), fun _ => ?_⟩ | (refine ⟨fun h => ?_, fun h => ?_⟩ <;> (try simp only [decide_eq_true_eq, decide_eq_false_iff_not, Bool.not_eq_true', Bool.not_eq_false', Bool.not_eq_true, Bool.not_eq_false, not_true_eq_false, beq_iff_eq, beq_eq_false_iff_ne, ne_eq, decide_eq_decide, true_iff, false_iff, iff_true, iff_false, true_and, and_true, false_or, or_false, Bool.and_true, Bool.and_eq_true, Bool.and_eq_false_iff, Bool.or_eq_true, Bool.or_eq_false_iff, List.length_cons, List.length_nil] at h) <;> (try (exfalso; first | omega | exact h rfl | (cases h; done) | exact absurd h (by assumption) | exact h (by assumption) | (simp at h; done)))) | refine ⟨⟨by (first | omega | (simp only [lenS]; omega)), by (first | omega | (simp only [lenS]; omega))⟩, _, by assumption, by rfl, ?_⟩ | refine .inl ⟨⟨by (first | omega | (simp only [lenS]; omega)), by (first | omega | (simp only [lenS]; omega))⟩, ?_⟩ | refine ⟨⟨by (first | omega | (simp only [lenS]; omega)), by (first | omega | (simp only [lenS]; omega))⟩, ?_⟩ | refine ⟨⟨by (first | omega | (simp only [lenS]; omega)), by (first | omega | (simp only [lenS]; omega)), by (first | omega | (simp only [lenS]; omega))⟩, ?_⟩ | refine ⟨.inl rfl, ?_⟩ | refine ⟨.inr (.inl (by (first | omega | (simp only [lenS]; omega)))), ?_⟩ | refine ⟨_, rfl, rfl, by (first | exact Nat.le_refl _ | exact Nat.le_of_ble_eq_true rfl | decide), ?_⟩ | refine ⟨_, rfl, by (first | exact Nat.le_refl _ | exact Nat.le_of_ble_eq_true rfl | decide), ?_⟩ | refine ⟨by (first | exact Nat.le_refl _ | exact Nat.le_of_ble_eq_true rfl | decide | exact rfl), ?_⟩ | refine ⟨show _ ≤ (9223372036854775807 : Nat) by (first | omega | (simp only [lenS]; omega)), ?_⟩ | refine ⟨show _ ≠ (0 : Int) by (first | omega | (simp only [lenS]; omega)), ?_⟩ | refine ⟨_, rfl, _, rfl, ?_⟩ | refine ⟨_, by assumption, Nat.le_of_ble_eq_true rfl, ?_⟩ | refine ⟨_, by assumption, _, rfl, ?_⟩ | refine ⟨_, rfl, ?_⟩ | fail)
      refine drawnT Try.wf Try.tab_ok Try.mixed (by decide +kernel) ?_
      repeat' (first |       refine qskip rfl rfl ?_ | refine qstep (r := .d (.bool true)) rfl rfl (fin_eq (congrArg (fun b => AV.d (.bool b)) (decide_eq_true (by omega)))) ?_ | refine qstep (r := .d (.bool false)) rfl rfl (fin_eq (congrArg (fun b => AV.d (.bool b)) (decide_eq_false (by omega)))) ?_ | refine qstep rfl rfl ⟨fun _ => FinMove.refl _ _ _, fun h => absurd h (by decide)⟩ ?_ | refine qstep rfl rfl ⟨fun h => absurd h (by decide), fun _ => FinMove.refl _ _ _⟩ ?_ | refine qstep rfl rfl (FinMove.refl _ _ _) ?_ |     refine qstep rfl rfl (PureC.use hc1 (FinMove.refl _ _ _)) ?_ |        refine qstep rfl rfl ⟨⟨by (first | omega | (simp only [lenS]; omega)), by (first | omega | (simp only [lenS]; omega))⟩, _, by assumption, by rfl, FinMove.refl _ _ _⟩ ?_ | refine qstep rfl rfl (.inl ⟨⟨by (first | omega | (simp only [lenS]; omega)), by (first | omega | (simp only [lenS]; omega))⟩, FinMove.refl _ _ _⟩) ?_ | refine qstep rfl rfl ⟨⟨by (first | omega | (simp only [lenS]; omega)), by (first | omega | (simp only [lenS]; omega))⟩, FinMove.refl _ _ _⟩ ?_ | refine qstep rfl rfl ⟨⟨by (first | omega | (simp only [lenS]; omega)), by (first | omega | (simp only [lenS]; omega)), by (first | omega | (simp only [lenS]; omega))⟩, FinMove.refl _ _ _⟩ ?_ | refine qstep rfl rfl ⟨⟨by (first | omega | (simp only [lenS]; omega)), by (first | omega | (simp only [lenS]; omega)), by (first | omega | (simp only [lenS]; omega))⟩, .inl rfl, FinMove.refl _ _ _⟩ ?_ | refine qstep rfl rfl ⟨_, rfl, _, rfl, FinMove.refl _ _ _⟩ ?_ | refine qstep rfl rfl ⟨_, rfl, FinMove.refl _ _ _⟩ ?_ | refine qstep rfl rfl ⟨_, rfl, Nat.le_refl _, FinMove.refl _ _ _⟩ ?_ | refine qstep rfl rfl ⟨Nat.le_refl _, FinMove.refl _ _ _⟩ ?_ | refine qstep rfl rfl ⟨by decide, FinMove.refl _ _ _⟩ ?_ | refine qstep rfl rfl ⟨show _ ≤ (9223372036854775807 : Nat) by (first | omega | (simp only [lenS]; omega)), FinMove.refl _ _ _⟩ ?_ | fail)
      repeat' (first | refine PureC.use hc1 ?_ |                       refine ⟨fun _ => ?_, fun h => absurd h (by decide)⟩ | refine ⟨fun h => absurd h (by decide), fun _ => ?_⟩ | (refine ⟨fun h => ?_, fun h => ?_⟩ <;> (try simp only [decide_eq_true_eq, decide_eq_false_iff_not, Bool.not_eq_true', Bool.not_eq_false', Bool.not_eq_true, Bool.not_eq_false, not_true_eq_false, beq_iff_eq, beq_eq_false_iff_ne, ne_eq, decide_eq_decide, true_iff, false_iff, iff_true, iff_false, true_and, and_true, false_or, or_false, Bool.and_true, Bool.and_eq_true, Bool.and_eq_false_iff, Bool.or_eq_true, Bool.or_eq_false_iff, List.length_cons, List.length_nil] at h) <;> (try (exfalso; first | omega | exact h rfl | (cases h; done) | exact absurd h (by assumption) | exact h (by assumption) | (simp at h; done)))) | refine ⟨⟨by (first | omega | (simp only [lenS]; omega)), by (first | omega | (simp only [lenS]; omega))⟩, _, by assumption, by rfl, ?_⟩ | refine .inl ⟨⟨by (first | omega | (simp only [lenS]; omega)), by (first | omega | (simp only [lenS]; omega))⟩, ?_⟩ | refine ⟨⟨by (first | omega | (simp only [lenS]; omega)), by (first | omega | (simp only [lenS]; omega))⟩, ?_⟩ | refine ⟨⟨by (first | omega | (simp only [lenS]; omega)), by (first | omega | (simp only [lenS]; omega)), by (first | omega | (simp only [lenS]; omega))⟩, ?_⟩ | refine ⟨.inl rfl, ?_⟩ | refine ⟨.inr (.inl (by (first | omega | (simp only [lenS]; omega)))), ?_⟩ | refine ⟨_, rfl, rfl, by (first | exact Nat.le_refl _ | exact Nat.le_of_ble_eq_true rfl | decide), ?_⟩ | refine ⟨_, rfl, by (first | exact Nat.le_refl _ | exact Nat.le_of_ble_eq_true rfl | decide), ?_⟩ | refine ⟨by (first | exact Nat.le_refl _ | exact Nat.le_of_ble_eq_true rfl | decide | exact rfl), ?_⟩ | refine ⟨show _ ≤ (9223372036854775807 : Nat) by (first | omega | (simp only [lenS]; omega)), ?_⟩ | refine ⟨show _ ≠ (0 : Int) by (first | omega | (simp only [lenS]; omega)), ?_⟩ | refine ⟨_, rfl, _, rfl, ?_⟩ | refine ⟨_, by assumption, Nat.le_of_ble_eq_true rfl, ?_⟩ | refine ⟨_, by assumption, _, rfl, ?_⟩ | refine ⟨_, rfl, ?_⟩ | fail)
      refine drawnT Try.wf Try.tab_ok Try.mixed (by decide +kernel) ?_
      repeat' (first |       refine qskip rfl rfl ?_ | refine qstep (r := .d (.bool true)) rfl rfl (fin_eq (congrArg (fun b => AV.d (.bool b)) (decide_eq_true (by omega)))) ?_ | refine qstep (r := .d (.bool false)) rfl rfl (fin_eq (congrArg (fun b => AV.d (.bool b)) (decide_eq_false (by omega)))) ?_ | refine qstep rfl rfl ⟨fun _ => FinMove.refl _ _ _, fun h => absurd h (by decide)⟩ ?_ | refine qstep rfl rfl ⟨fun h => absurd h (by decide), fun _ => FinMove.refl _ _ _⟩ ?_ | refine qstep rfl rfl (FinMove.refl _ _ _) ?_ |     refine qstep rfl rfl (PureC.use hc1 (FinMove.refl _ _ _)) ?_ |        refine qstep rfl rfl ⟨⟨by (first | omega | (simp only [lenS]; omega)), by (first | omega | (simp only [lenS]; omega))⟩, _, by assumption, by rfl, FinMove.refl _ _ _⟩ ?_ | refine qstep rfl rfl (.inl ⟨⟨by (first | omega | (simp only [lenS]; omega)), by (first | omega | (simp only [lenS]; omega))⟩, FinMove.refl _ _ _⟩) ?_ | refine qstep rfl rfl ⟨⟨by (first | omega | (simp only [lenS]; omega)), by (first | omega | (simp only [lenS]; omega))⟩, FinMove.refl _ _ _⟩ ?_ | refine qstep rfl rfl ⟨⟨by (first | omega | (simp only [lenS]; omega)), by (first | omega | (simp only [lenS]; omega)), by (first | omega | (simp only [lenS]; omega))⟩, FinMove.refl _ _ _⟩ ?_ | refine qstep rfl rfl ⟨⟨by (first | omega | (simp only [lenS]; omega)), by (first | omega | (simp only [lenS]; omega)), by (first | omega | (simp only [lenS]; omega))⟩, .inl rfl, FinMove.refl _ _ _⟩ ?_ | refine qstep rfl rfl ⟨_, rfl, _, rfl, FinMove.refl _ _ _⟩ ?_ | refine qstep rfl rfl ⟨_, rfl, FinMove.refl _ _ _⟩ ?_ | refine qstep rfl rfl ⟨_, rfl, Nat.le_refl _, FinMove.refl _ _ _⟩ ?_ | refine qstep rfl rfl ⟨Nat.le_refl _, FinMove.refl _ _ _⟩ ?_ | refine qstep rfl rfl ⟨by decide, FinMove.refl _ _ _⟩ ?_ | refine qstep rfl rfl ⟨show _ ≤ (9223372036854775807 : Nat) by (first | omega | (simp only [lenS]; omega)), FinMove.refl _ _ _⟩ ?_ | fail)
      repeat' (first | refine PureC.use hc1 ?_ |                       refine ⟨fun _ => ?_, fun h => absurd h (by decide)⟩ | refine ⟨fun h => absurd h (by decide), fun _ => ?_⟩ | (refine ⟨fun h => ?_, fun h => ?_⟩ <;> (try simp only [decide_eq_true_eq, decide_eq_false_iff_not, Bool.not_eq_true', Bool.not_eq_false', Bool.not_eq_true, Bool.not_eq_false, not_true_eq_false, beq_iff_eq, beq_eq_false_iff_ne, ne_eq, decide_eq_decide, true_iff, false_iff, iff_true, iff_false, true_and, and_true, false_or, or_false, Bool.and_true, Bool.and_eq_true, Bool.and_eq_false_iff, Bool.or_eq_true, Bool.or_eq_false_iff, List.length_cons, List.length_nil] at h) <;> (try (exfalso; first | omega | exact h rfl | (cases h; done) | exact absurd h (by assumption) | exact h (by assumption) | (simp at h; done)))) | refine ⟨⟨by (first | omega | (simp only [lenS]; omega)), by (first | omega | (simp only [lenS]; omega))⟩, _, by assumption, by rfl, ?_⟩ | refine .inl ⟨⟨by (first | omega | (simp only [lenS]; omega)), by (first | omega | (simp only [lenS]; omega))⟩, ?_⟩ | refine ⟨⟨by (first | omega | (simp only [lenS]; omega)), by (first | omega | (simp only [lenS]; omega))⟩, ?_⟩ | refine ⟨⟨by (first | omega | (simp only [lenS]; omega)), by (first | omega | (simp only [lenS]; omega)), by (first | omega | (simp only [lenS]; omega))⟩, ?_⟩ | refine ⟨.inl rfl, ?_⟩ | refine ⟨.inr (.inl (by (first | omega | (simp only [lenS]; omega)))), ?_⟩ | refine ⟨_, rfl, rfl, by (first | exact Nat.le_refl _ | exact Nat.le_of_ble_eq_true rfl | decide), ?_⟩ | refine ⟨_, rfl, by (first | exact Nat.le_refl _ | exact Nat.le_of_ble_eq_true rfl | decide), ?_⟩ | refine ⟨by (first | exact Nat.le_refl _ | exact Nat.le_of_ble_eq_true rfl | decide | exact rfl), ?_⟩ | refine ⟨show _ ≤ (9223372036854775807 : Nat) by (first | omega | (simp only [lenS]; omega)), ?_⟩ | refine ⟨show _ ≠ (0 : Int) by (first | omega | (simp only [lenS]; omega)), ?_⟩ | refine ⟨_, rfl, _, rfl, ?_⟩ | refine ⟨_, by assumption, Nat.le_of_ble_eq_true rfl, ?_⟩ | refine ⟨_, by assumption, _, rfl, ?_⟩ | refine ⟨_, rfl, ?_⟩ | fail)
      exact em
  · have hk1 := runN_done (hdB p) (s.drop n) k hk (fun _ => by omega)
    have em := endm k hk1
    repeat' (first | refine PureC.use hc1 ?_ |                       refine ⟨fun _ => ?_, fun h => absurd h (by decide)⟩ | refine ⟨fun h => absurd h (by decide), fun _ => ?_⟩ | (refine ⟨fun h => ?_, fun h => ?_⟩ <;> (try simp only [decide_eq_true_eq, decide_eq_false_iff_not, Bool.not_eq_true', Bool.not_eq_false', Bool.not_eq_true, Bool.not_eq_false, not_true_eq_false, beq_iff_eq, beq_eq_false_iff_ne, ne_eq, decide_eq_decide, true_iff, false_iff, iff_true, iff_false, true_and, and_true, false_or, or_false, Bool.and_true, Bool.and_eq_true, Bool.and_eq_false_iff, Bool.or_eq_true, Bool.or_eq_false_iff, List.length_cons, List.length_nil] at h) <;> (try (exfalso; first | omega | exact h rfl | (cases h; done) | exact absurd h (by assumption) | exact h (by assumption) | (simp at h; done)))) | refine ⟨⟨by (first | omega | (simp only [lenS]; omega)), by (first | omega | (simp only [lenS]; omega))⟩, _, by assumption, by rfl, ?_⟩ | refine .inl ⟨⟨by (first | omega | (simp only [lenS]; omega)), by (first | omega | (simp only [lenS]; omega))⟩, ?_⟩ | refine ⟨⟨by (first | omega | (simp only [lenS]; omega)), by (first | omega | (simp only [lenS]; omega))⟩, ?_⟩ | refine ⟨⟨by (first | omega | (simp only [lenS]; omega)), by (first | omega | (simp only [lenS]; omega)), by (first | omega | (simp only [lenS]; omega))⟩, ?_⟩ | refine ⟨.inl rfl, ?_⟩ | refine ⟨.inr (.inl (by (first | omega | (simp only [lenS]; omega)))), ?_⟩ | refine ⟨_, rfl, rfl, by (first | exact Nat.le_refl _ | exact Nat.le_of_ble_eq_true rfl | decide), ?_⟩ | refine ⟨_, rfl, by (first | exact Nat.le_refl _ | exact Nat.le_of_ble_eq_true rfl | decide), ?_⟩ | refine ⟨by (first | exact Nat.le_refl _ | exact Nat.le_of_ble_eq_true rfl | decide | exact rfl), ?_⟩ | refine ⟨show _ ≤ (9223372036854775807 : Nat) by (first | omega | (simp only [lenS]; omega)), ?_⟩ | refine ⟨show _ ≠ (0 : Int) by (first | omega | (simp only [lenS]; omega)), ?_⟩ | refine ⟨_, rfl, _, rfl, ?_⟩ | refine ⟨_, by assumption, Nat.le_of_ble_eq_true rfl, ?_⟩ | refine ⟨_, by assumption, _, rfl, ?_⟩ | refine ⟨_, rfl, ?_⟩ | fail)
    refine drawnT Try.wf Try.tab_ok Try.mixed (by decide +kernel) ?_
    repeat' (first |       refine qskip rfl rfl ?_ | refine qstep (r := .d (.bool true)) rfl rfl (fin_eq (congrArg (fun b => AV.d (.bool b)) (decide_eq_true (by omega)))) ?_ | refine qstep (r := .d (.bool false)) rfl rfl (fin_eq (congrArg (fun b => AV.d (.bool b)) (decide_eq_false (by omega)))) ?_ | refine qstep rfl rfl ⟨fun _ => FinMove.refl _ _ _, fun h => absurd h (by decide)⟩ ?_ | refine qstep rfl rfl ⟨fun h => absurd h (by decide), fun _ => FinMove.refl _ _ _⟩ ?_ | refine qstep rfl rfl (FinMove.refl _ _ _) ?_ |     refine qstep rfl rfl (PureC.use hc1 (FinMove.refl _ _ _)) ?_ |        refine qstep rfl rfl ⟨⟨by (first | omega | (simp only [lenS]; omega)), by (first | omega | (simp only [lenS]; omega))⟩, _, by assumption, by rfl, FinMove.refl _ _ _⟩ ?_ | refine qstep rfl rfl (.inl ⟨⟨by (first | omega | (simp only [lenS]; omega)), by (first | omega | (simp only [lenS]; omega))⟩, FinMove.refl _ _ _⟩) ?_ | refine qstep rfl rfl ⟨⟨by (first | omega | (simp only [lenS]; omega)), by (first | omega | (simp only [lenS]; omega))⟩, FinMove.refl _ _ _⟩ ?_ | refine qstep rfl rfl ⟨⟨by (first | omega | (simp only [lenS]; omega)), by (first | omega | (simp only [lenS]; omega)), by (first | omega | (simp only [lenS]; omega))⟩, FinMove.refl _ _ _⟩ ?_ | refine qstep rfl rfl ⟨⟨by (first | omega | (simp only [lenS]; omega)), by (first | omega | (simp only [lenS]; omega)), by (first | omega | (simp only [lenS]; omega))⟩, .inl rfl, FinMove.refl _ _ _⟩ ?_ | refine qstep rfl rfl ⟨_, rfl, _, rfl, FinMove.refl _ _ _⟩ ?_ | refine qstep rfl rfl ⟨_, rfl, FinMove.refl _ _ _⟩ ?_ | refine qstep rfl rfl ⟨_, rfl, Nat.le_refl _, FinMove.refl _ _ _⟩ ?_ | refine qstep rfl rfl ⟨Nat.le_refl _, FinMove.refl _ _ _⟩ ?_ | refine qstep rfl rfl ⟨by decide, FinMove.refl _ _ _⟩ ?_ | refine qstep rfl rfl ⟨show _ ≤ (9223372036854775807 : Nat) by (first | omega | (simp only [lenS]; omega)), FinMove.refl _ _ _⟩ ?_ | fail)
    repeat' (first | refine PureC.use hc1 ?_ |                       refine ⟨fun _ => ?_, fun h => absurd h (by decide)⟩ | refine ⟨fun h => absurd h (by decide), fun _ => ?_⟩ | (refine ⟨fun h => ?_, fun h => ?_⟩ <;> (try simp only [decide_eq_true_eq, decide_eq_false_iff_not, Bool.not_eq_true', Bool.not_eq_false', Bool.not_eq_true, Bool.not_eq_false, not_true_eq_false, beq_iff_eq, beq_eq_false_iff_ne, ne_eq, decide_eq_decide, true_iff, false_iff, iff_true, iff_false, true_and, and_true, false_or, or_false, Bool.and_true, Bool.and_eq_true, Bool.and_eq_false_iff, Bool.or_eq_true, Bool.or_eq_false_iff, List.length_cons, List.length_nil] at h) <;> (try (exfalso; first | omega | exact h rfl | (cases h; done) | exact absurd h (by assumption) | exact h (by assumption) | (simp at h; done)))) | refine ⟨⟨by (first | omega | (simp only [lenS]; omega)), by (first | omega | (simp only [lenS]; omega))⟩, _, by assumption, by rfl, ?_⟩ | refine .inl ⟨⟨by (first | omega | (simp only [lenS]; omega)), by (first | omega | (simp only [lenS]; omega))⟩, ?_⟩ | refine ⟨⟨by (first | omega | (simp only [lenS]; omega)), by (first | omega | (simp only [lenS]; omega))⟩, ?_⟩ | refine ⟨⟨by (first | omega | (simp only [lenS]; omega)), by (first | omega | (simp only [lenS]; omega)), by (first | omega | (simp only [lenS]; omega))⟩, ?_⟩ | refine ⟨.inl rfl, ?_⟩ | refine ⟨.inr (.inl (by (first | omega | (simp only [lenS]; omega)))), ?_⟩ | refine ⟨_, rfl, rfl, by (first | exact Nat.le_refl _ | exact Nat.le_of_ble_eq_true rfl | decide), ?_⟩ | refine ⟨_, rfl, by (first | exact Nat.le_refl _ | exact Nat.le_of_ble_eq_true rfl | decide), ?_⟩ | refine ⟨by (first | exact Nat.le_refl _ | exact Nat.le_of_ble_eq_true rfl | decide | exact rfl), ?_⟩ | refine ⟨show _ ≤ (9223372036854775807 : Nat) by (first | omega | (simp only [lenS]; omega)), ?_⟩ | refine ⟨show _ ≠ (0 : Int) by (first | omega | (simp only [lenS]; omega)), ?_⟩ | refine ⟨_, rfl, _, rfl, ?_⟩ | refine ⟨_, by assumption, Nat.le_of_ble_eq_true rfl, ?_⟩ | refine ⟨_, by assumption, _, rfl, ?_⟩ | refine ⟨_, rfl, ?_⟩ | fail)
    refine drawnT Try.wf Try.tab_ok Try.mixed (by decide +kernel) ?_
    repeat' (first |       refine qskip rfl rfl ?_ | refine qstep (r := .d (.bool true)) rfl rfl (fin_eq (congrArg (fun b => AV.d (.bool b)) (decide_eq_true (by omega)))) ?_ | refine qstep (r := .d (.bool false)) rfl rfl (fin_eq (congrArg (fun b => AV.d (.bool b)) (decide_eq_false (by omega)))) ?_ | refine qstep rfl rfl ⟨fun _ => FinMove.refl _ _ _, fun h => absurd h (by decide)⟩ ?_ | refine qstep rfl rfl ⟨fun h => absurd h (by decide), fun _ => FinMove.refl _ _ _⟩ ?_ | refine qstep rfl rfl (FinMove.refl _ _ _) ?_ |     refine qstep rfl rfl (PureC.use hc1 (FinMove.refl _ _ _)) ?_ |        refine qstep rfl rfl ⟨⟨by (first | omega | (simp only [lenS]; omega)), by (first | omega | (simp only [lenS]; omega))⟩, _, by assumption, by rfl, FinMove.refl _ _ _⟩ ?_ | refine qstep rfl rfl (.inl ⟨⟨by (first | omega | (simp only [lenS]; omega)), by (first | omega | (simp only [lenS]; omega))⟩, FinMove.refl _ _ _⟩) ?_ | refine qstep rfl rfl ⟨⟨by (first | omega | (simp only [lenS]; omega)), by (first | omega | (simp only [lenS]; omega))⟩, FinMove.refl _ _ _⟩ ?_ | refine qstep rfl rfl ⟨⟨by (first | omega | (simp only [lenS]; omega)), by (first | omega | (simp only [lenS]; omega)), by (first | omega | (simp only [lenS]; omega))⟩, FinMove.refl _ _ _⟩ ?_ | refine qstep rfl rfl ⟨⟨by (first | omega | (simp only [lenS]; omega)), by (first | omega | (simp only [lenS]; omega)), by (first | omega | (simp only [lenS]; omega))⟩, .inl rfl, FinMove.refl _ _ _⟩ ?_ | refine qstep rfl rfl ⟨_, rfl, _, rfl, FinMove.refl _ _ _⟩ ?_ | refine qstep rfl rfl ⟨_, rfl, FinMove.refl _ _ _⟩ ?_ | refine qstep rfl rfl ⟨_, rfl, Nat.le_refl _, FinMove.refl _ _ _⟩ ?_ | refine qstep rfl rfl ⟨Nat.le_refl _, FinMove.refl _ _ _⟩ ?_ | refine qstep rfl rfl ⟨by decide, FinMove.refl _ _ _⟩ ?_ | refine qstep rfl rfl ⟨show _ ≤ (9223372036854775807 : Nat) by (first | omega | (simp only [lenS]; omega)), FinMove.refl _ _ _⟩ ?_ | fail)
    repeat' (first | refine PureC.use hc1 ?_ |                       refine ⟨fun _ => ?_, fun h => absurd h (by decide)⟩ | refine ⟨fun h => absurd h (by decide), fun _ => ?_⟩ | (refine ⟨fun h => ?_, fun h => ?_⟩ <;> (try simp only [decide_eq_true_eq, decide_eq_false_iff_not, Bool.not_eq_true', Bool.not_eq_false', Bool.not_eq_true, Bool.not_eq_false, not_true_eq_false, beq_iff_eq, beq_eq_false_iff_ne, ne_eq, decide_eq_decide, true_iff, false_iff, iff_true, iff_false, true_and, and_true, false_or, or_false, Bool.and_true, Bool.and_eq_true, Bool.and_eq_false_iff, Bool.or_eq_true, Bool.or_eq_false_iff, List.length_cons, List.length_nil] at h) <;> (try (exfalso; first | omega | exact h rfl | (cases h; done) | exact absurd h (by assumption) | exact h (by assumption) | (simp at h; done)))) | refine ⟨⟨by (first | omega | (simp only [lenS]; omega)), by (first | omega | (simp only [lenS]; omega))⟩, _, by assumption, by rfl, ?_⟩ | refine .inl ⟨⟨by (first | omega | (simp only [lenS]; omega)), by (first | omega | (simp only [lenS]; omega))⟩, ?_⟩ | refine ⟨⟨by (first | omega | (simp only [lenS]; omega)), by (first | omega | (simp only [lenS]; omega))⟩, ?_⟩ | refine ⟨⟨by (first | omega | (simp only [lenS]; omega)), by (first | omega | (simp only [lenS]; omega)), by (first | omega | (simp only [lenS]; omega))⟩, ?_⟩ | refine ⟨.inl rfl, ?_⟩ | refine ⟨.inr (.inl (by (first | omega | (simp only [lenS]; omega)))), ?_⟩ | refine ⟨_, rfl, rfl, by (first | exact Nat.le_refl _ | exact Nat.le_of_ble_eq_true rfl | decide), ?_⟩ | refine ⟨_, rfl, by (first | exact Nat.le_refl _ | exact Nat.le_of_ble_eq_true rfl | decide), ?_⟩ | refine ⟨by (first | exact Nat.le_refl _ | exact Nat.le_of_ble_eq_true rfl | decide | exact rfl), ?_⟩ | refine ⟨show _ ≤ (9223372036854775807 : Nat) by (first | omega | (simp only [lenS]; omega)), ?_⟩ | refine ⟨show _ ≠ (0 : Int) by (first | omega | (simp only [lenS]; omega)), ?_⟩ | refine ⟨_, rfl, _, rfl, ?_⟩ | refine ⟨_, by assumption, Nat.le_of_ble_eq_true rfl, ?_⟩ | refine ⟨_, by assumption, _, rfl, ?_⟩ | refine ⟨_, rfl, ?_⟩ | fail)
    exact em
end Go.Proofs.Ytcmkiancbgmmhaa
