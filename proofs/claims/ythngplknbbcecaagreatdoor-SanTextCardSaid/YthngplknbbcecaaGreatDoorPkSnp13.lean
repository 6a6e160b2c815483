/- What is proved here serves the claim: the walk over the code and the plain laws, part 13 of 18. -/
import Derived.Test.YthngplknbbcecaaGreatDoorPkSnp12
import Derived.Lib.MakeNoZero
namespace Go.Proofs.YthngplknbbcecaaGreatDoor
open Go.RowKit Go.Aw
set_option maxHeartbeats 2000000 in
set_option maxRecDepth 1000000 in
theorem grow_row (b n : Nat) (w : World) (hbk : w.heap[b]? = some (.cells #[.pointer (some ⟨b, 0, none⟩), .slice none 0 0] 75 (0, 0))) (hn : n ≤ 281474976710656) :
  Calls Tryz.prog 197 #[.pointer (some ⟨b, 0, none⟩), .int .i64 n] w fun e w' => e = .returned (.tuple #[]) ∧ ∃ cs : Array Value, w' = ((w.setCell ⟨b, 1, none⟩ (.slice (some ⟨w.heap.size, 0, none⟩) 0 cs.size)).alloc (.cells cs 5)).drew.drew.drew := by
 have tb : Tryz.prog.underlying 25 = some (.slice 5) := by kernel_rfl
 obtain ⟨cs, hrun, hle, hmax⟩ := Lib.run_makeNoZero (P := Tryz.prog) w.drew #[3] 25 5 tb n hn
 have hw : IntKind.i64.wrap (IntKind.i64.wrap 0 + (n : Int)) = n := by
  rw [IntKind.wrap_i64, IntKind.wrap_i64]
  omega
 have hcall : (callFunc 207 #[.int .i64 (IntKind.i64.wrap (IntKind.i64.wrap 0 + (n : Int)))]).run Tryz.prog w.drew = .ok (.value (.slice (some ⟨w.drew.heap.size, 0, none⟩) n cs.size)) (w.drew.drew.drew.alloc (.cells cs 5)) := by
  rw [hw, run_callFunc_extern Tryz.func207 (by kernel_rfl) (by kernel_rfl) (by kernel_rfl) (e := Extern.BytealgMakeNoZero.makeNoZero #[3] #[25]) (by kernel_rfl), hrun]
  rfl
 have hlt : b < w.heap.size := by
  rcases Nat.lt_or_ge b w.heap.size with h' | h'
  ·exact h'
  ·simp [Array.getElem?_eq_none h'] at hbk
 have c1 : w.drew.cell? ⟨b, 1, none⟩ = some (.slice none 0 0) := by
  have : w.drew.heap[b]? = _ := hbk
  rw [Lib.cell_of_heap this]; rfl
 have c2 : (w.alloc (.cells cs 5)).cell? ⟨b, 1, none⟩ = some (.slice none 0 0) := by
  have : (w.alloc (.cells cs 5)).heap[b]? = _ := (Lib.alloc_old w _ b hlt).trans hbk
  rw [Lib.cell_of_heap this]; rfl
 have f2 : (w.alloc (.cells cs 5)).frozen? ⟨b, 1, none⟩ = false := Lib.frozen_of_heap ((Lib.alloc_old w _ b hlt).trans hbk) 1
 have hcopy : ∀ W : World, (Builtin.copy_ #[25, 25] 3 #[.slice (some ⟨w.heap.size, 0, none⟩) 0 cs.size, .slice none 0 0]).run Tryz.prog W = .ok (goInt 0) W :=
  fun W => run_copy_none W 25 25 3 5 _ _ 0 cs.size 0 0 tb (by kernel_rfl) rfl
 clear hw
 have mixed : Tryz.prog.follows .mixedOrders = true := by kernel_rfl
 go_enter Tryz.func197, Tryz.ntmps197
 go_wp2
 go_region_o
 all_goals (go_wp2; go_end0; exact ⟨rfl, cs, rfl⟩)
set_option maxHeartbeats 2000000 in
set_option maxRecDepth 1000000 in
theorem Grow_self (b n : Nat) (w : World) (hbk : w.heap[b]? = some (.cells #[.pointer (some ⟨b, 0, none⟩), .slice none 0 0] 75 (0, 0))) (hn : n ≤ 281474976710656) (h1 : 1 ≤ n) :
  Calls Tryz.prog 192 #[.pointer (some ⟨b, 0, none⟩), .int .i64 n] w fun e w' => e = .returned (.tuple #[]) ∧ ∃ cs : Array Value, w' = ((w.setCell ⟨b, 1, none⟩ (.slice (some ⟨w.heap.size, 0, none⟩) 0 cs.size)).alloc (.cells cs 5)).drew.drew.drew.drew := by
 have c1' : w.drew.cell? ⟨b, 1, none⟩ = some (.slice none 0 0) := by
  have : w.drew.heap[b]? = _ := hbk
  rw [Lib.cell_of_heap this]; rfl
 have mixed : Tryz.prog.follows .mixedOrders = true := by kernel_rfl
 have hpos : (0 : Int) < n := by omega
 go_enter Tryz.func192, Tryz.ntmps192
 go_wp2_with fail
 refine (copyCheck_used b w (by rw [Lib.cell_of_heap hbk]; rfl)).mono ?_
 rintro e w' ⟨rfl, rfl⟩
 go_wp2
 go_region_o
 all_goals go_wp2_with fail
 all_goals (refine (grow_row b n w'.drew hbk hn).mono ?_; rintro e w' ⟨rfl, cs, rfl⟩)
 all_goals go_wp2
 all_goals (go_end0; exact ⟨rfl, cs, rfl⟩)
set_option maxHeartbeats 2000000 in
set_option maxRecDepth 1000000 in
theorem Grow_fresh (b n : Nat) (w : World) (hbk : w.heap[b]? = some (.cells #[.pointer none, .slice none 0 0] 75 (0, 0))) (hn : n ≤ 281474976710656) (h1 : 1 ≤ n) :
  Calls Tryz.prog 192 #[.pointer (some ⟨b, 0, none⟩), .int .i64 n] w fun e w' => e = .returned (.tuple #[]) ∧ ∃ cs : Array Value, w' = (((w.setCell ⟨b, 0, none⟩ (.pointer (some ⟨b, 0, none⟩))).setCell ⟨b, 1, none⟩ (.slice (some ⟨w.heap.size, 0, none⟩) 0 cs.size)).alloc (.cells cs 5)).drew.drew.drew.drew := by
 have hbk1 : (w.setCell ⟨b, 0, none⟩ (.pointer (some ⟨b, 0, none⟩))).heap[b]? = some (.cells #[.pointer (some ⟨b, 0, none⟩), .slice none 0 0] 75 (0, 0)) := by
  simp [World.setCell, Array.getElem?_modify, hbk]
 have hsz : (w.setCell ⟨b, 0, none⟩ (.pointer (some ⟨b, 0, none⟩))).heap.size = w.heap.size := by simp [World.setCell]
 have c1' : (w.setCell ⟨b, 0, none⟩ (.pointer (some ⟨b, 0, none⟩))).drew.cell? ⟨b, 1, none⟩ = some (.slice none 0 0) := by
  have : (w.setCell ⟨b, 0, none⟩ (.pointer (some ⟨b, 0, none⟩))).drew.heap[b]? = _ := hbk1
  rw [Lib.cell_of_heap this]; rfl
 have mixed : Tryz.prog.follows .mixedOrders = true := by kernel_rfl
 have hpos : (0 : Int) < n := by omega
 go_enter Tryz.func192, Tryz.ntmps192
 go_wp2_with fail
 refine (copyCheck_fresh b w (by rw [Lib.cell_of_heap hbk]; rfl) (by simp [World.shape?, hbk]) (Lib.frozen_of_heap hbk 0)).mono ?_
 rintro e w' ⟨rfl, rfl⟩
 go_wp2
 go_region_o
 all_goals go_wp2_with fail
 all_goals (refine (grow_row b n (w.setCell ⟨b, 0, none⟩ (.pointer (some ⟨b, 0, none⟩))).drew hbk1 hn).mono ?_; rintro e w' ⟨rfl, cs, rfl⟩)
 all_goals go_wp2
 all_goals (go_end0; exact ⟨rfl, cs, by rw [← hsz]⟩)
theorem grown_heap (b m : Nat) (p v : Value) (cs : Array Value) (w : World) (e : TypeId) (hbk : w.heap[b]? = some (.cells #[p, .slice none 0 0] 75 (0, 0))) (hm : m = w.heap.size) :
  (∀ x, ((w.setCell ⟨b, 1, none⟩ v).alloc (.cells cs e)).heap[x]? = if x = b then some (.cells #[p, v] 75 (0, 0)) else if x = m then some (.cells cs e (0, 0)) else w.heap[x]?) ∧ ((w.setCell ⟨b, 1, none⟩ v).alloc (.cells cs e)).heap.size = m + 1 := by
 have hlt : b < w.heap.size := by
  rcases Nat.lt_or_ge b w.heap.size with h' | h'
  ·exact h'
  ·simp [Array.getElem?_eq_none h'] at hbk
 have h1 := heap_setCells b [v] 1 w #[p, .slice none 0 0] _ _ hbk (by simp)
 have h2 : ∀ x, x ≠ b → (w.setCells b 1 [v]).heap[x]? = w.heap[x]? := fun x hx => heap_setCells_ne b hx [v] 1 w
 have h3 := (setCells_same b [v] 1 w).1
 subst hm
 refine ⟨fun x => ?_, ?_⟩
 ·show ((w.setCells b 1 [v]).heap.push (.cells cs e (0, 0)))[x]? = _
  rw [Array.getElem?_push, h3]
  by_cases hx : x = b
  ·subst hx
   rw [if_neg (by omega), if_pos rfl, h1]; simp
  ·rw [if_neg hx, h2 x hx]
 ·show ((w.setCells b 1 [v]).heap.push (.cells cs e (0, 0))).size = _
  rw [Array.size_push, h3]
theorem Grow_ok (n : Nat) (hn : n ≤ 281474976710656) (h1 : 1 ≤ n) : CallsAbs Tryz.prog 192 [.ref 0 0 0, .d (.int .i64 n)] ⟨1, [(0, .bld 75 5 [])]⟩ fun r σ' => r = .tup [] ∧ σ' = grownS 75 5 := by
 refine Grow_abs ⟨_, Tryz.func192, by decide +kernel, rfl⟩ n fun b p w hp hw => ?_
 rcases hp with rfl | rfl
 ·refine (Grow_fresh b n w hw hn h1).mono fun e w' ⟨he, cs, hw'⟩ => ⟨he, cs, ?_⟩
  subst hw'
  have hbk1 : (w.setCell ⟨b, 0, none⟩ (.pointer (some ⟨b, 0, none⟩))).heap[b]? = some (.cells #[.pointer (some ⟨b, 0, none⟩), .slice none 0 0] 75 (0, 0)) := by
   simp [World.setCell, Array.getElem?_modify, hw]
  have hsz : (w.setCell ⟨b, 0, none⟩ (.pointer (some ⟨b, 0, none⟩))).heap.size = w.heap.size := by simp [World.setCell]
  obtain ⟨q1, q2⟩ := grown_heap b w.heap.size _ (.slice (some ⟨w.heap.size, 0, none⟩) 0 cs.size) cs _ 5 hbk1 hsz.symm
  refine ⟨fun x => ?_, q2, rfl, rfl, rfl⟩
  refine (q1 x).trans ?_
  by_cases hx : x = b
  ·rw [if_pos hx, if_pos hx]
  ·rw [if_neg hx, if_neg hx]
   by_cases hx2 : x = w.heap.size
   ·rw [if_pos hx2, if_pos hx2]
   ·rw [if_neg hx2, if_neg hx2]
    exact heap_setCells_ne b hx [.pointer (some ⟨b, 0, none⟩)] 0 w
 ·refine (Grow_self b n w hw hn h1).mono fun e w' ⟨he, cs, hw'⟩ => ⟨he, cs, ?_⟩
  subst hw'
  obtain ⟨q1, q2⟩ := grown_heap b w.heap.size _ (.slice (some ⟨w.heap.size, 0, none⟩) 0 cs.size) cs _ 5 hw rfl
  exact ⟨q1, q2, rfl, rfl, rfl⟩
end Go.Proofs.YthngplknbbcecaaGreatDoor
namespace Go.Proofs.YthngplknbbcecaaGreatDoor
open Go.Aw
set_option maxHeartbeats 1600000
set_option linter.unusedSimpArgs false
set_option linter.unusedVariables false
def lowB (c : UInt8) : UInt8 := if 65 ≤ c.toNat ∧ c.toNat ≤ 90 then c + 32 else c
def lower (s : List UInt8) : List UInt8 := s.map lowB
theorem lower_step (s : List UInt8) (k : Nat) (h : k < s.length) : lower (s.take (k + 1)) ++ s.drop (k + 1) = (lower (s.take k) ++ s.drop k).set k (lowB s[k]) := by
 have hl : (lower (s.take k)).length = k := by simp [lower]; omega
 rw [List.set_append_right _ _ (by omega), hl, Nat.sub_self]
 simp only [lower]
 rw [List.take_succ_eq_append_getElem h]
 have : (s.drop k).set 0 (lowB s[k]) = lowB s[k] :: s.drop (k + 1) := by rw [List.drop_eq_getElem_cons h]; rfl
 rw [this, List.map_append, List.append_assoc]; rfl
theorem bytesA_get (s : List UInt8) (i : Nat) (h : i < s.length) : (bytesA s)[i]? = some [.d (.int .u8 s[i].toNat)] := by simp [bytesA, h]
theorem bytesA_set (s : List UInt8) (i : Nat) (b : UInt8) : (bytesA s).set i [.d (.int .u8 b.toNat)] = bytesA (s.set i b) := by
 unfold bytesA
 exact (List.map_set (f := fun b : UInt8 => [AV.d (.int .u8 b.toNat)])).symm
theorem lowB_lo (c : UInt8) (h : ¬ (65 ≤ c.toNat ∧ c.toNat ≤ 90)) : lowB c = c := if_neg h
theorem lowB_hi (c : UInt8) (h : 65 ≤ c.toNat ∧ c.toNat ≤ 90) : ((lowB c).toNat : Int) = c.toNat + 97 - 65 := by
 unfold lowB
 rw [if_pos h, UInt8.toNat_add]
 have : (32 : UInt8).toNat = 32 := rfl
 rw [this, Nat.mod_eq_of_lt (by omega)]
 omega
theorem upd (s : List UInt8) (k : Nat) (hlt : k < s.length) (v : Int) (hv : v = ((lowB s[k]).toNat : Int)) :
  (bytesA (lower (s.take k) ++ s.drop k)).set k [.d (.int .u8 v)] = bytesA (lower (s.take (k + 1)) ++ s.drop (k + 1)) := by
 subst hv
 rw [bytesA_set, lower_step s k hlt]
theorem same (s : List UInt8) (k : Nat) (hlt : k < s.length) (hn : ¬ (65 ≤ s[k].toNat ∧ s[k].toNat ≤ 90)) : bytesA (lower (s.take (k + 1)) ++ s.drop (k + 1)) = bytesA (lower (s.take k) ++ s.drop k) := by
 have hl : (lower (s.take k)).length = k := by simp [lower]; omega
 rw [lower_step s k hlt, lowB_lo _ hn, List.set_append_right _ _ (by omega), hl, Nat.sub_self, List.drop_eq_getElem_cons hlt]; rfl
theorem at_k (s : List UInt8) (k : Nat) (hlt : k < s.length) : (bytesA (lower (s.take k) ++ s.drop k))[k]? = some [.d (.int .u8 s[k].toNat)] := by
 have hl : (lower (s.take k)).length = k := by simp [lower]; omega
 rw [bytesA_get _ _ (by simp [hl]; omega)]; simp [List.getElem_append_right, hl]
theorem at_end (s : List UInt8) : (((bytesA (lower (s.take s.length) ++ s.drop s.length)).drop 0).take s.length) = bytesA (lower s) := by
 simp only [List.take_length, List.drop_length, List.append_nil, List.drop_zero]
 exact List.take_of_length_le (by simp [bytesA, lower])
set_option maxRecDepth 10000 in
theorem Lower_ok (s : List UInt8) (hs : s.length ≤ 9223372036854775807) : PureC Tryz.prog 150 [.d (.str s)] (.d (.str (lower s))) := by
 refine pure_okT Tryz.wf Tryz.tab_ok Tryz.func150 (by decide +kernel) rfl rfl rfl rfl ?_
 refine ⟨hs, ?_⟩
 refine loopT Tryz.wf Tryz.tab_ok (fun n s' σ => ∃ k : Nat, k ≤ s.length ∧ n = s.length - k ∧ s' = [(3, .own 0 0 s.length), (8, .own 0 0 s.length), (9, .d (.int .i64 s.length)), (10, .d (.int .i64 k))] ∧ σ = ⟨1, [(0, .rows (1, 5) (bytesA (lower (s.take k) ++ s.drop k)))]⟩)
  ⟨0, Nat.zero_le _, rfl, rfl, rfl⟩ (Mv.of [.old 0] rfl rfl rfl ⟨⟨rfl, .inl ⟨rfl, bytesA_pure _⟩⟩, trivial⟩ ⟨⟨rfl, rfl, rfl⟩, ⟨rfl, rfl, rfl⟩, rfl, rfl, trivial⟩) ?_
 rintro n _ _ ⟨k, hk, rfl, rfl, rfl⟩
 refine ⟨fun h => ?_, fun h => ?_⟩
 ·have hlt : k < s.length := by have := of_decide_eq_true h; omega
  have hu := s[k].toNat_lt
  have stay : ¬ (65 ≤ s[k].toNat ∧ s[k].toNat ≤ 90) → (Ob.rows (1, 5) (bytesA (lower (s.take (k + 1)) ++ s.drop (k + 1)))) = Ob.rows (1, 5) (bytesA (lower (s.take k) ++ s.drop k)) := fun hn => by rw [same s k hlt hn]
  refine ⟨⟨by omega, by omega⟩, _, at_k s k hlt, _, rfl, ?_⟩
  refine ⟨fun h1 => ?_, fun h1 => ?_⟩
  ·have h1' := of_decide_eq_true h1
   refine ⟨fun h2 => ?_, fun h2 => ?_⟩
   ·have h2' := of_decide_eq_true h2
    refine .inl ⟨⟨by omega, by omega⟩, .inl ⟨⟨by omega, by omega⟩, ⟨by omega, by omega⟩, _, at_k s k hlt, rfl, Nat.le_refl _, .inl ⟨⟨by omega, by omega⟩, ?_⟩⟩⟩
    exact ⟨_, _, _, ⟨k + 1, hlt, rfl, rfl, rfl⟩, by omega, Mv.of [.old 0] rfl rfl rfl ⟨⟨rfl, .inl ⟨(upd s k hlt _ (lowB_hi _ ⟨by omega, by omega⟩).symm).symm, bytesA_pure _⟩⟩, trivial⟩ ⟨⟨rfl, rfl, rfl⟩, ⟨rfl, rfl, rfl⟩, rfl, rfl, trivial⟩⟩
   ·have h2' := of_decide_eq_false h2
    refine .inl ⟨⟨by omega, by omega⟩, ?_⟩
    exact ⟨_, _, _, ⟨k + 1, hlt, rfl, rfl, rfl⟩, by omega, Mv.of [.old 0] rfl rfl rfl ⟨⟨rfl, .inl ⟨same s k hlt (by omega), bytesA_pure _⟩⟩, trivial⟩ ⟨⟨rfl, rfl, rfl⟩, ⟨rfl, rfl, rfl⟩, rfl, rfl, trivial⟩⟩
  ·have h1' := of_decide_eq_false h1
   refine .inl ⟨⟨by omega, by omega⟩, ?_⟩
   exact ⟨_, _, _, ⟨k + 1, hlt, rfl, rfl, rfl⟩, by omega, Mv.of [.old 0] rfl rfl rfl ⟨⟨rfl, .inl ⟨same s k hlt (by omega), bytesA_pure _⟩⟩, trivial⟩ ⟨⟨rfl, rfl, rfl⟩, ⟨rfl, rfl, rfl⟩, rfl, rfl, trivial⟩⟩
 ·have hk' : k = s.length := by have := of_decide_eq_false h; omega
  subst hk'
  exact ⟨_, at_end s, by simp [lower], _, _, FinMove.refl _ _ _, rfl⟩
def strsD (l : List (List UInt8)) : List (List D) := l.map fun s => [.str s]
theorem strsD_len (l : List (List UInt8)) : (strsD l).length = l.length := by simp [strsD]
theorem strsD_get (l : List (List UInt8)) (k : Nat) (h : k < l.length) : (strsD l)[((k : Nat) : Int).toNat]? = some [.str l[k]] := by simp [strsD, h]
def seek (l : List (List UInt8)) (v : List UInt8) : Int := if v ∈ l then ((l.findIdx fun x => decide (v = x) : Nat) : Int) else -1
set_option maxRecDepth 10000 in
theorem Index_ok (l : List (List UInt8)) (v : List UInt8) (hl : l.length ≤ 4611686018427387903) : PureC Tryz.prog 96 [.d (.sl (strsD l)), .d (.str v)] (.d (.int .i64 (seek l v))) := by
 refine pure_okT Tryz.wf Tryz.tab_ok Tryz.func96 (by decide +kernel) rfl rfl rfl rfl ?_
 have hn := strsD_len l
 refine loopT Tryz.wf Tryz.tab_ok (fun n s' σ => ∃ k : Nat, n = l.length - k ∧ k ≤ l.length ∧ (∀ j (h : j < k) (h2 : j < l.length), l[j] ≠ v) ∧ s' = [(0, .d (.sl (strsD l))), (1, .d (.str v)), (7, .d (.int .i64 l.length)), (8, .d (.int .i64 k))] ∧ σ = ⟨0, []⟩)
  ⟨0, rfl, Nat.zero_le _, fun j h => absurd h (by omega), rfl, rfl⟩ (Mv.of [] rfl rfl rfl trivial ⟨rfl, rfl, congrArg (fun n : Nat => D.int .i64 n) hn.symm, rfl, trivial⟩) ?_
 rintro _ _ _ ⟨k, rfl, hk, hI, rfl, rfl⟩
 refine ⟨fun h => ?_, fun h => ?_⟩
 ·have hlt : k < l.length := by have := of_decide_eq_true h; omega
  refine ⟨⟨by omega, by rw [hn]; omega⟩, _, strsD_get l k hlt, rfl, _, rfl, ⟨fun h1 => ?_, fun h1 => ?_⟩⟩
  ·have h1' := of_decide_eq_true h1
   refine ⟨_, _, FinMove.refl _ _ _, congrArg (fun x : Int => AV.d (.int .i64 x)) ?_⟩
   have hm : v ∈ l := by rw [h1']; exact List.getElem_mem hlt
   have : l.findIdx (fun x => decide (v = x)) = k := by
    rw [List.findIdx_eq hlt]
    exact ⟨by simpa using h1', fun j hj => by have := hI j hj (by omega); simp; exact fun e => this e.symm⟩
   rw [seek, if_pos hm, this]
  ·have h1' := of_decide_eq_false h1
   exact .inl ⟨⟨by omega, by omega⟩, _, _, _, ⟨k + 1, rfl, hlt, fun j hj h2 => by
    by_cases e : j = k
    ·subst e; exact fun e => h1' e.symm
    ·exact hI j (by omega) h2, rfl, rfl⟩, by omega, Mv.of [] rfl rfl rfl trivial ⟨rfl, rfl, rfl, rfl, trivial⟩⟩
 ·have hk' : k = l.length := by have := of_decide_eq_false h; omega
  subst hk'
  refine ⟨_, _, FinMove.refl _ _ _, congrArg (fun x : Int => AV.d (.int .i64 x)) ?_⟩
  rw [seek, if_neg]
  intro hm
  obtain ⟨j, hj, e⟩ := List.mem_iff_getElem.1 hm
  exact hI j hj hj e
set_option maxRecDepth 10000 in
theorem Contains_ok (l : List (List UInt8)) (v : List UInt8) (hl : l.length ≤ 4611686018427387903) : PureC Tryz.prog 50 [.d (.sl (strsD l)), .d (.str v)] (.d (.bool (decide (v ∈ l)))) := by
 refine pure_okT Tryz.wf Tryz.tab_ok Tryz.func50 (by decide +kernel) rfl rfl rfl rfl ?_
 refine PureC.use (Index_ok l v hl) ⟨_, _, FinMove.refl _ _ _, congrArg (fun b => AV.d (.bool b)) ?_⟩
 unfold seek
 by_cases h : v ∈ l
 ·simp [h]
 ·simp [h]
def hasPre (s p : List UInt8) : Bool := decide (p.length ≤ s.length) && decide (s.take p.length = p)
set_option maxRecDepth 10000 in
theorem lHasPrefix_ok (s p : List UInt8) : PureC Tryz.prog 146 [.d (.str s), .d (.str p)] (.d (.bool (hasPre s p))) := by
 refine pure_okT Tryz.wf Tryz.tab_ok Tryz.func146 (by decide +kernel) rfl rfl rfl rfl ?_
 refine ⟨fun h => ?_, fun h => ?_⟩
 ·have h' : p.length ≤ s.length := by have := of_decide_eq_true h; omega
  refine ⟨⟨by omega, by omega, by omega⟩, _, _, FinMove.refl _ _ _, congrArg (fun b => AV.d (.bool b)) ?_⟩
  simp [hasPre, h']
 ·have h' : ¬ p.length ≤ s.length := by have := of_decide_eq_false h; omega
  refine ⟨_, _, FinMove.refl _ _ _, congrArg (fun b => AV.d (.bool b)) ?_⟩
  simp [hasPre, h']
theorem HasPrefix_ok (s p : List UInt8) : PureC Tryz.prog 98 [.d (.str s), .d (.str p)] (.d (.bool (hasPre s p))) := by
 refine pure_okT Tryz.wf Tryz.tab_ok Tryz.func98 (by decide +kernel) rfl rfl rfl rfl ?_
 exact PureC.use (lHasPrefix_ok s p) ⟨_, _, FinMove.refl _ _ _, rfl⟩
theorem IndexByteString_ok (s : List UInt8) (c : UInt8) : PureC Tryz.prog 148 [.d (.str s), .d (.int .u8 c.toNat)] (.d (.int .i64 (idxB c s))) :=
 indexByte_abs Tryz.func148 (by decide +kernel) rfl (by kernel_rfl) (by kernel_rfl) s c
set_option maxRecDepth 10000 in
theorem lIndexByte_ok (s : List UInt8) (c : UInt8) : PureC Tryz.prog 100 [.d (.str s), .d (.int .u8 c.toNat)] (.d (.int .i64 (idxB c s))) := by
 refine pure_okT Tryz.wf Tryz.tab_ok Tryz.func100 (by decide +kernel) rfl rfl rfl rfl ?_
 exact PureC.use (IndexByteString_ok s c) ⟨_, _, FinMove.refl _ _ _, rfl⟩
set_option maxRecDepth 10000 in
theorem IndexByte_ok (s : List UInt8) (c : UInt8) : PureC Tryz.prog 62 [.d (.str s), .d (.int .u8 c.toNat)] (.d (.int .i64 (idxB c s))) := by
 refine pure_okT Tryz.wf Tryz.tab_ok Tryz.func62 (by decide +kernel) rfl rfl rfl rfl ?_
 exact PureC.use (lIndexByte_ok s c) ⟨_, _, FinMove.refl _ _ _, rfl⟩
def cutPre (s p : List UInt8) : AV := if hasPre s p then .tup [.d (.str (s.drop p.length)), .d (.bool true)] else .tup [.d (.str s), .d (.bool false)]
theorem cutPre_pure (s p : List UInt8) : (cutPre s p).pure = true := by unfold cutPre; split <;> rfl
set_option maxRecDepth 10000 in
theorem lCutPrefix_ok (s p : List UInt8) : PureC Tryz.prog 149 [.d (.str s), .d (.str p)] (cutPre s p) := by
 refine pure_okT Tryz.wf Tryz.tab_ok Tryz.func149 (by decide +kernel) rfl rfl rfl (cutPre_pure s p) ?_
 refine PureC.use (lHasPrefix_ok s p) ⟨fun h => ?_, fun h => ?_⟩
 ·have h : hasPre s p = false := by simpa using h
  exact ⟨_, _, FinMove.refl _ _ _, by rw [cutPre, h]; rfl⟩
 ·have h : hasPre s p = true := by simpa using h
  have hl : p.length ≤ s.length := by unfold hasPre at h; simp at h; exact h.1
  exact ⟨⟨by omega, by omega, by omega⟩, _, _, FinMove.refl _ _ _, by rw [cutPre, if_pos h]; exact congrArg (fun x => AV.tup [.d (.str x), .d (.bool true)]) (by simp)⟩
set_option maxRecDepth 10000 in
theorem CutPrefix_ok (s p : List UInt8) : PureC Tryz.prog 101 [.d (.str s), .d (.str p)] (cutPre s p) := by
 have c := lCutPrefix_ok s p
 refine pure_okT Tryz.wf Tryz.tab_ok Tryz.func101 (by decide +kernel) rfl rfl rfl (cutPre_pure s p) ?_
 unfold cutPre at c ⊢
 split at c
 ·rename_i h; rw [if_pos h]; exact PureC.use c ⟨_, _, FinMove.refl _ _ _, rfl⟩
 ·rename_i h; rw [if_neg h]; exact PureC.use c ⟨_, _, FinMove.refl _ _ _, rfl⟩
theorem getD_at (s : List UInt8) (k : Nat) (h : k < s.length) : s.getD ((k : Nat) : Int).toNat 0 = s[k] := by
 rw [Int.toNat_natCast, List.getD_eq_getElem?_getD, List.getElem?_eq_getElem h, Option.getD_some]
theorem _root_.Go.Aw.CallsAbs.use1 {P : Program} {f : FuncId} {args : List AV} {σ σ0 : Store} {r0 : AV} {K : AV → Store → Prop} (h : CallsAbs P f args σ fun r σ' => r = r0 ∧ σ' = σ0) (hK : K r0 σ0) : CallsAbs P f args σ K :=
 h.mono fun r σ' ⟨h1, h2⟩ => by subst h1; subst h2; exact hK
theorem _root_.Go.Aw.CallsAbs.vr {P : Program} {f : FuncId} {args args' : List AV} {σ : Store} {K : AV → Store → Prop} (hv : vrelL (phi 0 []) args' args) (h : CallsAbs P f args' σ K) : CallsAbs P f args σ K := by
 refine h.args fun g w vs R hL => ⟨g, Ext.refl g σ w, R, ?_⟩
 have e : ∀ i, phi 0 [] i = none := fun i => by simp [phi, Nat.ble, nthE]
 have t : Tr (phi 0 []) g g := ⟨fun i k h hk => absurd h (by rw [e]; simp), fun i sz h => absurd h (by rw [e]; simp), fun b h => h⟩
 exact hL.tr t hv
def risesB : List (List UInt8) → Bool
 | a :: b :: r => Op.bytesLess a b && risesB (b :: r)
 | _ => true
theorem risesB_snoc : ∀ (l : List (List UInt8)) (y x : List UInt8), risesB (l ++ [y] ++ [x]) = (risesB (l ++ [y]) && Op.bytesLess y x)
 | [], y, x => by simp [risesB]
 | [a], y, x => by simp [risesB]
 | a :: b :: r, y, x => by
  have ih := risesB_snoc (b :: r) y x
  simp only [List.cons_append, risesB] at ih ⊢
  rw [ih, Bool.and_assoc]
theorem risesB_pre : ∀ (a b : List (List UInt8)), risesB a = false → risesB (a ++ b) = false
 | [], b, h => by simp [risesB] at h
 | [x], b, h => by simp [risesB] at h
 | x :: y :: r, b, h => by
  simp only [risesB, List.cons_append, Bool.and_eq_false_iff] at h ⊢
  rcases h with h | h
  ·exact .inl h
  ·exact .inr (risesB_pre (y :: r) b h)
theorem risesB_step (l : List (List UInt8)) (k : Nat) (h : k < l.length) : risesB (l.take (k + 1)) = (risesB (l.take k) && (decide (k = 0) || Op.bytesLess (l[k - 1]'(by omega)) l[k])) := by
 cases k with
 | zero =>
  have : l.take (0 + 1) = [l[0]] := by rw [List.take_succ_eq_append_getElem h]; rfl
  rw [this]; rfl
 | succ j =>
  have hj : j < l.length := by omega
  rw [List.take_succ_eq_append_getElem h, List.take_succ_eq_append_getElem hj, risesB_snoc]
  simp
theorem strsD_getm (l : List (List UInt8)) (k : Nat) (h : k < l.length) : (strsD l)[(((k : Nat) : Int) - 1).toNat]? = some [.str (l[k - 1]'(by omega))] := by
 rw [show (((k : Nat) : Int) - 1).toNat = k - 1 by omega]; simp [strsD, show k - 1 < l.length by omega]
theorem all_step {α : Type} (f : α → Bool) (l : List α) (k : Nat) (h : k < l.length) : (l.take (k + 1)).all f = ((l.take k).all f && f l[k]) := by
 rw [List.take_succ_eq_append_getElem h, List.all_append]; simp
theorem all_pre {α : Type} (f : α → Bool) (l : List α) (k : Nat) (h : (l.take k).all f = false) : l.all f = false := by
 rw [← List.take_append_drop k l, List.all_append, h]; rfl
abbrev openS (s : List UInt8) : Store := ⟨2, [(0, .two 75 (.ref 0 0 0) (.own 1 0 s.length)), (1, .rows (1, 5) (bytesA s))]⟩
set_option maxRecDepth 10000 in
theorem WriteO_ok (s t : List UInt8) (hs : s.length + t.length ≤ 140737488355328) : CallsAbs Tryz.prog 59 [.ref 0 0 0, .d (.str t)] (openS s) fun r σ' => r = .tup [.d (.int .i64 t.length), .nili] ∧ σ' = ⟨3, [(0, .two 75 (.ref 0 0 0) (.own 2 0 (s ++ t).length)), (2, .rows (1, 5) (bytesA (s ++ t)))]⟩ := by
 refine fn_okTE Tryz.wf Tryz.tab_ok Tryz.func59 (by decide +kernel) rfl rfl ?_
 refine E.seq (E.of Tryz.wf Tryz.tab_ok ?_)
 refine E.seq (E.of Tryz.wf Tryz.tab_ok ?_)
 refine (copyCheck_two (T := 75) (y := .own 1 0 s.length) ⟨_, Tryz.func99, by decide +kernel, rfl⟩ copyCheck_used rfl).mono ?_
 rintro _ _ ⟨rfl, rfl⟩
 have htl : ((bytesA t).drop 0).take t.length = bytesA t := takeAll (bytesA_len t)
 have hl : ((bytesA s).drop 0).take s.length = bytesA s := takeAll (bytesA_len s)
 refine E.of Tryz.wf Tryz.tab_ok ?_
 refine ⟨bytesA s, _, congrArg some hl, rfl, bytesA_len s, trivial, ?_, Nat.le_refl _, Nat.le_refl _, rfl, rfl, bytesRows s, bytesRows t, ?_⟩
 ·show ((bytesA s).length + (bytesA t).length) * 1 ≤ _; rw [bytesA_len, bytesA_len]; omega
 ·refine ⟨.tup [.d (.int .i64 t.length), .nili], ⟨3, [(0, .two 75 (.ref 0 0 0) (.own 2 0 (s ++ t).length)), (2, .rows (1, 5) (bytesA (s ++ t)))]⟩, fin_mv [.old 2] rfl rfl rfl ⟨⟨rfl, ⟨rfl, rfl, rfl⟩, rfl, rfl, ?_⟩, ⟨rfl, .inl ⟨bytesA_append s t, bytesA_pure _⟩⟩, trivial⟩ ⟨rfl, trivial, trivial⟩, rfl, rfl⟩
  simp [bytesA_len]
def joinB (sep : List UInt8) : List (List UInt8) → List UInt8
 | [] => []
 | [a] => a
 | a :: b :: r => a ++ sep ++ joinB sep (b :: r)
def moreB (sep : List UInt8) (l : List (List UInt8)) : List UInt8 := (l.map fun x => sep ++ x).flatten
theorem joinB_more (sep a : List UInt8) : ∀ l : List (List UInt8), joinB sep (a :: l) = a ++ moreB sep l
 | [] => by simp [joinB, moreB]
 | b :: r => by rw [joinB, joinB_more sep b r]; simp [moreB]
theorem moreB_take (sep : List UInt8) (l : List (List UInt8)) (k : Nat) (h : k < l.length) : moreB sep (l.take (k + 1)) = moreB sep (l.take k) ++ sep ++ l[k] := by
 unfold moreB
 rw [List.take_succ_eq_append_getElem h, List.map_append, List.flatten_append]; simp
def lensB (l : List (List UInt8)) : Nat := (l.map List.length).sum
theorem lensB_take (l : List (List UInt8)) (k : Nat) (h : k < l.length) : lensB (l.take (k + 1)) = lensB (l.take k) + l[k].length := by
 unfold lensB
 rw [List.take_succ_eq_append_getElem h, List.map_append, List.sum_append]; simp
theorem lensB_take_le (l : List (List UInt8)) (k : Nat) : lensB (l.take k) ≤ lensB l := by
 have : lensB l = lensB (l.take k) + lensB (l.drop k) := by
  conv => lhs; rw [← List.take_append_drop k l]
  simp only [lensB, List.map_append, List.sum_append]
 omega
theorem moreB_len (sep : List UInt8) : ∀ l : List (List UInt8), (moreB sep l).length = sep.length * l.length + lensB l
 | [] => by simp [moreB, lensB]
 | a :: r => by
  have ih := moreB_len sep r
  simp only [moreB, lensB, List.map_cons, List.flatten_cons, List.length_append, List.sum_cons, List.length_cons] at ih ⊢
  rw [ih, Nat.mul_succ]; omega
set_option maxHeartbeats 1000000 in
set_option maxRecDepth 100000 in
theorem Join_ok (sep : List UInt8) (l : List (List UInt8)) (hsep : sep.length ≤ 100000) (hs1 : 1 ≤ sep.length) (hl : l.length ≤ 1000000) (hs : lensB l ≤ 1000000000000) (hne : 2 ≤ l.length → lensB l ≠ 0) : PureC Tryz.prog 184 [.d (.sl (strsD l)), .d (.str sep)] (.d (.str (joinB sep l))) := by
 have hn := strsD_len l
 refine pure_okT Tryz.wf Tryz.tab_ok Tryz.func184 (by decide +kernel) rfl rfl rfl rfl ?_
 rcases l with _ | ⟨a, _ | ⟨b, r⟩⟩
 ·repeat' (first | refine CallsAbs.use1 hd1 ?_ | refine CallsAbs.use1 hd2 ?_ | refine wO ?_ | (refine ⟨fun h => ?_, fun h => ?_⟩ <;> (try simp only [wS, List.length_cons, List.length_nil] at h) <;> (try exact wX h)) | refine wP ?_ | fail)
  exact ⟨_, _, fin_out rfl, rfl⟩
 ·have hg := strsD_get [a] 0 (by simp)
  repeat' (first | refine CallsAbs.use1 hd1 ?_ | refine CallsAbs.use1 hd2 ?_ | refine wO ?_ | (refine ⟨fun h => ?_, fun h => ?_⟩ <;> (try simp only [wS, List.length_cons, List.length_nil] at h) <;> (try exact wX h)) | refine wP ?_ | fail)
  exact ⟨_, _, fin_out rfl, rfl⟩
 ·have hcons : joinB sep (a :: b :: r) = a ++ moreB sep (b :: r) := joinB_more sep a (b :: r)
  have hla : lensB (a :: b :: r) = a.length + lensB (b :: r) := by simp [lensB]
  have hml := moreB_len sep (b :: r)
  have hn1 := strsD_len (b :: r)
  have hd1 : ((strsD (a :: b :: r)).take ((strsD (a :: b :: r)).length : Int).toNat).drop (1 : Int).toNat = strsD (b :: r) := by
   rw [Int.toNat_natCast, List.take_length]; rfl
  have hg0 := strsD_get (a :: b :: r) 0 (by simp)
  have hL1 : (a :: b :: r).length = (b :: r).length + 1 := rfl
  have hz : (a :: b :: r)[0]'(by simp) = a := rfl
  rw [hz] at hg0
  clear hz
  rw [hcons]
  generalize hL : a :: b :: r = l at *
  generalize hR : b :: r = q at *
  have hq1 : 1 ≤ q.length := by rw [← hR]; simp
  have h2 : 2 ≤ l.length := by omega
  have hsum := hne h2
  have hmul : sep.length * q.length ≤ 100000 * 1000000 := Nat.mul_le_mul hsep (by omega)
  obtain ⟨d, hd, hdl, hdu⟩ : ∃ d : Int, Int.tdiv 9223372036854775807 (((strsD l).length : Int) - 1) = d ∧ 9223372036854 ≤ d ∧ d ≤ 9223372036854775807 := by
   refine ⟨_, rfl, ?_, ?_⟩
   ·rw [show (((strsD l).length : Int) - 1) = ((q.length : Nat) : Int) by omega]
    show (9223372036854 : Int) ≤ ((9223372036854775807 / q.length : Nat) : Int)
    have : 9223372036854 ≤ 9223372036854775807 / q.length := (Nat.le_div_iff_mul_le (by omega)).2 (by omega)
    omega
   ·rw [show (((strsD l).length : Int) - 1) = ((q.length : Nat) : Int) by omega]
    show ((9223372036854775807 / q.length : Nat) : Int) ≤ _
    have := Nat.div_le_self 9223372036854775807 q.length
    omega
  have hM : (sep.length : Int) * (((strsD l).length : Int) - 1) = ((sep.length * q.length : Nat) : Int) := by
   rw [show (((strsD l).length : Int) - 1) = ((q.length : Nat) : Int) by omega]; simp
  generalize sep.length * q.length = M at *
  repeat' (first | refine CallsAbs.use1 hd1 ?_ | refine CallsAbs.use1 hd2 ?_ | refine wO ?_ | (refine ⟨fun h => ?_, fun h => ?_⟩ <;> (try simp only [wS, List.length_cons, List.length_nil] at h) <;> (try exact wX h)) | refine wP ?_ | fail)
  ·rw [hd]
   repeat' (first | refine CallsAbs.use1 hd1 ?_ | refine CallsAbs.use1 hd2 ?_ | refine wO ?_ | (refine ⟨fun h => ?_, fun h => ?_⟩ <;> (try simp only [wS, List.length_cons, List.length_nil] at h) <;> (try exact wX h)) | refine wP ?_ | fail)
   rw [hM]
   repeat' (first | refine CallsAbs.use1 hd1 ?_ | refine CallsAbs.use1 hd2 ?_ | refine wO ?_ | (refine ⟨fun h => ?_, fun h => ?_⟩ <;> (try simp only [wS, List.length_cons, List.length_nil] at h) <;> (try exact wX h)) | refine wP ?_ | fail)
   refine loopT Tryz.wf Tryz.tab_ok (fun n s' σ => ∃ k : Nat, n = l.length - k ∧ k ≤ l.length ∧ s' = [(0, .d (.sl (strsD l))), (1, .d (.str sep)), (5, .d (.int .i64 (M + lensB (l.take k) : Nat))), (39, .d (.sl (strsD l))), (40, .d (.int .i64 l.length)), (41, .d (.int .i64 k))] ∧ σ = ⟨0, []⟩)
    ⟨0, rfl, Nat.zero_le _, rfl, rfl⟩ (Mv.of [] rfl rfl rfl trivial ⟨rfl, rfl, congrArg (fun n : Int => D.int .i64 n) (by simp [lensB]), rfl, congrArg (fun n : Nat => D.int .i64 n) hn.symm, rfl, trivial⟩) ?_
   rintro _ _ _ ⟨k, rfl, hk, rfl, rfl⟩
   have hle := lensB_take_le l k
   by_cases hlt : k < l.length
   ·have hg := strsD_get l k hlt
    have htk := lensB_take l k hlt
    have hle2 := lensB_take_le l (k + 1)
    generalize lensB (l.take k) = acc at *
    repeat' (first | refine CallsAbs.use1 hd1 ?_ | refine CallsAbs.use1 hd2 ?_ | refine wO ?_ | (refine ⟨fun h => ?_, fun h => ?_⟩ <;> (try simp only [wS, List.length_cons, List.length_nil] at h) <;> (try exact wX h)) | refine wP ?_ | fail)
    exact ⟨_, _, _, ⟨k + 1, rfl, hlt, rfl, rfl⟩, by omega, Mv.of [] rfl rfl rfl trivial ⟨rfl, rfl, congrArg (fun n : Int => D.int .i64 n) (by omega), rfl, rfl, rfl, trivial⟩⟩
   ·have hk' : k = l.length := by omega
    subst hk'
    have hd1x0 := hd1
    rw [List.take_length] at hle ⊢
    clear hd1x0 hle
    repeat' (first | refine CallsAbs.use1 hd1 ?_ | refine CallsAbs.use1 hd2 ?_ | refine wO ?_ | (refine ⟨fun h => ?_, fun h => ?_⟩ <;> (try simp only [wS, List.length_cons, List.length_nil] at h) <;> (try exact wX h)) | refine wP ?_ | fail)
    refine CallsAbs.use1 (Grow_ok (M + lensB l) (by omega) (by omega)) ?_
    repeat' (first | refine CallsAbs.use1 hd1 ?_ | refine CallsAbs.use1 hd2 ?_ | refine wO ?_ | (refine ⟨fun h => ?_, fun h => ?_⟩ <;> (try simp only [wS, List.length_cons, List.length_nil] at h) <;> (try exact wX h)) | refine wP ?_ | fail)
    refine CallsAbs.fm (σ' := openS []) (fin_same rfl fun i => ?_) ?_
    ·simp only [Store.get, look_cons]
     by_cases h0 : 0 = i
     ·subst h0; rfl
     ·rw [if_neg h0, if_neg h0]
      by_cases h1 : 1 = i
      ·subst h1; rfl
      ·simp [h0, h1]
    refine CallsAbs.use1 (WriteO_ok [] a (by simp only [List.length_nil]; omega)) ?_
    rw [List.nil_append]
    repeat' (first | refine CallsAbs.use1 hd1 ?_ | refine CallsAbs.use1 hd2 ?_ | refine wO ?_ | (refine ⟨fun h => ?_, fun h => ?_⟩ <;> (try simp only [wS, List.length_cons, List.length_nil] at h) <;> (try exact wX h)) | refine wP ?_ | fail)
    refine ⟨.inr (.inr ⟨_, hg0, rfl⟩), ?_⟩
    rw [hd1]
    repeat' (first | refine CallsAbs.use1 hd1 ?_ | refine CallsAbs.use1 hd2 ?_ | refine wO ?_ | (refine ⟨fun h => ?_, fun h => ?_⟩ <;> (try simp only [wS, List.length_cons, List.length_nil] at h) <;> (try exact wX h)) | refine wP ?_ | fail)
    refine loopT Tryz.wf Tryz.tab_ok (fun n s' σ => ∃ k : Nat, n = q.length - k ∧ k ≤ q.length ∧ s' = [(1, .d (.str sep)), (8, .ref 0 0 0), (63, .d (.sl (strsD q))), (64, .d (.int .i64 q.length)), (65, .d (.int .i64 k))] ∧ σ = openS (a ++ moreB sep (q.take k)))
     ⟨0, rfl, Nat.zero_le _, rfl, rfl⟩ (Mv.of [.old 0, .old 2] rfl rfl rfl ⟨⟨rfl, ⟨rfl, rfl, rfl⟩, rfl, rfl, by simp [moreB]⟩, ⟨rfl, .inl ⟨by simp [moreB], bytesA_pure _⟩⟩, trivial⟩ ⟨rfl, ⟨rfl, rfl, rfl⟩, rfl, congrArg (fun n : Nat => D.int .i64 n) hn1.symm, rfl, trivial⟩) ?_
    rintro _ _ _ ⟨k, rfl, hk, rfl, rfl⟩
    by_cases hlt : k < q.length
    ·have hg := strsD_get q k hlt
     have htk := moreB_take sep q k hlt
     have hm1 := moreB_len sep (q.take (k + 1))
     have hle2 := lensB_take_le q (k + 1)
     have hmk : sep.length * (q.take (k + 1)).length ≤ 100000 * 1000000 := Nat.mul_le_mul hsep (by rw [List.length_take]; omega)
     rw [htk, List.length_append, List.length_append] at hm1
     have hd2 := WriteO_ok (a ++ moreB sep (q.take k)) sep (by rw [List.length_append]; omega)
     have hw3 := WriteO_ok ((a ++ moreB sep (q.take k)) ++ sep) q[k] (by rw [List.length_append, List.length_append]; omega)
     have hacc : (a ++ moreB sep (q.take k)) ++ sep ++ q[k] = a ++ moreB sep (q.take (k + 1)) := by rw [htk]; simp
     clear hd1
     generalize a ++ moreB sep (q.take k) = acc at *
     repeat' (first | refine CallsAbs.use1 hd1 ?_ | refine CallsAbs.use1 hd2 ?_ | refine wO ?_ | (refine ⟨fun h => ?_, fun h => ?_⟩ <;> (try simp only [wS, List.length_cons, List.length_nil] at h) <;> (try exact wX h)) | refine wP ?_ | fail)
     refine CallsAbs.frame hw3 [.old 0, .old 2] ⟨Nat.zero_le _, rfl, rfl, ⟨⟨rfl, ⟨rfl, rfl, rfl⟩, rfl, rfl, rfl⟩, ⟨rfl, .inl ⟨rfl, bytesA_pure _⟩⟩, trivial⟩⟩ ⟨⟨rfl, rfl, rfl⟩, rfl, trivial⟩ ?_
     rintro _ _ ⟨rfl, rfl⟩
     refine ⟨.tup [.d (.int .i64 q[k].length), .nili], [(0, .two 75 (.ref 0 0 0) (.own 3 0 (acc ++ sep ++ q[k]).length)), (2, .dead), (3, .rows (1, 5) (bytesA (acc ++ sep ++ q[k])))], ⟨⟨rfl, ⟨rfl, rfl, rfl⟩, rfl, rfl, rfl⟩, trivial, ⟨rfl, .inl ⟨rfl, bytesA_pure _⟩⟩, trivial⟩, rfl, ⟨rfl, trivial, trivial⟩, ?_⟩
     rw [hacc]
     repeat' (first | refine CallsAbs.use1 hd1 ?_ | refine CallsAbs.use1 hd2 ?_ | refine wO ?_ | (refine ⟨fun h => ?_, fun h => ?_⟩ <;> (try simp only [wS, List.length_cons, List.length_nil] at h) <;> (try exact wX h)) | refine wP ?_ | fail)
     exact ⟨_, _, _, ⟨k + 1, rfl, hlt, rfl, rfl⟩, by omega, Mv.of [.old 0, .old 3] rfl rfl rfl ⟨⟨rfl, ⟨rfl, rfl, rfl⟩, rfl, rfl, rfl⟩, ⟨rfl, .inl ⟨rfl, bytesA_pure _⟩⟩, trivial⟩ ⟨rfl, ⟨rfl, rfl, rfl⟩, rfl, rfl, rfl, trivial⟩⟩
    ·have hk' : k = q.length := by omega
     subst hk'
     rw [List.take_length]
     have hne2 : a ++ moreB sep q ≠ [] := fun e => by
      have := congrArg List.length e
      rw [List.length_append, List.length_nil] at this; omega
     repeat' (first | refine CallsAbs.use1 hd1 ?_ | refine CallsAbs.use1 hd2 ?_ | refine wO ?_ | (refine ⟨fun h => ?_, fun h => ?_⟩ <;> (try simp only [wS, List.length_cons, List.length_nil] at h) <;> (try exact wX h)) | refine wP ?_ | fail)
     refine CallsAbs.use1 (String_two ⟨_, Tryz.func61, by decide +kernel, rfl⟩ String_row (a ++ moreB sep q) hne2 (by rw [List.length_append]; omega)) ?_
     exact ⟨.d (.str (a ++ moreB sep q)), ⟨0, []⟩, fin_mv [] rfl rfl rfl trivial rfl, rfl⟩
end Go.Proofs.YthngplknbbcecaaGreatDoor
