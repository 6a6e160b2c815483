import Derived.Test.YtcmkiancbgmmhaaUtf
namespace Go.Proofs.Ytcmkiancbgmmhaa
open Go.Aw
set_option maxHeartbeats 1600000
set_option linter.unusedSimpArgs false
set_option linter.unusedVariables false

def strsD (l : List (List UInt8)) : List (List D) := l.map fun s => [.str s]
theorem strsD_len (l : List (List UInt8)) : (strsD l).length = l.length := by simp [strsD]
theorem strsD_get (l : List (List UInt8)) (k : Nat) (h : k < l.length) : (strsD l)[((k : Nat) : Int).toNat]? = some [.str l[k]] := by simp [strsD, h]
def seek (l : List (List UInt8)) (v : List UInt8) : Int := if v ∈ l then ((l.findIdx fun x => decide (v = x) : Nat) : Int) else -1

set_option maxRecDepth 10000 in
theorem Index_ok (l : List (List UInt8)) (v : List UInt8) (hl : l.length ≤ 4611686018427387903) : PureC Try.prog 85 [.d (.sl (strsD l)), .d (.str v)] (.d (.int .i64 (seek l v))) := by
  refine pure_okT Try.wf Try.tab_ok Try.func85 (by decide +kernel) rfl rfl rfl rfl ?_
  have hn := strsD_len l
  refine loopT Try.wf Try.tab_ok (fun n s' σ => ∃ k : Nat, n = l.length - k ∧ k ≤ l.length ∧ (∀ j (h : j < k) (h2 : j < l.length), l[j] ≠ v) ∧ s' = [(0, .d (.sl (strsD l))), (1, .d (.str v)), (7, .d (.int .i64 l.length)), (8, .d (.int .i64 k))] ∧ σ = ⟨0, []⟩)
    ⟨0, rfl, Nat.zero_le _, fun j h => absurd h (by omega), rfl, rfl⟩ (Mv.of [] rfl rfl rfl trivial ⟨rfl, rfl, congrArg (fun n : Nat => D.int .i64 n) hn.symm, rfl, trivial⟩) ?_
  rintro _ _ _ ⟨k, rfl, hk, hI, rfl, rfl⟩
  refine ⟨fun h => ?_, fun h => ?_⟩
  · have hlt : k < l.length := by have := of_decide_eq_true h; omega
    refine ⟨⟨by omega, by rw [hn]; omega⟩, _, strsD_get l k hlt, rfl, _, rfl, ⟨fun h1 => ?_, fun h1 => ?_⟩⟩
    · have h1' := of_decide_eq_true h1
      refine ⟨_, _, FinMove.refl _ _ _, congrArg (fun x : Int => AV.d (.int .i64 x)) ?_⟩
      have hm : v ∈ l := by rw [h1']; exact List.getElem_mem hlt
      have : l.findIdx (fun x => decide (v = x)) = k := by
        rw [List.findIdx_eq hlt]
        exact ⟨by simpa using h1', fun j hj => by have := hI j hj (by omega); simp; exact fun e => this e.symm⟩
      rw [seek, if_pos hm, this]
    · have h1' := of_decide_eq_false h1
      exact .inl ⟨⟨by omega, by omega⟩, _, _, _, ⟨k + 1, rfl, hlt, fun j hj h2 => by
        by_cases e : j = k
        · subst e; exact fun e => h1' e.symm
        · exact hI j (by omega) h2, rfl, rfl⟩, by omega, Mv.of [] rfl rfl rfl trivial ⟨rfl, rfl, rfl, rfl, trivial⟩⟩
  · have hk' : k = l.length := by have := of_decide_eq_false h; omega
    subst hk'
    refine ⟨_, _, FinMove.refl _ _ _, congrArg (fun x : Int => AV.d (.int .i64 x)) ?_⟩
    rw [seek, if_neg]
    intro hm
    obtain ⟨j, hj, e⟩ := List.mem_iff_getElem.1 hm
    exact hI j hj hj e

set_option maxRecDepth 10000 in
theorem Contains_ok (l : List (List UInt8)) (v : List UInt8) (hl : l.length ≤ 4611686018427387903) : PureC Try.prog 78 [.d (.sl (strsD l)), .d (.str v)] (.d (.bool (decide (v ∈ l)))) := by
  refine pure_okT Try.wf Try.tab_ok Try.func78 (by decide +kernel) rfl rfl rfl rfl ?_
  refine PureC.use (Index_ok l v hl) ⟨_, _, FinMove.refl _ _ _, congrArg (fun b => AV.d (.bool b)) ?_⟩
  unfold seek
  by_cases h : v ∈ l
  · simp [h]
  · simp [h]

def hasPre (s p : List UInt8) : Bool := decide (p.length ≤ s.length) && decide (s.take p.length = p)
set_option maxRecDepth 10000 in
theorem lHasPrefix_ok (s p : List UInt8) : PureC Try.prog 66 [.d (.str s), .d (.str p)] (.d (.bool (hasPre s p))) := by
  refine pure_okT Try.wf Try.tab_ok Try.func66 (by decide +kernel) rfl rfl rfl rfl ?_
  refine ⟨fun h => ?_, fun h => ?_⟩
  · have h' : p.length ≤ s.length := by have := of_decide_eq_true h; omega
    refine ⟨⟨by omega, by omega, by omega⟩, _, _, FinMove.refl _ _ _, congrArg (fun b => AV.d (.bool b)) ?_⟩
    simp [hasPre, h']
  · have h' : ¬ p.length ≤ s.length := by have := of_decide_eq_false h; omega
    refine ⟨_, _, FinMove.refl _ _ _, congrArg (fun b => AV.d (.bool b)) ?_⟩
    simp [hasPre, h']
theorem HasPrefix_ok (s p : List UInt8) : PureC Try.prog 51 [.d (.str s), .d (.str p)] (.d (.bool (hasPre s p))) := by
  refine pure_okT Try.wf Try.tab_ok Try.func51 (by decide +kernel) rfl rfl rfl rfl ?_
  exact PureC.use (lHasPrefix_ok s p) ⟨_, _, FinMove.refl _ _ _, rfl⟩

theorem IndexByteString_ok (s : List UInt8) (c : UInt8) : PureC Try.prog 93 [.d (.str s), .d (.int .u8 c.toNat)] (.d (.int .i64 (idxB c s))) :=
  indexByte_abs Try.func93 (by decide +kernel) rfl (by kernel_rfl) (by kernel_rfl) s c
set_option maxRecDepth 10000 in
theorem lIndexByte_ok (s : List UInt8) (c : UInt8) : PureC Try.prog 84 [.d (.str s), .d (.int .u8 c.toNat)] (.d (.int .i64 (idxB c s))) := by
  refine pure_okT Try.wf Try.tab_ok Try.func84 (by decide +kernel) rfl rfl rfl rfl ?_
  exact PureC.use (IndexByteString_ok s c) ⟨_, _, FinMove.refl _ _ _, rfl⟩
set_option maxRecDepth 10000 in
theorem IndexByte_ok (s : List UInt8) (c : UInt8) : PureC Try.prog 76 [.d (.str s), .d (.int .u8 c.toNat)] (.d (.int .i64 (idxB c s))) := by
  refine pure_okT Try.wf Try.tab_ok Try.func76 (by decide +kernel) rfl rfl rfl rfl ?_
  exact PureC.use (lIndexByte_ok s c) ⟨_, _, FinMove.refl _ _ _, rfl⟩

def cutPre (s p : List UInt8) : AV := if hasPre s p then .tup [.d (.str (s.drop p.length)), .d (.bool true)] else .tup [.d (.str s), .d (.bool false)]
theorem cutPre_pure (s p : List UInt8) : (cutPre s p).pure = true := by unfold cutPre; split <;> rfl
set_option maxRecDepth 10000 in
theorem lCutPrefix_ok (s p : List UInt8) : PureC Try.prog 95 [.d (.str s), .d (.str p)] (cutPre s p) := by
  refine pure_okT Try.wf Try.tab_ok Try.func95 (by decide +kernel) rfl rfl rfl (cutPre_pure s p) ?_
  refine PureC.use (lHasPrefix_ok s p) ⟨fun h => ?_, fun h => ?_⟩
  · have h : hasPre s p = false := by simpa using h
    exact ⟨_, _, FinMove.refl _ _ _, by rw [cutPre, h]; rfl⟩
  · have h : hasPre s p = true := by simpa using h
    have hl : p.length ≤ s.length := by unfold hasPre at h; simp at h; exact h.1
    exact ⟨⟨by omega, by omega, by omega⟩, _, _, FinMove.refl _ _ _, by rw [cutPre, if_pos h]; exact congrArg (fun x => AV.tup [.d (.str x), .d (.bool true)]) (by simp)⟩
set_option maxRecDepth 10000 in
theorem CutPrefix_ok (s p : List UInt8) : PureC Try.prog 87 [.d (.str s), .d (.str p)] (cutPre s p) := by
  have c := lCutPrefix_ok s p
  refine pure_okT Try.wf Try.tab_ok Try.func87 (by decide +kernel) rfl rfl rfl (cutPre_pure s p) ?_
  unfold cutPre at c ⊢
  split at c
  · rename_i h; rw [if_pos h]; exact PureC.use c ⟨_, _, FinMove.refl _ _ _, rfl⟩
  · rename_i h; rw [if_neg h]; exact PureC.use c ⟨_, _, FinMove.refl _ _ _, rfl⟩
theorem getD_at (s : List UInt8) (k : Nat) (h : k < s.length) : s.getD ((k : Nat) : Int).toNat 0 = s[k] := by
  rw [Int.toNat_natCast, List.getD_eq_getElem?_getD, List.getElem?_eq_getElem h, Option.getD_some]

end Go.Proofs.Ytcmkiancbgmmhaa
