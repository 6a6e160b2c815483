import Derived.Test.YtampfnlmojgjgaaT6
namespace Go.Proofs.Ytampfnlmojgjgaa
open Go.Aw

def strsD (l : List (List UInt8)) : List (List D) := l.map fun s => [.str s]
theorem strsD_len (l : List (List UInt8)) : (strsD l).length = l.length := by simp [strsD]
theorem strsD_get (l : List (List UInt8)) (k : Nat) (h : k < l.length) : (strsD l)[((k : Nat) : Int).toNat]? = some [.str l[k]] := by simp [strsD, h]
def seek (l : List (List UInt8)) (v : List UInt8) : Int := if v ∈ l then ((l.findIdx fun x => decide (v = x) : Nat) : Int) else -1

set_option maxRecDepth 10000 in
theorem Index_ok (l : List (List UInt8)) (v : List UInt8) (hl : l.length ≤ 4611686018427387903) : PureC Try.prog 23 [.d (.sl (strsD l)), .d (.str v)] (.d (.int .i64 (seek l v))) := by
  refine pure_okT Try.wf Try.tab_ok Try.func23 (by decide +kernel) rfl rfl rfl rfl ?_
  have hn := strsD_len l
  refine loopT Try.wf Try.tab_ok (fun n s' σ => ∃ k : Nat, n = l.length - k ∧ k ≤ l.length ∧ (∀ j (h : j < k) (h2 : j < l.length), l[j] ≠ v) ∧ s' = [(0, .d (.sl (strsD l))), (1, .d (.str v)), (7, .d (.int .i64 l.length)), (8, .d (.int .i64 k))] ∧ σ = ⟨0, []⟩)
    ⟨0, rfl, Nat.zero_le _, fun j h => absurd h (by omega), rfl, rfl⟩ (Mv.of [] rfl rfl rfl trivial ⟨rfl, rfl, congrArg (fun n : Nat => D.int .i64 n) hn.symm, rfl, trivial⟩) ?_
  rintro _ _ _ ⟨k, rfl, hk, hI, rfl, rfl⟩
  refine ⟨fun h => ?_, fun h => ?_⟩
  · have hlt : k < l.length := by have := of_decide_eq_true h; omega
    refine ⟨⟨by omega, by rw [hn]; omega⟩, _, strsD_get l k hlt, rfl, _, rfl, ⟨fun h1 => ?_, fun h1 => ?_⟩⟩
    · have h1' := of_decide_eq_true h1
      refine ⟨_, _, FinMove.refl _ _ _, congrArg (fun x : Int => AV.d (.int .i64 x)) ?_⟩
      have hm : v ∈ l := by rw [h1']; exact List.getElem_mem hlt
      have : l.findIdx (fun x => decide (v = x)) = k := by
        rw [List.findIdx_eq hlt]
        exact ⟨by simpa using h1', fun j hj => by have := hI j hj (by omega); simp; exact fun e => this e.symm⟩
      rw [seek, if_pos hm, this]
    · have h1' := of_decide_eq_false h1
      exact .inl ⟨⟨by omega, by omega⟩, _, _, _, ⟨k + 1, rfl, hlt, fun j hj h2 => by
        by_cases e : j = k
        · subst e; exact fun e => h1' e.symm
        · exact hI j (by omega) h2, rfl, rfl⟩, by omega, Mv.of [] rfl rfl rfl trivial ⟨rfl, rfl, rfl, rfl, trivial⟩⟩
  · have hk' : k = l.length := by have := of_decide_eq_false h; omega
    subst hk'
    refine ⟨_, _, FinMove.refl _ _ _, congrArg (fun x : Int => AV.d (.int .i64 x)) ?_⟩
    rw [seek, if_neg]
    intro hm
    obtain ⟨j, hj, e⟩ := List.mem_iff_getElem.1 hm
    exact hI j hj hj e

set_option maxRecDepth 10000 in
theorem Contains_ok (l : List (List UInt8)) (v : List UInt8) (hl : l.length ≤ 4611686018427387903) : PureC Try.prog 20 [.d (.sl (strsD l)), .d (.str v)] (.d (.bool (decide (v ∈ l)))) := by
  refine pure_okT Try.wf Try.tab_ok Try.func20 (by decide +kernel) rfl rfl rfl rfl ?_
  refine PureC.use (Index_ok l v hl) ⟨_, _, FinMove.refl _ _ _, congrArg (fun b => AV.d (.bool b)) ?_⟩
  unfold seek
  by_cases h : v ∈ l
  · simp [h]
  · simp [h]

def hasPre (s p : List UInt8) : Bool := decide (p.length ≤ s.length) && decide (s.take p.length = p)
set_option maxRecDepth 10000 in
theorem lHasPrefix_ok (s p : List UInt8) : PureC Try.prog 24 [.d (.str s), .d (.str p)] (.d (.bool (hasPre s p))) := by
  refine pure_okT Try.wf Try.tab_ok Try.func24 (by decide +kernel) rfl rfl rfl rfl ?_
  refine ⟨fun h => ?_, fun h => ?_⟩
  · have h' : p.length ≤ s.length := by have := of_decide_eq_true h; omega
    refine ⟨⟨by omega, by omega, by omega⟩, _, _, FinMove.refl _ _ _, congrArg (fun b => AV.d (.bool b)) ?_⟩
    simp [hasPre, h']
  · have h' : ¬ p.length ≤ s.length := by have := of_decide_eq_false h; omega
    refine ⟨_, _, FinMove.refl _ _ _, congrArg (fun b => AV.d (.bool b)) ?_⟩
    simp [hasPre, h']
theorem HasPrefix_ok (s p : List UInt8) : PureC Try.prog 21 [.d (.str s), .d (.str p)] (.d (.bool (hasPre s p))) := by
  refine pure_okT Try.wf Try.tab_ok Try.func21 (by decide +kernel) rfl rfl rfl rfl ?_
  exact PureC.use (lHasPrefix_ok s p) ⟨_, _, FinMove.refl _ _ _, rfl⟩
end Go.Proofs.Ytampfnlmojgjgaa
