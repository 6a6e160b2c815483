import Derived.Test.YtampfnlmojgjgaaT7
namespace Go.Proofs.Ytampfnlmojgjgaa
open Go.Aw

def badc (c : UInt8) : Bool := decide (c.toNat < 32) || decide (c.toNat = 92) || decide (c.toNat = 127)
def allowed (s : List UInt8) (l : List (List UInt8)) : Bool := if schemeB s then decide (schemeS s ∈ l) else !hasPre (bare s) [47, 47] && (bare s).all fun c => !badc c

theorem all_split (b : List UInt8) (k : Nat) (h : k < b.length) : (b.drop k).all (fun c => !badc c) = (!badc b[k] && (b.drop (k + 1)).all fun c => !badc c) := by
  rw [List.drop_eq_getElem_cons h, List.all_cons]

set_option maxRecDepth 10000 in
theorem Allowed_ok (s : List UInt8) (l : List (List UInt8)) (hs : s.length ≤ 140737488355328) (hl : l.length ≤ 4611686018427387903) : PureC Try.prog 14 [.d (.str s), .d (.sl (strsD l))] (.d (.bool (allowed s l))) := by
  refine pure_okT Try.wf Try.tab_ok Try.func14 (by decide +kernel) rfl rfl rfl rfl ?_
  refine PureC.use (Scheme_ok s hs) ⟨fun h => ?_, fun h => ?_⟩
  · have hb : schemeB s = true := h
    exact PureC.use (Contains_ok l (schemeS s) hl) ⟨_, _, FinMove.refl _ _ _, congrArg (fun b => AV.d (.bool b)) (by rw [allowed, if_pos hb])⟩
  · have hb : ¬ schemeB s = true := by rw [show schemeB s = false from h]; simp
    have hal : allowed s l = (!hasPre (bare s) [47, 47] && (bare s).all fun c => !badc c) := by rw [allowed, if_neg hb]
    have hbl := bare_len s
    refine PureC.use (Bare_ok s (by omega) hs) (PureC.use (HasPrefix_ok (bare s) [47, 47]) ⟨fun h2 => ?_, fun h2 => ?_⟩)
    · exact ⟨_, _, FinMove.refl _ _ _, congrArg (fun b => AV.d (.bool b)) (by rw [hal, h2]; rfl)⟩
    · rw [h2] at hal
      generalize bare s = b at *
      refine loopT Try.wf Try.tab_ok (fun n s' σ => ∃ k : Nat, n = b.length - k ∧ k ≤ b.length ∧ allowed s l = ((b.drop k).all fun c => !badc c) ∧ s' = [(7, .d (.str b)), (23, .d (.int .i64 b.length)), (24, .d (.int .i64 k))] ∧ σ = ⟨0, []⟩)
        ⟨0, rfl, Nat.zero_le _, by rw [hal]; simp, rfl, rfl⟩ (Mv.of [] rfl rfl rfl trivial ⟨rfl, rfl, rfl, trivial⟩) ?_
      rintro _ _ _ ⟨k, rfl, hk, hI, rfl, rfl⟩
      have no : allowed s l = false → ∃ r2 σ2, FinMove ⟨0, []⟩ (.d (.bool false)) ⟨0, []⟩ r2 σ2 ∧ r2 = AV.d (.bool (allowed s l)) := fun h => ⟨_, _, FinMove.refl _ _ _, by rw [h]⟩
      refine ⟨fun h3 => ?_, fun h3 => ?_⟩
      · have hlt : k < b.length := by have := of_decide_eq_true h3; omega
        have hg := getD_at b k hlt
        rw [all_split b k hlt] at hI
        clear h3
        refine ⟨⟨by omega, by omega⟩, ⟨fun a => ⟨⟨by omega, by omega⟩, ⟨fun c => ⟨⟨by omega, by omega⟩, ⟨fun d => ?_, fun d => ?_⟩⟩, fun c => ?_⟩⟩, fun a => ?_⟩⟩
        all_goals
          try simp only [hg, decide_eq_true_eq, decide_eq_false_iff_not] at a
          try simp only [hg, decide_eq_true_eq, decide_eq_false_iff_not] at c
          try simp only [hg, decide_eq_true_eq, decide_eq_false_iff_not] at d
        · exact no (by rw [hI]; simp [badc]; omega)
        · refine .inl ⟨⟨by omega, by omega⟩, _, _, _, ⟨k + 1, rfl, hlt, ?_, rfl, rfl⟩, by omega, Mv.of [] rfl rfl rfl trivial ⟨rfl, rfl, rfl, trivial⟩⟩
          have : badc b[k] = false := by simp [badc]; omega
          rw [hI, this]; rfl
        · exact no (by rw [hI]; simp [badc]; omega)
        · exact no (by rw [hI]; simp [badc]; omega)
      · have hk' : k = b.length := by have := of_decide_eq_false h3; omega
        subst hk'
        exact ⟨_, _, FinMove.refl _ _ _, congrArg (fun b => AV.d (.bool b)) (by rw [hI]; simp)⟩
end Go.Proofs.Ytampfnlmojgjgaa
