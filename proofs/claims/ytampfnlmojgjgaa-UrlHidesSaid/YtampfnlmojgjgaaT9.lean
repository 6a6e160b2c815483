import Derived.Test.YtampfnlmojgjgaaT8
namespace Go.Proofs.Ytampfnlmojgjgaa
open Go.Aw

set_option maxRecDepth 10000 in
theorem rAllowed_ok (s : List UInt8) (l : List (List UInt8)) (hs : s.length ≤ 140737488355328) (hl : l.length ≤ 4611686018427387903) : PureC Try.prog 15 [.d (.str s), .d (.sl (strsD l))] (.d (.bool (allowed s l))) := by
  refine pure_okT Try.wf Try.tab_ok Try.func15 (by decide +kernel) rfl rfl rfl rfl ?_
  have hn := strsD_len l
  refine PureC.use (rScheme_ok s hs) ⟨fun h => ?_, fun h => ?_⟩
  · have hb : schemeB s = true := h
    have hal : allowed s l = decide (schemeS s ∈ l) := by rw [allowed, if_pos hb]
    refine loopT Try.wf Try.tab_ok (fun n s' σ => ∃ k : Nat, n = l.length - k ∧ k ≤ l.length ∧ (∀ j (h : j < k) (h2 : j < l.length), l[j] ≠ schemeS s) ∧ s' = [(1, .d (.sl (strsD l))), (5, .d (.str (schemeS s))), (7, .d (.int .i64 k))] ∧ σ = ⟨0, []⟩)
      ⟨0, rfl, Nat.zero_le _, fun j h => absurd h (by omega), rfl, rfl⟩ (Mv.of [] rfl rfl rfl trivial ⟨rfl, rfl, rfl, trivial⟩) ?_
    rintro _ _ _ ⟨k, rfl, hk, hI, rfl, rfl⟩
    refine ⟨fun h3 => ?_, fun h3 => ?_⟩
    · have hlt : k < l.length := by have := of_decide_eq_true h3; rw [hn] at this; omega
      refine ⟨⟨by omega, by rw [hn]; omega⟩, _, strsD_get l k hlt, rfl, _, rfl, ⟨fun h1 => ?_, fun h1 => ?_⟩⟩
      · have h1' := of_decide_eq_true h1
        refine ⟨_, _, FinMove.refl _ _ _, congrArg (fun b => AV.d (.bool b)) ?_⟩
        rw [hal, ← h1']; simp
      · have h1' := of_decide_eq_false h1
        exact .inl ⟨⟨by omega, by omega⟩, _, _, _, ⟨k + 1, rfl, hlt, fun j hj h2 => by
          by_cases e : j = k
          · subst e; exact h1'
          · exact hI j (by omega) h2, rfl, rfl⟩, by omega, Mv.of [] rfl rfl rfl trivial ⟨rfl, rfl, rfl, trivial⟩⟩
    · have hk' : k = l.length := by have := of_decide_eq_false h3; rw [hn] at this; omega
      subst hk'
      refine ⟨_, _, FinMove.refl _ _ _, congrArg (fun b => AV.d (.bool b)) ?_⟩
      rw [hal]
      refine (decide_eq_false fun hm => ?_).symm
      obtain ⟨j, hj, e⟩ := List.mem_iff_getElem.1 hm
      exact hI j hj hj e
  · have hb : ¬ schemeB s = true := by rw [show schemeB s = false from h]; simp
    have hal : allowed s l = (!hasPre (bare s) [47, 47] && (bare s).all fun c => !badc c) := by rw [allowed, if_neg hb]
    have hbl := bare_len s
    refine PureC.use (rBare_ok s (by omega)) ?_
    generalize bare s = b at *
    have no : allowed s l = false → ∃ r2 σ2, FinMove ⟨0, []⟩ (.d (.bool false)) ⟨0, []⟩ r2 σ2 ∧ r2 = AV.d (.bool (allowed s l)) := fun h => ⟨_, _, FinMove.refl _ _ _, by rw [h]⟩
    refine ⟨fun h2 => ⟨⟨by omega, by omega, ?_⟩, ⟨fun h4 => ?_, fun h4 => ?_⟩⟩, fun h2 => ?_⟩
    · have := of_decide_eq_true h2; omega
    · have h4' := of_decide_eq_true h4
      have h2' := of_decide_eq_true h2
      refine no ?_
      have : hasPre b [47, 47] = true := by
        simp only [hasPre, Bool.and_eq_true, decide_eq_true_eq]
        exact ⟨by show 2 ≤ b.length; omega, h4'⟩
      rw [hal, this]; rfl
    all_goals
      have hpre : hasPre b [47, 47] = false := by
        first
        | (have h4' := of_decide_eq_false h4
           simp only [hasPre, Bool.and_eq_false_iff, decide_eq_false_iff_not]
           exact .inr h4')
        | (have h2' := of_decide_eq_false h2
           simp only [hasPre, Bool.and_eq_false_iff, decide_eq_false_iff_not]
           exact .inl (by show ¬ 2 ≤ b.length; omega))
      rw [hpre] at hal
      refine loopT Try.wf Try.tab_ok (fun n s' σ => ∃ k : Nat, n = b.length - k ∧ k ≤ b.length ∧ allowed s l = ((b.drop k).all fun c => !badc c) ∧ s' = [(8, .d (.str b)), (9, .d (.int .i64 k))] ∧ σ = ⟨0, []⟩)
        ⟨0, rfl, Nat.zero_le _, by rw [hal]; simp, rfl, rfl⟩ (Mv.of [] rfl rfl rfl trivial ⟨rfl, rfl, trivial⟩) ?_
      rintro _ _ _ ⟨k, rfl, hk, hI, rfl, rfl⟩
      refine ⟨fun h3 => ?_, fun h3 => ?_⟩
      · have hlt : k < b.length := by have := of_decide_eq_true h3; omega
        have hg := getD_at b k hlt
        rw [all_split b k hlt] at hI
        clear h3
        refine ⟨⟨by omega, by omega⟩, ⟨fun a => ⟨⟨by omega, by omega⟩, ⟨fun c => ⟨⟨by omega, by omega⟩, ⟨fun d => ?_, fun d => ?_⟩⟩, fun c => ?_⟩⟩, fun a => ?_⟩⟩
        all_goals
          try simp only [hg, decide_eq_true_eq, decide_eq_false_iff_not] at a
          try simp only [hg, decide_eq_true_eq, decide_eq_false_iff_not] at c
          try simp only [hg, decide_eq_true_eq, decide_eq_false_iff_not] at d
        · exact no (by rw [hI]; simp [badc]; omega)
        · refine .inl ⟨⟨by omega, by omega⟩, _, _, _, ⟨k + 1, rfl, hlt, ?_, rfl, rfl⟩, by omega, Mv.of [] rfl rfl rfl trivial ⟨rfl, rfl, trivial⟩⟩
          have : badc b[k] = false := by simp [badc]; omega
          rw [hI, this]; rfl
        · exact no (by rw [hI]; simp [badc]; omega)
        · exact no (by rw [hI]; simp [badc]; omega)
      · have hk' : k = b.length := by have := of_decide_eq_false h3; omega
        subst hk'
        exact ⟨_, _, FinMove.refl _ _ _, congrArg (fun b => AV.d (.bool b)) (by rw [hI]; simp)⟩
end Go.Proofs.Ytampfnlmojgjgaa
