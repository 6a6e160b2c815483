import Derived.Test.YtampfnlmojgjgaaT5
namespace Go.Proofs.Ytampfnlmojgjgaa
open Go.Aw

def stop (c : UInt8) (k : Nat) : Bool := !letter c && (decide (k = 0) || !tailc c)

set_option maxRecDepth 10000 in
theorem rScheme_ok (s : List UInt8) (hs : s.length ≤ 140737488355328) : PureC Try.prog 11 [.d (.str s)] (schemeV s) := by
  refine pure_okT Try.wf Try.tab_ok Try.func11 (by decide +kernel) rfl rfl rfl rfl ?_
  refine PureC.use (rBare_ok s (by omega)) (PureC.use (rLower_ok (bare s) (by have := bare_len s; omega)) ?_)
  generalize hb : lower (bare s) = b
  have hO : schemeO s = scan [] b := by rw [schemeO, hb]
  have hbl : b.length ≤ 140737488355328 := by rw [← hb, lower_len]; have := bare_len s; omega
  refine loopE (fun n s' σ => ∃ k : Nat, n = b.length - k ∧ k ≤ b.length ∧ schemeO s = scan (b.take k) (b.drop k) ∧ s' = [(4, .d (.str b)), (5, .d (.int .i64 k))] ∧ σ = ⟨0, []⟩)
    ⟨0, rfl, Nat.zero_le _, hO, rfl, rfl⟩ (Mv.of [] rfl rfl rfl trivial ⟨rfl, rfl, trivial⟩) ?_
  rintro _ _ _ ⟨k, rfl, hk, hI, rfl, rfl⟩
  have no : schemeO s = none → ∃ r2 σ2, FinMove ⟨0, []⟩ (.tup [.d (.str []), .d (.bool false)]) ⟨0, []⟩ r2 σ2 ∧ r2 = schemeV s := fun h => ⟨_, _, FinMove.refl _ _ _, (schemeV_none h).symm⟩
  refine E.seq (E.of Try.wf Try.tab_ok ?_)
  refine ⟨fun h => ?_, fun h => ?_⟩
  · have hlt : k < b.length := by have := of_decide_eq_true h; omega
    have hg := getD_at b k hlt
    have hu := b[k].toNat_lt
    rw [scan_at b k hlt] at hI
    clear h
    refine E.seq (blockE ?_)
    refine E.seq (E.of Try.wf Try.tab_ok ?_)
    refine ⟨⟨by omega, by omega⟩, ?_⟩
    refine midT Try.wf Try.tab_ok (fun s' σ => s' = [(4, .d (.str b)), (5, .d (.int .i64 k)), (6, .d (.int .u8 b[k].toNat)), (7, .d (.bool (letter b[k])))] ∧ σ = ⟨0, []⟩) ?_ ?_
    · refine ⟨fun h1 => ?_, fun h1 => ?_⟩
      · rw [hg] at h1
        have := of_decide_eq_true h1
        refine ⟨_, _, ⟨rfl, rfl⟩, Mv.of [] rfl rfl rfl trivial ⟨rfl, rfl, congrArg (fun x : UInt8 => D.int .u8 x.toNat) hg.symm, congrArg D.bool (Bool.eq_iff_iff.2 ?_), trivial⟩⟩
        rw [hg]; simp [letter]; omega
      · rw [hg] at h1
        have := of_decide_eq_false h1
        refine ⟨_, _, ⟨rfl, rfl⟩, Mv.of [] rfl rfl rfl trivial ⟨rfl, rfl, congrArg (fun x : UInt8 => D.int .u8 x.toNat) hg.symm, congrArg D.bool ?_, trivial⟩⟩
        simp [letter]; omega
    rintro _ _ ⟨rfl, rfl⟩
    refine midT Try.wf Try.tab_ok (fun s' σ => ¬ (b[k].toNat = 58 ∧ 0 < k) ∧ s' = [(4, .d (.str b)), (5, .d (.int .i64 k)), (6, .d (.int .u8 b[k].toNat)), (7, .d (.bool (letter b[k])))] ∧ σ = ⟨0, []⟩) ?_ ?_
    · refine ⟨fun h1 => ⟨fun h2 => ?_, fun h2 => ?_⟩, fun h1 => ?_⟩
      · have h1' := of_decide_eq_true h1
        have h2' := of_decide_eq_true h2
        have hr : schemeO s = some (b.take k) := by rw [hI, if_neg (by simp [letter]; omega), if_neg (by omega), if_pos (by omega)]
        exact ⟨⟨by omega, by omega, by omega⟩, _, _, FinMove.refl _ _ _, (schemeV_some hr).symm⟩
      · have h2' := of_decide_eq_false h2
        exact ⟨_, _, ⟨by omega, rfl, rfl⟩, Mv.of [] rfl rfl rfl trivial ⟨rfl, rfl, rfl, rfl, trivial⟩⟩
      · have h1' := of_decide_eq_false h1
        exact ⟨_, _, ⟨by omega, rfl, rfl⟩, Mv.of [] rfl rfl rfl trivial ⟨rfl, rfl, rfl, rfl, trivial⟩⟩
    rintro _ _ ⟨hn, rfl, rfl⟩
    refine midK Try.wf Try.tab_ok (fun s' σ => s' = [(4, .d (.str b)), (5, .d (.int .i64 k)), (61, .d (.bool (stop b[k] k)))] ∧ σ = ⟨0, []⟩) ?_ ?_
    · intro K' _ hK
      refine ⟨fun n => ⟨fun z => ⟨fun d48 => ⟨fun d57 => ⟨fun e43 => ⟨fun e45 => ?_, fun e45 => ?_⟩, fun e43 => ?_⟩, fun d57 => ?_⟩, fun d48 => ⟨fun e43 => ⟨fun e45 => ?_, fun e45 => ?_⟩, fun e43 => ?_⟩⟩, fun z => ?_⟩, fun n => ?_⟩
      all_goals
        simp only [Bool.not_eq_true', Bool.not_eq_false', Bool.not_eq_eq_eq_not, Bool.not_true, Bool.not_false] at n
        try simp only [decide_eq_true_eq, decide_eq_false_iff_not] at z
        try simp only [decide_eq_true_eq, decide_eq_false_iff_not] at d48
        try simp only [decide_eq_true_eq, decide_eq_false_iff_not, Bool.not_eq_true', Bool.not_eq_false', Bool.not_eq_eq_eq_not, Bool.not_true, Bool.not_false] at d57
        try simp only [decide_eq_true_eq, decide_eq_false_iff_not, Bool.not_eq_true', Bool.not_eq_false', Bool.not_eq_eq_eq_not, Bool.not_true, Bool.not_false] at e43
        try simp only [decide_eq_true_eq, decide_eq_false_iff_not, Bool.not_eq_true', Bool.not_eq_false', Bool.not_eq_eq_eq_not, Bool.not_true, Bool.not_false] at e45
        refine hK _ _ _ _ ⟨rfl, rfl⟩ (Mv.of [] rfl rfl rfl trivial ⟨rfl, rfl, congrArg D.bool (Bool.eq_iff_iff.2 ?_), trivial⟩)
        simp [stop, tailc, n]
        try omega
    rintro _ _ ⟨rfl, rfl⟩
    refine E.of Try.wf Try.tab_ok ?_
    refine ⟨fun h => ?_, fun h => ?_⟩
    · refine no ?_
      simp only [stop, Bool.and_eq_true, Bool.or_eq_true, Bool.not_eq_true', decide_eq_true_eq] at h
      rw [hI, h.1, if_neg (by simp)]
      rcases h.2 with h2 | h2
      · rw [if_pos h2]
      · by_cases hk0 : k = 0
        · rw [if_pos hk0]
        · rw [if_neg hk0, if_neg (by omega), h2, if_neg (by simp)]
    · have hnx : schemeO s = scan (b.take (k + 1)) (b.drop (k + 1)) := by
        rw [hI]
        cases hl : letter b[k] with
        | true => rfl
        | false =>
          simp only [stop, hl, Bool.not_false, Bool.true_and, Bool.or_eq_false_iff, Bool.not_eq_false', decide_eq_false_iff_not] at h
          rw [if_neg (by simp), if_neg h.1, if_neg (by omega), h.2, if_pos rfl]
      refine E.of Try.wf Try.tab_ok ?_
      exact .inl ⟨⟨by omega, by omega⟩, _, _, _, ⟨k + 1, rfl, hlt, hnx, rfl, rfl⟩, by omega, Mv.of [] rfl rfl rfl trivial ⟨rfl, rfl, trivial⟩⟩
  · have hk' : k = b.length := by have := of_decide_eq_false h; omega
    subst hk'
    exact no (hI.trans (scan_end b))
end Go.Proofs.Ytampfnlmojgjgaa
