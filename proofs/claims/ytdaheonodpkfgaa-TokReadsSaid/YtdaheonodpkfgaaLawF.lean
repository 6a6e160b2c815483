import Derived.Test.YtdaheonodpkfgaaLawA
import Derived.Test.YtdaheonodpkfgaaTokL
import Derived.Test.YtdaheonodpkfgaaTokS
import Derived.Test.YtdaheonodpkfgaaTokW
namespace Go.Proofs.Ytdaheonodpkfgaa
open Go.Aw
set_option maxHeartbeats 1600000
set_option linter.unusedSimpArgs false
set_option linter.unusedVariables false

set_option maxRecDepth 100000 in
theorem TokReads_ok (s : List UInt8) : PureC Try.prog 3 [.d (.str s)] (.d (.bool true)) := by
  have hc1 := awake_ok
  by_cases hl : s.length ≤ 2000
  · have hc2 := Tokens_ok s (by omega)
    have hc3 := rTokens_ok s (by omega)
    have t1 := toks_len _ s (Nat.le_refl _)
    have hc4 := Same_ok (toks s) (toks s) (by omega) (by omega) (fun t ht => by have := toks_ats _ _ (Nat.le_refl _) t ht; omega) (fun t ht => by have := toks_ats _ _ (Nat.le_refl _) t ht; omega)
    rw [decide_eq_true rfl] at hc4
    refine pure_okT Try.wf Try.tab_ok Try.func3 (by decide +kernel) rfl rfl rfl rfl ?_
    repeat' (first | refine PureC.use hc1 ?_ | refine PureC.use hc2 ?_ | refine PureC.use hc3 ?_ | refine PureC.use hc4 ?_ |                    refine ⟨fun _ => ?_, fun h => absurd h (by decide)⟩ | refine ⟨fun h => absurd h (by decide), fun _ => ?_⟩ | (refine ⟨fun h => ?_, fun h => ?_⟩ <;> (try simp only [decide_eq_true_eq, decide_eq_false_iff_not, Bool.not_eq_true', Bool.not_eq_false', Bool.not_eq_true, Bool.not_eq_false, not_true_eq_false, beq_iff_eq, beq_eq_false_iff_ne, ne_eq, decide_eq_decide, true_iff, false_iff, iff_true, iff_false, true_and, and_true, false_or, or_false, Bool.and_true, Bool.and_eq_true, Bool.and_eq_false_iff, Bool.or_eq_true, Bool.or_eq_false_iff, List.length_cons, List.length_nil] at h) <;> (try (exfalso; first | omega | exact h rfl | (cases h; done) | exact absurd h (by assumption) | exact h (by assumption) | (simp at h; done)))) | refine ⟨⟨by (first | omega | (simp only [lenS]; omega)), by (first | omega | (simp only [lenS]; omega))⟩, _, by assumption, by rfl, ?_⟩ | refine .inl ⟨⟨by (first | omega | (simp only [lenS]; omega)), by (first | omega | (simp only [lenS]; omega))⟩, ?_⟩ | refine ⟨⟨by (first | omega | (simp only [lenS]; omega)), by (first | omega | (simp only [lenS]; omega))⟩, ?_⟩ | refine ⟨⟨by (first | omega | (simp only [lenS]; omega)), by (first | omega | (simp only [lenS]; omega)), by (first | omega | (simp only [lenS]; omega))⟩, ?_⟩ | refine ⟨.inl rfl, ?_⟩ | refine ⟨.inr (.inl (by (first | omega | (simp only [lenS]; omega)))), ?_⟩ | refine ⟨_, rfl, rfl, by (first | exact Nat.le_refl _ | exact Nat.le_of_ble_eq_true rfl | decide), ?_⟩ | refine ⟨_, rfl, by (first | exact Nat.le_refl _ | exact Nat.le_of_ble_eq_true rfl | decide), ?_⟩ | refine ⟨by (first | exact Nat.le_refl _ | exact Nat.le_of_ble_eq_true rfl | decide | exact rfl), ?_⟩ | refine ⟨show _ ≤ (9223372036854775807 : Nat) by (first | omega | (simp only [lenS]; omega)), ?_⟩ | refine ⟨show _ ≠ (0 : Int) by (first | omega | (simp only [lenS]; omega)), ?_⟩ | refine ⟨_, rfl, _, rfl, ?_⟩ | refine ⟨_, by assumption, Nat.le_of_ble_eq_true rfl, ?_⟩ | refine ⟨_, by assumption, _, rfl, ?_⟩ | refine ⟨_, rfl, ?_⟩ | fail)
    all_goals exact ⟨_, _, fin_out rfl, rfl⟩
  · refine pure_okT Try.wf Try.tab_ok Try.func3 (by decide +kernel) rfl rfl rfl rfl ?_
    repeat' (first | refine PureC.use hc1 ?_ | refine PureC.use hc2 ?_ | refine PureC.use hc3 ?_ | refine PureC.use hc4 ?_ |                    refine ⟨fun _ => ?_, fun h => absurd h (by decide)⟩ | refine ⟨fun h => absurd h (by decide), fun _ => ?_⟩ | (refine ⟨fun h => ?_, fun h => ?_⟩ <;> (try simp only [decide_eq_true_eq, decide_eq_false_iff_not, Bool.not_eq_true', Bool.not_eq_false', Bool.not_eq_true, Bool.not_eq_false, not_true_eq_false, beq_iff_eq, beq_eq_false_iff_ne, ne_eq, decide_eq_decide, true_iff, false_iff, iff_true, iff_false, true_and, and_true, false_or, or_false, Bool.and_true, Bool.and_eq_true, Bool.and_eq_false_iff, Bool.or_eq_true, Bool.or_eq_false_iff, List.length_cons, List.length_nil] at h) <;> (try (exfalso; first | omega | exact h rfl | (cases h; done) | exact absurd h (by assumption) | exact h (by assumption) | (simp at h; done)))) | refine ⟨⟨by (first | omega | (simp only [lenS]; omega)), by (first | omega | (simp only [lenS]; omega))⟩, _, by assumption, by rfl, ?_⟩ | refine .inl ⟨⟨by (first | omega | (simp only [lenS]; omega)), by (first | omega | (simp only [lenS]; omega))⟩, ?_⟩ | refine ⟨⟨by (first | omega | (simp only [lenS]; omega)), by (first | omega | (simp only [lenS]; omega))⟩, ?_⟩ | refine ⟨⟨by (first | omega | (simp only [lenS]; omega)), by (first | omega | (simp only [lenS]; omega)), by (first | omega | (simp only [lenS]; omega))⟩, ?_⟩ | refine ⟨.inl rfl, ?_⟩ | refine ⟨.inr (.inl (by (first | omega | (simp only [lenS]; omega)))), ?_⟩ | refine ⟨_, rfl, rfl, by (first | exact Nat.le_refl _ | exact Nat.le_of_ble_eq_true rfl | decide), ?_⟩ | refine ⟨_, rfl, by (first | exact Nat.le_refl _ | exact Nat.le_of_ble_eq_true rfl | decide), ?_⟩ | refine ⟨by (first | exact Nat.le_refl _ | exact Nat.le_of_ble_eq_true rfl | decide | exact rfl), ?_⟩ | refine ⟨show _ ≤ (9223372036854775807 : Nat) by (first | omega | (simp only [lenS]; omega)), ?_⟩ | refine ⟨show _ ≠ (0 : Int) by (first | omega | (simp only [lenS]; omega)), ?_⟩ | refine ⟨_, rfl, _, rfl, ?_⟩ | refine ⟨_, by assumption, Nat.le_of_ble_eq_true rfl, ?_⟩ | refine ⟨_, by assumption, _, rfl, ?_⟩ | refine ⟨_, rfl, ?_⟩ | fail)
    all_goals exact ⟨_, _, fin_out rfl, rfl⟩
theorem TokReads_law {n : Nat} {r : List D} (h : DOk Try.prog n 9 r) : PureC Try.prog 3 [argAV Try.prog 9 r] (.d (.bool true)) := by
  obtain ⟨s, rfl, _⟩ := dok_str h
  rw [arg_str]; exact TokReads_ok s

end Go.Proofs.Ytdaheonodpkfgaa
