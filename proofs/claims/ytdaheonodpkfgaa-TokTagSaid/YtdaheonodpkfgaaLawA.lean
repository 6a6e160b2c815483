import Derived.Test.YtdaheonodpkfgaaTokH
import Derived.Test.YtdaheonodpkfgaaDok
namespace Go.Proofs.Ytdaheonodpkfgaa
open Go.Aw
set_option maxHeartbeats 1600000
set_option linter.unusedSimpArgs false
set_option linter.unusedVariables false

theorem tok_get (l : List Tok) (k : Nat) (h : k < l.length) : (toksD l)[k]? = some (tokD l[k]) := by simp [toksD, h]
def awakeT : List Tok := [textT [97], startT [98] true [([99], [49]), ([100], [])], textT [120], endT [98]]
set_option maxRecDepth 100000 in
theorem awakeT_ok : toks [97, 60, 98, 32, 99, 61, 49, 32, 100, 47, 62, 120, 60, 47, 98, 62] = awakeT := by decide +kernel
set_option maxRecDepth 100000 in
theorem awake_ok : PureC Try.prog 11 [] (.d (.bool true)) := by
  have hc1 := Tokens_ok [97, 60, 98, 32, 99, 61, 49, 32, 100, 47, 62, 120, 60, 47, 98, 62] (by decide)
  rw [awakeT_ok] at hc1
  refine pure_okT Try.wf Try.tab_ok Try.func11 (by decide +kernel) rfl rfl rfl rfl ?_
  repeat' (first | refine PureC.use hc1 ?_ |                       refine ⟨fun _ => ?_, fun h => absurd h (by decide)⟩ | refine ⟨fun h => absurd h (by decide), fun _ => ?_⟩ | (refine ⟨fun h => ?_, fun h => ?_⟩ <;> (try simp only [decide_eq_true_eq, decide_eq_false_iff_not, Bool.not_eq_true', Bool.not_eq_false', Bool.not_eq_true, Bool.not_eq_false, not_true_eq_false, beq_iff_eq, beq_eq_false_iff_ne, ne_eq, decide_eq_decide, true_iff, false_iff, iff_true, iff_false, true_and, and_true, false_or, or_false, Bool.and_true, Bool.and_eq_true, Bool.and_eq_false_iff, Bool.or_eq_true, Bool.or_eq_false_iff, List.length_cons, List.length_nil] at h) <;> (try (exfalso; first | omega | exact h rfl | (cases h; done) | exact absurd h (by assumption) | exact h (by assumption) | (simp at h; done)))) | refine ⟨⟨by (first | omega | (simp only [lenS]; omega)), by (first | omega | (simp only [lenS]; omega))⟩, _, by assumption, by rfl, ?_⟩ | refine .inl ⟨⟨by (first | omega | (simp only [lenS]; omega)), by (first | omega | (simp only [lenS]; omega))⟩, ?_⟩ | refine ⟨⟨by (first | omega | (simp only [lenS]; omega)), by (first | omega | (simp only [lenS]; omega))⟩, ?_⟩ | refine ⟨⟨by (first | omega | (simp only [lenS]; omega)), by (first | omega | (simp only [lenS]; omega)), by (first | omega | (simp only [lenS]; omega))⟩, ?_⟩ | refine ⟨.inl rfl, ?_⟩ | refine ⟨.inr (.inl (by (first | omega | (simp only [lenS]; omega)))), ?_⟩ | refine ⟨_, rfl, rfl, by (first | exact Nat.le_refl _ | exact Nat.le_of_ble_eq_true rfl | decide), ?_⟩ | refine ⟨_, rfl, by (first | exact Nat.le_refl _ | exact Nat.le_of_ble_eq_true rfl | decide), ?_⟩ | refine ⟨by (first | exact Nat.le_refl _ | exact Nat.le_of_ble_eq_true rfl | decide | exact rfl), ?_⟩ | refine ⟨show _ ≤ (9223372036854775807 : Nat) by (first | omega | (simp only [lenS]; omega)), ?_⟩ | refine ⟨show _ ≠ (0 : Int) by (first | omega | (simp only [lenS]; omega)), ?_⟩ | refine ⟨_, rfl, _, rfl, ?_⟩ | refine ⟨_, by assumption, Nat.le_of_ble_eq_true rfl, ?_⟩ | refine ⟨_, by assumption, _, rfl, ?_⟩ | refine ⟨_, rfl, ?_⟩ | fail)
  exact ⟨_, _, fin_out rfl, rfl⟩

set_option maxRecDepth 100000 in
theorem TokRaw_ok (s : List UInt8) : PureC Try.prog 4 [.d (.str s)] (.d (.bool true)) := by
  have hc1 := awake_ok
  have hc2 := tRaw_ok s
  have hc3 := rRaw_ok s
  rw [rawV_fst] at hc2 hc3
  generalize rawB s = b1 at *
  generalize (decide (s ∉ raws) && decide (s ∈ softs)) = b2 at *
  refine pure_okT Try.wf Try.tab_ok Try.func4 (by decide +kernel) rfl rfl rfl rfl ?_
  repeat' (first | refine PureC.use hc1 ?_ | refine PureC.use hc2 ?_ | refine PureC.use hc3 ?_ |                     refine ⟨fun _ => ?_, fun h => absurd h (by decide)⟩ | refine ⟨fun h => absurd h (by decide), fun _ => ?_⟩ | (refine ⟨fun h => ?_, fun h => ?_⟩ <;> (try simp only [decide_eq_true_eq, decide_eq_false_iff_not, Bool.not_eq_true', Bool.not_eq_false', Bool.not_eq_true, Bool.not_eq_false, not_true_eq_false, beq_iff_eq, beq_eq_false_iff_ne, ne_eq, decide_eq_decide, true_iff, false_iff, iff_true, iff_false, true_and, and_true, false_or, or_false, Bool.and_true, Bool.and_eq_true, Bool.and_eq_false_iff, Bool.or_eq_true, Bool.or_eq_false_iff, List.length_cons, List.length_nil] at h) <;> (try (exfalso; first | omega | exact h rfl | (cases h; done) | exact absurd h (by assumption) | exact h (by assumption) | (simp at h; done)))) | refine ⟨⟨by (first | omega | (simp only [lenS]; omega)), by (first | omega | (simp only [lenS]; omega))⟩, _, by assumption, by rfl, ?_⟩ | refine .inl ⟨⟨by (first | omega | (simp only [lenS]; omega)), by (first | omega | (simp only [lenS]; omega))⟩, ?_⟩ | refine ⟨⟨by (first | omega | (simp only [lenS]; omega)), by (first | omega | (simp only [lenS]; omega))⟩, ?_⟩ | refine ⟨⟨by (first | omega | (simp only [lenS]; omega)), by (first | omega | (simp only [lenS]; omega)), by (first | omega | (simp only [lenS]; omega))⟩, ?_⟩ | refine ⟨.inl rfl, ?_⟩ | refine ⟨.inr (.inl (by (first | omega | (simp only [lenS]; omega)))), ?_⟩ | refine ⟨_, rfl, rfl, by (first | exact Nat.le_refl _ | exact Nat.le_of_ble_eq_true rfl | decide), ?_⟩ | refine ⟨_, rfl, by (first | exact Nat.le_refl _ | exact Nat.le_of_ble_eq_true rfl | decide), ?_⟩ | refine ⟨by (first | exact Nat.le_refl _ | exact Nat.le_of_ble_eq_true rfl | decide | exact rfl), ?_⟩ | refine ⟨show _ ≤ (9223372036854775807 : Nat) by (first | omega | (simp only [lenS]; omega)), ?_⟩ | refine ⟨show _ ≠ (0 : Int) by (first | omega | (simp only [lenS]; omega)), ?_⟩ | refine ⟨_, rfl, _, rfl, ?_⟩ | refine ⟨_, by assumption, Nat.le_of_ble_eq_true rfl, ?_⟩ | refine ⟨_, by assumption, _, rfl, ?_⟩ | refine ⟨_, rfl, ?_⟩ | fail)
  all_goals exact ⟨_, _, fin_out rfl, congrArg (fun b => AV.d (.bool b)) (by ((          try clear hc1; try clear hc2; try clear hc3;           skip); first | rfl | (subst_vars; rfl) | (simp_all; done) | (simp_all; omega) | (simp_all; grind)))⟩

theorem TokRaw_law {n : Nat} {r : List D} (h : DOk Try.prog n 9 r) : PureC Try.prog 4 [argAV Try.prog 9 r] (.d (.bool true)) := by
  obtain ⟨s, rfl, _⟩ := dok_str h
  rw [arg_str]; exact TokRaw_ok s

end Go.Proofs.Ytdaheonodpkfgaa
