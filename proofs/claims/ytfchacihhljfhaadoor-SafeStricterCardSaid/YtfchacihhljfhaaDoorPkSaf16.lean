/- What is proved here serves the claim: the walk over the code and the plain laws, part 16 of 16. -/
import Derived.Test.YtfchacihhljfhaaDoorPkSaf15
namespace Go.Proofs.YtfchacihhljfhaaDoor
open Go.Aw
set_option maxHeartbeats 1600000
set_option linter.unusedSimpArgs false
set_option linter.unusedVariables false
mutual
def FitN : Node → Prop
  | .mk nm a t k => FitsN (.mk nm a t k) ∧ FitL k
def FitL : List Node → Prop
  | [] => True
  | n :: r => FitN n ∧ FitL r
end
theorem FitN_eq (n : Node) : FitN n ↔ (FitsN n ∧ FitL n.kids) := by cases n; unfold FitN; exact Iff.rfl
theorem FitL_mem : ∀ {l : List Node}, FitL l → ∀ n ∈ l, FitsN n ∧ FitL n.kids
  | [], _, n, hn => by cases hn
  | m :: r, h, n, hn => by
    rw [FitL] at h
    rcases List.mem_cons.1 hn with rfl | hn
    · exact (FitN_eq _).1 h.1
    · exact FitL_mem h.2 n hn
def sS (p : Pol) : Store := ⟨2, [(1, .rows (1, 52) [[.fn (.func 32) [] [.ref 0 0 0, .ref 1 0 0]]]), (0, .rows (9, 24) [(polD p).map .d])]⟩
set_option maxRecDepth 100000 in
set_option maxHeartbeats 2000000 in
theorem sinner_ok (p : Pol) (hp : Fits p) (N : Nat) : ∀ l : List Node, szL l ≤ N → N ≤ 1000000000 → FitL l → CallsAbs Tryd.prog 32 [.d (.sl (nodesD l)), .ref 0 0 0, .ref 1 0 0] (sS p) fun r σ' => r = .d (.bool (innL p l)) ∧ σ' = sS p := by
  induction N using Nat.strongRecOn with
  | ind N ih =>
  intro l hN hB hF
  rw [innL_all]
  have hn := nodesD_len l
  have hlen := sz_len l
  refine fn_okT Tryd.wf Tryd.tab_ok Tryd.func32 (by decide +kernel) rfl rfl ?_
  repeat' (first | refine PureC.use hc1 ?_ |                       refine ⟨fun _ => ?_, fun h => absurd h (by decide)⟩ | refine ⟨fun h => absurd h (by decide), fun _ => ?_⟩ | (refine ⟨fun h => ?_, fun h => ?_⟩ <;> (try simp only [decide_eq_true_eq, decide_eq_false_iff_not, Bool.not_eq_true', Bool.not_eq_false', Bool.not_eq_true, Bool.not_eq_false, not_true_eq_false, beq_iff_eq, beq_eq_false_iff_ne, ne_eq, decide_eq_decide, true_iff, false_iff, iff_true, iff_false, true_and, and_true, false_or, or_false, Bool.and_true, Bool.and_eq_true, Bool.and_eq_false_iff, Bool.or_eq_true, Bool.or_eq_false_iff, List.length_cons, List.length_nil] at h) <;> (try (exfalso; first | omega | exact h rfl | (cases h; done) | exact absurd h (by assumption) | exact h (by assumption) | (simp at h; done)))) | refine ⟨⟨by (first | omega | (simp only [lenS]; omega)), by (first | omega | (simp only [lenS]; omega))⟩, _, by assumption, by rfl, ?_⟩ | refine .inl ⟨⟨by (first | omega | (simp only [lenS]; omega)), by (first | omega | (simp only [lenS]; omega))⟩, ?_⟩ | refine ⟨⟨by (first | omega | (simp only [lenS]; omega)), by (first | omega | (simp only [lenS]; omega))⟩, ?_⟩ | refine ⟨⟨by (first | omega | (simp only [lenS]; omega)), by (first | omega | (simp only [lenS]; omega)), by (first | omega | (simp only [lenS]; omega))⟩, ?_⟩ | refine ⟨.inl rfl, ?_⟩ | refine ⟨.inr (.inl (by (first | omega | (simp only [lenS]; omega)))), ?_⟩ | refine ⟨_, rfl, rfl, by (first | exact Nat.le_refl _ | exact Nat.le_of_ble_eq_true rfl | decide), ?_⟩ | refine ⟨_, rfl, by (first | exact Nat.le_refl _ | exact Nat.le_of_ble_eq_true rfl | decide), ?_⟩ | refine ⟨by (first | exact Nat.le_refl _ | exact Nat.le_of_ble_eq_true rfl | decide | exact rfl), ?_⟩ | refine ⟨show _ ≤ (9223372036854775807 : Nat) by (first | omega | (simp only [lenS]; omega)), ?_⟩ | refine ⟨show _ ≠ (0 : Int) by (first | omega | (simp only [lenS]; omega)), ?_⟩ | refine ⟨_, rfl, _, rfl, ?_⟩ | refine ⟨_, by assumption, Nat.le_of_ble_eq_true rfl, ?_⟩ | refine ⟨_, by assumption, _, rfl, ?_⟩ | refine ⟨_, rfl, ?_⟩ | fail)
  refine loopT Tryd.wf Tryd.tab_ok (fun m s' σ => ∃ k : Nat, m = l.length - k ∧ k ≤ l.length ∧ (l.take k).all (innN p) = true ∧ s' = [(1, .ref 0 0 0), (2, .ref 1 0 0), (7, .d (.sl (nodesD l))), (8, .d (.int .i64 l.length)), (9, .d (.int .i64 k))] ∧ σ = sS p)
    ⟨0, rfl, Nat.zero_le _, rfl, rfl, rfl⟩ (Mv.of [] rfl rfl rfl ⟨⟨rfl, .inr ⟨⟨⟨rfl, trivial, ⟨rfl, rfl, rfl⟩, ⟨rfl, rfl, rfl⟩, trivial⟩, trivial⟩, trivial⟩⟩, ⟨rfl, .inl ⟨rfl, fun row h => by rw [List.mem_singleton.1 h]; rfl⟩⟩, trivial⟩ ⟨⟨rfl, rfl, rfl⟩, ⟨rfl, rfl, rfl⟩, rfl, congrArg (fun n : Nat => D.int .i64 n) hn.symm, rfl, trivial⟩) ?_
  rintro _ _ _ ⟨k, rfl, hk, hI, rfl, rfl⟩
  by_cases hlt : k < l.length
  · have hg := nodesD_get l k hlt
    have hkl := kids_lt (List.getElem_mem hlt)
    have hfn := FitL_mem hF _ (List.getElem_mem hlt)
    have hc1 := element_ok p l[k] hp hfn.1
    have hik := ih (szL l[k].kids) (by omega) l[k].kids (Nat.le_refl _) (by omega) hfn.2
    have hal := all_take (innN p) l k hlt
    have hno := all_no (innN p) l k hlt
    rw [hI, Bool.true_and] at hal
    have hie := innN_eq p l[k]
    unfold nodeA at hc1
    generalize innN p l[k] = b at *
    by_cases h0 : l[k].name = []
    · rw [decide_eq_true h0, Bool.true_or] at hie
      rw [hie] at hal
      repeat' (first | refine PureC.use hc1 ?_ |                       refine ⟨fun _ => ?_, fun h => absurd h (by decide)⟩ | refine ⟨fun h => absurd h (by decide), fun _ => ?_⟩ | (refine ⟨fun h => ?_, fun h => ?_⟩ <;> (try simp only [decide_eq_true_eq, decide_eq_false_iff_not, Bool.not_eq_true', Bool.not_eq_false', Bool.not_eq_true, Bool.not_eq_false, not_true_eq_false, beq_iff_eq, beq_eq_false_iff_ne, ne_eq, decide_eq_decide, true_iff, false_iff, iff_true, iff_false, true_and, and_true, false_or, or_false, Bool.and_true, Bool.and_eq_true, Bool.and_eq_false_iff, Bool.or_eq_true, Bool.or_eq_false_iff, List.length_cons, List.length_nil] at h) <;> (try (exfalso; first | omega | exact h rfl | (cases h; done) | exact absurd h (by assumption) | exact h (by assumption) | (simp at h; done)))) | refine ⟨⟨by (first | omega | (simp only [lenS]; omega)), by (first | omega | (simp only [lenS]; omega))⟩, _, by assumption, by rfl, ?_⟩ | refine .inl ⟨⟨by (first | omega | (simp only [lenS]; omega)), by (first | omega | (simp only [lenS]; omega))⟩, ?_⟩ | refine ⟨⟨by (first | omega | (simp only [lenS]; omega)), by (first | omega | (simp only [lenS]; omega))⟩, ?_⟩ | refine ⟨⟨by (first | omega | (simp only [lenS]; omega)), by (first | omega | (simp only [lenS]; omega)), by (first | omega | (simp only [lenS]; omega))⟩, ?_⟩ | refine ⟨.inl rfl, ?_⟩ | refine ⟨.inr (.inl (by (first | omega | (simp only [lenS]; omega)))), ?_⟩ | refine ⟨_, rfl, rfl, by (first | exact Nat.le_refl _ | exact Nat.le_of_ble_eq_true rfl | decide), ?_⟩ | refine ⟨_, rfl, by (first | exact Nat.le_refl _ | exact Nat.le_of_ble_eq_true rfl | decide), ?_⟩ | refine ⟨by (first | exact Nat.le_refl _ | exact Nat.le_of_ble_eq_true rfl | decide | exact rfl), ?_⟩ | refine ⟨show _ ≤ (9223372036854775807 : Nat) by (first | omega | (simp only [lenS]; omega)), ?_⟩ | refine ⟨show _ ≠ (0 : Int) by (first | omega | (simp only [lenS]; omega)), ?_⟩ | refine ⟨_, rfl, _, rfl, ?_⟩ | refine ⟨_, by assumption, Nat.le_of_ble_eq_true rfl, ?_⟩ | refine ⟨_, by assumption, _, rfl, ?_⟩ | refine ⟨_, rfl, ?_⟩ | fail)
      exact ⟨_, _, _, ⟨k + 1, rfl, hlt, hal, rfl, rfl⟩, by omega, Mv.of [] rfl rfl rfl ⟨⟨rfl, .inr ⟨⟨⟨rfl, trivial, ⟨rfl, rfl, rfl⟩, ⟨rfl, rfl, rfl⟩, trivial⟩, trivial⟩, trivial⟩⟩, ⟨rfl, .inl ⟨rfl, fun row h => by rw [List.mem_singleton.1 h]; rfl⟩⟩, trivial⟩ ⟨⟨rfl, rfl, rfl⟩, ⟨rfl, rfl, rfl⟩, rfl, rfl, rfl, trivial⟩⟩
    · rw [decide_eq_false h0, Bool.false_or] at hie
      cases he : elemP p l[k] with
      | false =>
        rw [he] at hc1
        rw [he, Bool.false_and] at hie
        repeat' (first | refine PureC.use hc1 ?_ |                       refine ⟨fun _ => ?_, fun h => absurd h (by decide)⟩ | refine ⟨fun h => absurd h (by decide), fun _ => ?_⟩ | (refine ⟨fun h => ?_, fun h => ?_⟩ <;> (try simp only [decide_eq_true_eq, decide_eq_false_iff_not, Bool.not_eq_true', Bool.not_eq_false', Bool.not_eq_true, Bool.not_eq_false, not_true_eq_false, beq_iff_eq, beq_eq_false_iff_ne, ne_eq, decide_eq_decide, true_iff, false_iff, iff_true, iff_false, true_and, and_true, false_or, or_false, Bool.and_true, Bool.and_eq_true, Bool.and_eq_false_iff, Bool.or_eq_true, Bool.or_eq_false_iff, List.length_cons, List.length_nil] at h) <;> (try (exfalso; first | omega | exact h rfl | (cases h; done) | exact absurd h (by assumption) | exact h (by assumption) | (simp at h; done)))) | refine ⟨⟨by (first | omega | (simp only [lenS]; omega)), by (first | omega | (simp only [lenS]; omega))⟩, _, by assumption, by rfl, ?_⟩ | refine .inl ⟨⟨by (first | omega | (simp only [lenS]; omega)), by (first | omega | (simp only [lenS]; omega))⟩, ?_⟩ | refine ⟨⟨by (first | omega | (simp only [lenS]; omega)), by (first | omega | (simp only [lenS]; omega))⟩, ?_⟩ | refine ⟨⟨by (first | omega | (simp only [lenS]; omega)), by (first | omega | (simp only [lenS]; omega)), by (first | omega | (simp only [lenS]; omega))⟩, ?_⟩ | refine ⟨.inl rfl, ?_⟩ | refine ⟨.inr (.inl (by (first | omega | (simp only [lenS]; omega)))), ?_⟩ | refine ⟨_, rfl, rfl, by (first | exact Nat.le_refl _ | exact Nat.le_of_ble_eq_true rfl | decide), ?_⟩ | refine ⟨_, rfl, by (first | exact Nat.le_refl _ | exact Nat.le_of_ble_eq_true rfl | decide), ?_⟩ | refine ⟨by (first | exact Nat.le_refl _ | exact Nat.le_of_ble_eq_true rfl | decide | exact rfl), ?_⟩ | refine ⟨show _ ≤ (9223372036854775807 : Nat) by (first | omega | (simp only [lenS]; omega)), ?_⟩ | refine ⟨show _ ≠ (0 : Int) by (first | omega | (simp only [lenS]; omega)), ?_⟩ | refine ⟨_, rfl, _, rfl, ?_⟩ | refine ⟨_, by assumption, Nat.le_of_ble_eq_true rfl, ?_⟩ | refine ⟨_, by assumption, _, rfl, ?_⟩ | refine ⟨_, rfl, ?_⟩ | fail)
        exact ⟨.d (.bool false), sS p, fin_mv [] rfl rfl rfl ⟨⟨rfl, .inr ⟨⟨⟨rfl, trivial, ⟨rfl, rfl, rfl⟩, ⟨rfl, rfl, rfl⟩, trivial⟩, trivial⟩, trivial⟩⟩, ⟨rfl, .inl ⟨rfl, fun row h => by rw [List.mem_singleton.1 h]; rfl⟩⟩, trivial⟩ rfl, congrArg (fun b => AV.d (.bool b)) (hno hie).symm, rfl⟩
      | true =>
        rw [he] at hc1
        rw [he, Bool.true_and] at hie
        repeat' (first | refine PureC.use hc1 ?_ |                       refine ⟨fun _ => ?_, fun h => absurd h (by decide)⟩ | refine ⟨fun h => absurd h (by decide), fun _ => ?_⟩ | (refine ⟨fun h => ?_, fun h => ?_⟩ <;> (try simp only [decide_eq_true_eq, decide_eq_false_iff_not, Bool.not_eq_true', Bool.not_eq_false', Bool.not_eq_true, Bool.not_eq_false, not_true_eq_false, beq_iff_eq, beq_eq_false_iff_ne, ne_eq, decide_eq_decide, true_iff, false_iff, iff_true, iff_false, true_and, and_true, false_or, or_false, Bool.and_true, Bool.and_eq_true, Bool.and_eq_false_iff, Bool.or_eq_true, Bool.or_eq_false_iff, List.length_cons, List.length_nil] at h) <;> (try (exfalso; first | omega | exact h rfl | (cases h; done) | exact absurd h (by assumption) | exact h (by assumption) | (simp at h; done)))) | refine ⟨⟨by (first | omega | (simp only [lenS]; omega)), by (first | omega | (simp only [lenS]; omega))⟩, _, by assumption, by rfl, ?_⟩ | refine .inl ⟨⟨by (first | omega | (simp only [lenS]; omega)), by (first | omega | (simp only [lenS]; omega))⟩, ?_⟩ | refine ⟨⟨by (first | omega | (simp only [lenS]; omega)), by (first | omega | (simp only [lenS]; omega))⟩, ?_⟩ | refine ⟨⟨by (first | omega | (simp only [lenS]; omega)), by (first | omega | (simp only [lenS]; omega)), by (first | omega | (simp only [lenS]; omega))⟩, ?_⟩ | refine ⟨.inl rfl, ?_⟩ | refine ⟨.inr (.inl (by (first | omega | (simp only [lenS]; omega)))), ?_⟩ | refine ⟨_, rfl, rfl, by (first | exact Nat.le_refl _ | exact Nat.le_of_ble_eq_true rfl | decide), ?_⟩ | refine ⟨_, rfl, by (first | exact Nat.le_refl _ | exact Nat.le_of_ble_eq_true rfl | decide), ?_⟩ | refine ⟨by (first | exact Nat.le_refl _ | exact Nat.le_of_ble_eq_true rfl | decide | exact rfl), ?_⟩ | refine ⟨show _ ≤ (9223372036854775807 : Nat) by (first | omega | (simp only [lenS]; omega)), ?_⟩ | refine ⟨show _ ≠ (0 : Int) by (first | omega | (simp only [lenS]; omega)), ?_⟩ | refine ⟨_, rfl, _, rfl, ?_⟩ | refine ⟨_, by assumption, Nat.le_of_ble_eq_true rfl, ?_⟩ | refine ⟨_, by assumption, _, rfl, ?_⟩ | refine ⟨_, rfl, ?_⟩ | fail)
        refine CallsAbs.frame hik [.old 0, .old 1] ⟨Nat.zero_le _, rfl, rfl, ⟨⟨rfl, .inr ⟨⟨⟨rfl, trivial, ⟨rfl, rfl, rfl⟩, ⟨rfl, rfl, rfl⟩, trivial⟩, trivial⟩, trivial⟩⟩, ⟨rfl, .inl ⟨rfl, fun row h => by rw [List.mem_singleton.1 h]; rfl⟩⟩, trivial⟩⟩ ⟨rfl, ⟨rfl, rfl, rfl⟩, ⟨rfl, rfl, rfl⟩, trivial⟩ ?_
        rintro _ _ ⟨rfl, rfl⟩
        refine ⟨.d (.bool (innL p l[k].kids)), (sS p).objs, ⟨⟨rfl, .inr ⟨⟨⟨rfl, trivial, ⟨rfl, rfl, rfl⟩, ⟨rfl, rfl, rfl⟩, trivial⟩, trivial⟩, trivial⟩⟩, ⟨rfl, .inl ⟨rfl, fun row h => by rw [List.mem_singleton.1 h]; rfl⟩⟩, trivial⟩, rfl, rfl, ?_⟩
        rw [← hie]
        cases b with
        | false =>
          repeat' (first | refine PureC.use hc1 ?_ |                       refine ⟨fun _ => ?_, fun h => absurd h (by decide)⟩ | refine ⟨fun h => absurd h (by decide), fun _ => ?_⟩ | (refine ⟨fun h => ?_, fun h => ?_⟩ <;> (try simp only [decide_eq_true_eq, decide_eq_false_iff_not, Bool.not_eq_true', Bool.not_eq_false', Bool.not_eq_true, Bool.not_eq_false, not_true_eq_false, beq_iff_eq, beq_eq_false_iff_ne, ne_eq, decide_eq_decide, true_iff, false_iff, iff_true, iff_false, true_and, and_true, false_or, or_false, Bool.and_true, Bool.and_eq_true, Bool.and_eq_false_iff, Bool.or_eq_true, Bool.or_eq_false_iff, List.length_cons, List.length_nil] at h) <;> (try (exfalso; first | omega | exact h rfl | (cases h; done) | exact absurd h (by assumption) | exact h (by assumption) | (simp at h; done)))) | refine ⟨⟨by (first | omega | (simp only [lenS]; omega)), by (first | omega | (simp only [lenS]; omega))⟩, _, by assumption, by rfl, ?_⟩ | refine .inl ⟨⟨by (first | omega | (simp only [lenS]; omega)), by (first | omega | (simp only [lenS]; omega))⟩, ?_⟩ | refine ⟨⟨by (first | omega | (simp only [lenS]; omega)), by (first | omega | (simp only [lenS]; omega))⟩, ?_⟩ | refine ⟨⟨by (first | omega | (simp only [lenS]; omega)), by (first | omega | (simp only [lenS]; omega)), by (first | omega | (simp only [lenS]; omega))⟩, ?_⟩ | refine ⟨.inl rfl, ?_⟩ | refine ⟨.inr (.inl (by (first | omega | (simp only [lenS]; omega)))), ?_⟩ | refine ⟨_, rfl, rfl, by (first | exact Nat.le_refl _ | exact Nat.le_of_ble_eq_true rfl | decide), ?_⟩ | refine ⟨_, rfl, by (first | exact Nat.le_refl _ | exact Nat.le_of_ble_eq_true rfl | decide), ?_⟩ | refine ⟨by (first | exact Nat.le_refl _ | exact Nat.le_of_ble_eq_true rfl | decide | exact rfl), ?_⟩ | refine ⟨show _ ≤ (9223372036854775807 : Nat) by (first | omega | (simp only [lenS]; omega)), ?_⟩ | refine ⟨show _ ≠ (0 : Int) by (first | omega | (simp only [lenS]; omega)), ?_⟩ | refine ⟨_, rfl, _, rfl, ?_⟩ | refine ⟨_, by assumption, Nat.le_of_ble_eq_true rfl, ?_⟩ | refine ⟨_, by assumption, _, rfl, ?_⟩ | refine ⟨_, rfl, ?_⟩ | fail)
          exact ⟨.d (.bool false), sS p, fin_mv [] rfl rfl rfl ⟨⟨rfl, .inr ⟨⟨⟨rfl, trivial, ⟨rfl, rfl, rfl⟩, ⟨rfl, rfl, rfl⟩, trivial⟩, trivial⟩, trivial⟩⟩, ⟨rfl, .inl ⟨rfl, fun row h => by rw [List.mem_singleton.1 h]; rfl⟩⟩, trivial⟩ rfl, congrArg (fun b => AV.d (.bool b)) (hno rfl).symm, rfl⟩
        | true =>
          repeat' (first | refine PureC.use hc1 ?_ |                       refine ⟨fun _ => ?_, fun h => absurd h (by decide)⟩ | refine ⟨fun h => absurd h (by decide), fun _ => ?_⟩ | (refine ⟨fun h => ?_, fun h => ?_⟩ <;> (try simp only [decide_eq_true_eq, decide_eq_false_iff_not, Bool.not_eq_true', Bool.not_eq_false', Bool.not_eq_true, Bool.not_eq_false, not_true_eq_false, beq_iff_eq, beq_eq_false_iff_ne, ne_eq, decide_eq_decide, true_iff, false_iff, iff_true, iff_false, true_and, and_true, false_or, or_false, Bool.and_true, Bool.and_eq_true, Bool.and_eq_false_iff, Bool.or_eq_true, Bool.or_eq_false_iff, List.length_cons, List.length_nil] at h) <;> (try (exfalso; first | omega | exact h rfl | (cases h; done) | exact absurd h (by assumption) | exact h (by assumption) | (simp at h; done)))) | refine ⟨⟨by (first | omega | (simp only [lenS]; omega)), by (first | omega | (simp only [lenS]; omega))⟩, _, by assumption, by rfl, ?_⟩ | refine .inl ⟨⟨by (first | omega | (simp only [lenS]; omega)), by (first | omega | (simp only [lenS]; omega))⟩, ?_⟩ | refine ⟨⟨by (first | omega | (simp only [lenS]; omega)), by (first | omega | (simp only [lenS]; omega))⟩, ?_⟩ | refine ⟨⟨by (first | omega | (simp only [lenS]; omega)), by (first | omega | (simp only [lenS]; omega)), by (first | omega | (simp only [lenS]; omega))⟩, ?_⟩ | refine ⟨.inl rfl, ?_⟩ | refine ⟨.inr (.inl (by (first | omega | (simp only [lenS]; omega)))), ?_⟩ | refine ⟨_, rfl, rfl, by (first | exact Nat.le_refl _ | exact Nat.le_of_ble_eq_true rfl | decide), ?_⟩ | refine ⟨_, rfl, by (first | exact Nat.le_refl _ | exact Nat.le_of_ble_eq_true rfl | decide), ?_⟩ | refine ⟨by (first | exact Nat.le_refl _ | exact Nat.le_of_ble_eq_true rfl | decide | exact rfl), ?_⟩ | refine ⟨show _ ≤ (9223372036854775807 : Nat) by (first | omega | (simp only [lenS]; omega)), ?_⟩ | refine ⟨show _ ≠ (0 : Int) by (first | omega | (simp only [lenS]; omega)), ?_⟩ | refine ⟨_, rfl, _, rfl, ?_⟩ | refine ⟨_, by assumption, Nat.le_of_ble_eq_true rfl, ?_⟩ | refine ⟨_, by assumption, _, rfl, ?_⟩ | refine ⟨_, rfl, ?_⟩ | fail)
          exact ⟨_, _, _, ⟨k + 1, rfl, hlt, hal, rfl, rfl⟩, by omega, Mv.of [] rfl rfl rfl ⟨⟨rfl, .inr ⟨⟨⟨rfl, trivial, ⟨rfl, rfl, rfl⟩, ⟨rfl, rfl, rfl⟩, trivial⟩, trivial⟩, trivial⟩⟩, ⟨rfl, .inl ⟨rfl, fun row h => by rw [List.mem_singleton.1 h]; rfl⟩⟩, trivial⟩ ⟨⟨rfl, rfl, rfl⟩, ⟨rfl, rfl, rfl⟩, rfl, rfl, rfl, trivial⟩⟩
  · have hk' : k = l.length := by omega
    subst hk'
    rw [List.take_length] at hI
    rw [hI]
    repeat' (first | refine PureC.use hc1 ?_ |                       refine ⟨fun _ => ?_, fun h => absurd h (by decide)⟩ | refine ⟨fun h => absurd h (by decide), fun _ => ?_⟩ | (refine ⟨fun h => ?_, fun h => ?_⟩ <;> (try simp only [decide_eq_true_eq, decide_eq_false_iff_not, Bool.not_eq_true', Bool.not_eq_false', Bool.not_eq_true, Bool.not_eq_false, not_true_eq_false, beq_iff_eq, beq_eq_false_iff_ne, ne_eq, decide_eq_decide, true_iff, false_iff, iff_true, iff_false, true_and, and_true, false_or, or_false, Bool.and_true, Bool.and_eq_true, Bool.and_eq_false_iff, Bool.or_eq_true, Bool.or_eq_false_iff, List.length_cons, List.length_nil] at h) <;> (try (exfalso; first | omega | exact h rfl | (cases h; done) | exact absurd h (by assumption) | exact h (by assumption) | (simp at h; done)))) | refine ⟨⟨by (first | omega | (simp only [lenS]; omega)), by (first | omega | (simp only [lenS]; omega))⟩, _, by assumption, by rfl, ?_⟩ | refine .inl ⟨⟨by (first | omega | (simp only [lenS]; omega)), by (first | omega | (simp only [lenS]; omega))⟩, ?_⟩ | refine ⟨⟨by (first | omega | (simp only [lenS]; omega)), by (first | omega | (simp only [lenS]; omega))⟩, ?_⟩ | refine ⟨⟨by (first | omega | (simp only [lenS]; omega)), by (first | omega | (simp only [lenS]; omega)), by (first | omega | (simp only [lenS]; omega))⟩, ?_⟩ | refine ⟨.inl rfl, ?_⟩ | refine ⟨.inr (.inl (by (first | omega | (simp only [lenS]; omega)))), ?_⟩ | refine ⟨_, rfl, rfl, by (first | exact Nat.le_refl _ | exact Nat.le_of_ble_eq_true rfl | decide), ?_⟩ | refine ⟨_, rfl, by (first | exact Nat.le_refl _ | exact Nat.le_of_ble_eq_true rfl | decide), ?_⟩ | refine ⟨by (first | exact Nat.le_refl _ | exact Nat.le_of_ble_eq_true rfl | decide | exact rfl), ?_⟩ | refine ⟨show _ ≤ (9223372036854775807 : Nat) by (first | omega | (simp only [lenS]; omega)), ?_⟩ | refine ⟨show _ ≠ (0 : Int) by (first | omega | (simp only [lenS]; omega)), ?_⟩ | refine ⟨_, rfl, _, rfl, ?_⟩ | refine ⟨_, by assumption, Nat.le_of_ble_eq_true rfl, ?_⟩ | refine ⟨_, by assumption, _, rfl, ?_⟩ | refine ⟨_, rfl, ?_⟩ | fail)
    exact ⟨_, _, FinMove.refl _ _ _, rfl, rfl⟩
set_option maxRecDepth 100000 in
set_option maxHeartbeats 1000000 in
theorem Safe_ok (p : Pol) (l : List Node) (hp : Fits p) (hB : szL l ≤ 1000000000) (hF : FitL l) (hS : ShL l) : PureC Tryd.prog 15 [polA p, .d (.sl (nodesD l))] (.d (.bool (safeB p l))) := by
  have hc1 := Size_ok (szL l) l (Nat.le_refl _) hB
  have hc2 := Stable_ok l hB hS
  have hd1 := sinner_ok p hp (szL l) l (Nat.le_refl _) hB hF
  unfold sizeV at hc1
  unfold safeB
  by_cases h1 : (szL l : Int) ≤ p.nd
  · rw [decide_eq_true h1, Bool.true_and]
    by_cases h2 : (dpL l : Int) ≤ p.dp
    · rw [decide_eq_true h2, Bool.true_and]
      cases hs : stableB l with
      | false =>
        rw [hs] at hc2
        clear hd1
        refine pure_okT Tryd.wf Tryd.tab_ok Tryd.func15 (by decide +kernel) rfl rfl rfl rfl ?_
        repeat' (first | refine PureC.use hc1 ?_ | refine PureC.use hc2 ?_ |          refine CallsAbs.use1 hd1 ?_ |            refine ⟨fun _ => ?_, fun h => absurd h (by decide)⟩ | refine ⟨fun h => absurd h (by decide), fun _ => ?_⟩ | (refine ⟨fun h => ?_, fun h => ?_⟩ <;> (try simp only [decide_eq_true_eq, decide_eq_false_iff_not, Bool.not_eq_true', Bool.not_eq_false', Bool.not_eq_true, Bool.not_eq_false, not_true_eq_false, beq_iff_eq, beq_eq_false_iff_ne, ne_eq, decide_eq_decide, true_iff, false_iff, iff_true, iff_false, true_and, and_true, false_or, or_false, Bool.and_true, Bool.and_eq_true, Bool.and_eq_false_iff, Bool.or_eq_true, Bool.or_eq_false_iff, List.length_cons, List.length_nil] at h) <;> (try (exfalso; first | omega | exact h rfl | (cases h; done) | exact absurd h (by assumption) | exact h (by assumption) | (simp at h; done)))) | refine ⟨⟨by (first | omega | (simp only [lenS]; omega)), by (first | omega | (simp only [lenS]; omega))⟩, _, by assumption, by rfl, ?_⟩ | refine .inl ⟨⟨by (first | omega | (simp only [lenS]; omega)), by (first | omega | (simp only [lenS]; omega))⟩, ?_⟩ | refine ⟨⟨by (first | omega | (simp only [lenS]; omega)), by (first | omega | (simp only [lenS]; omega))⟩, ?_⟩ | refine ⟨⟨by (first | omega | (simp only [lenS]; omega)), by (first | omega | (simp only [lenS]; omega)), by (first | omega | (simp only [lenS]; omega))⟩, ?_⟩ | refine ⟨.inl rfl, ?_⟩ | refine ⟨.inr (.inl (by (first | omega | (simp only [lenS]; omega)))), ?_⟩ | refine ⟨_, rfl, rfl, by (first | exact Nat.le_refl _ | exact Nat.le_of_ble_eq_true rfl | decide), ?_⟩ | refine ⟨_, rfl, by (first | exact Nat.le_refl _ | exact Nat.le_of_ble_eq_true rfl | decide), ?_⟩ | refine ⟨by (first | exact Nat.le_refl _ | exact Nat.le_of_ble_eq_true rfl | decide | exact rfl), ?_⟩ | refine ⟨show _ ≤ (9223372036854775807 : Nat) by (first | omega | (simp only [lenS]; omega)), ?_⟩ | refine ⟨show _ ≠ (0 : Int) by (first | omega | (simp only [lenS]; omega)), ?_⟩ | refine ⟨_, rfl, _, rfl, ?_⟩ | refine ⟨_, by assumption, Nat.le_of_ble_eq_true rfl, ?_⟩ | refine ⟨_, by assumption, _, rfl, ?_⟩ | refine ⟨_, rfl, ?_⟩ | fail)
        exact ⟨_, _, fin_out rfl, rfl⟩
      | true =>
        rw [hs] at hc2
        rw [Bool.true_and]
        refine pure_okT Tryd.wf Tryd.tab_ok Tryd.func15 (by decide +kernel) rfl rfl rfl rfl ?_
        repeat' (first | refine PureC.use hc1 ?_ | refine PureC.use hc2 ?_ |          refine CallsAbs.use1 hd1 ?_ |            refine ⟨fun _ => ?_, fun h => absurd h (by decide)⟩ | refine ⟨fun h => absurd h (by decide), fun _ => ?_⟩ | (refine ⟨fun h => ?_, fun h => ?_⟩ <;> (try simp only [decide_eq_true_eq, decide_eq_false_iff_not, Bool.not_eq_true', Bool.not_eq_false', Bool.not_eq_true, Bool.not_eq_false, not_true_eq_false, beq_iff_eq, beq_eq_false_iff_ne, ne_eq, decide_eq_decide, true_iff, false_iff, iff_true, iff_false, true_and, and_true, false_or, or_false, Bool.and_true, Bool.and_eq_true, Bool.and_eq_false_iff, Bool.or_eq_true, Bool.or_eq_false_iff, List.length_cons, List.length_nil] at h) <;> (try (exfalso; first | omega | exact h rfl | (cases h; done) | exact absurd h (by assumption) | exact h (by assumption) | (simp at h; done)))) | refine ⟨⟨by (first | omega | (simp only [lenS]; omega)), by (first | omega | (simp only [lenS]; omega))⟩, _, by assumption, by rfl, ?_⟩ | refine .inl ⟨⟨by (first | omega | (simp only [lenS]; omega)), by (first | omega | (simp only [lenS]; omega))⟩, ?_⟩ | refine ⟨⟨by (first | omega | (simp only [lenS]; omega)), by (first | omega | (simp only [lenS]; omega))⟩, ?_⟩ | refine ⟨⟨by (first | omega | (simp only [lenS]; omega)), by (first | omega | (simp only [lenS]; omega)), by (first | omega | (simp only [lenS]; omega))⟩, ?_⟩ | refine ⟨.inl rfl, ?_⟩ | refine ⟨.inr (.inl (by (first | omega | (simp only [lenS]; omega)))), ?_⟩ | refine ⟨_, rfl, rfl, by (first | exact Nat.le_refl _ | exact Nat.le_of_ble_eq_true rfl | decide), ?_⟩ | refine ⟨_, rfl, by (first | exact Nat.le_refl _ | exact Nat.le_of_ble_eq_true rfl | decide), ?_⟩ | refine ⟨by (first | exact Nat.le_refl _ | exact Nat.le_of_ble_eq_true rfl | decide | exact rfl), ?_⟩ | refine ⟨show _ ≤ (9223372036854775807 : Nat) by (first | omega | (simp only [lenS]; omega)), ?_⟩ | refine ⟨show _ ≠ (0 : Int) by (first | omega | (simp only [lenS]; omega)), ?_⟩ | refine ⟨_, rfl, _, rfl, ?_⟩ | refine ⟨_, by assumption, Nat.le_of_ble_eq_true rfl, ?_⟩ | refine ⟨_, by assumption, _, rfl, ?_⟩ | refine ⟨_, rfl, ?_⟩ | fail)
        refine CallsAbs.fm (args' := [.d (.sl (nodesD l)), .ref 0 0 0, .ref 1 0 0]) (σ' := sS p) (fin_mv [] rfl rfl rfl ⟨⟨rfl, .inr ⟨⟨⟨rfl, trivial, ⟨rfl, rfl, rfl⟩, ⟨rfl, rfl, rfl⟩, trivial⟩, trivial⟩, trivial⟩⟩, ⟨rfl, .inl ⟨rfl, fun row h => by rw [List.mem_singleton.1 h]; rfl⟩⟩, trivial⟩ ⟨rfl, ⟨rfl, rfl, rfl⟩, ⟨rfl, rfl, rfl⟩, trivial⟩) ?_
        refine CallsAbs.use1 hd1 ?_
        repeat' (first | refine PureC.use hc1 ?_ | refine PureC.use hc2 ?_ |          refine CallsAbs.use1 hd1 ?_ |            refine ⟨fun _ => ?_, fun h => absurd h (by decide)⟩ | refine ⟨fun h => absurd h (by decide), fun _ => ?_⟩ | (refine ⟨fun h => ?_, fun h => ?_⟩ <;> (try simp only [decide_eq_true_eq, decide_eq_false_iff_not, Bool.not_eq_true', Bool.not_eq_false', Bool.not_eq_true, Bool.not_eq_false, not_true_eq_false, beq_iff_eq, beq_eq_false_iff_ne, ne_eq, decide_eq_decide, true_iff, false_iff, iff_true, iff_false, true_and, and_true, false_or, or_false, Bool.and_true, Bool.and_eq_true, Bool.and_eq_false_iff, Bool.or_eq_true, Bool.or_eq_false_iff, List.length_cons, List.length_nil] at h) <;> (try (exfalso; first | omega | exact h rfl | (cases h; done) | exact absurd h (by assumption) | exact h (by assumption) | (simp at h; done)))) | refine ⟨⟨by (first | omega | (simp only [lenS]; omega)), by (first | omega | (simp only [lenS]; omega))⟩, _, by assumption, by rfl, ?_⟩ | refine .inl ⟨⟨by (first | omega | (simp only [lenS]; omega)), by (first | omega | (simp only [lenS]; omega))⟩, ?_⟩ | refine ⟨⟨by (first | omega | (simp only [lenS]; omega)), by (first | omega | (simp only [lenS]; omega))⟩, ?_⟩ | refine ⟨⟨by (first | omega | (simp only [lenS]; omega)), by (first | omega | (simp only [lenS]; omega)), by (first | omega | (simp only [lenS]; omega))⟩, ?_⟩ | refine ⟨.inl rfl, ?_⟩ | refine ⟨.inr (.inl (by (first | omega | (simp only [lenS]; omega)))), ?_⟩ | refine ⟨_, rfl, rfl, by (first | exact Nat.le_refl _ | exact Nat.le_of_ble_eq_true rfl | decide), ?_⟩ | refine ⟨_, rfl, by (first | exact Nat.le_refl _ | exact Nat.le_of_ble_eq_true rfl | decide), ?_⟩ | refine ⟨by (first | exact Nat.le_refl _ | exact Nat.le_of_ble_eq_true rfl | decide | exact rfl), ?_⟩ | refine ⟨show _ ≤ (9223372036854775807 : Nat) by (first | omega | (simp only [lenS]; omega)), ?_⟩ | refine ⟨show _ ≠ (0 : Int) by (first | omega | (simp only [lenS]; omega)), ?_⟩ | refine ⟨_, rfl, _, rfl, ?_⟩ | refine ⟨_, by assumption, Nat.le_of_ble_eq_true rfl, ?_⟩ | refine ⟨_, by assumption, _, rfl, ?_⟩ | refine ⟨_, rfl, ?_⟩ | fail)
        exact ⟨_, _, fin_out rfl, rfl⟩
    · rw [decide_eq_false h2]
      clear hd1
      refine pure_okT Tryd.wf Tryd.tab_ok Tryd.func15 (by decide +kernel) rfl rfl rfl rfl ?_
      repeat' (first | refine PureC.use hc1 ?_ | refine PureC.use hc2 ?_ |          refine CallsAbs.use1 hd1 ?_ |            refine ⟨fun _ => ?_, fun h => absurd h (by decide)⟩ | refine ⟨fun h => absurd h (by decide), fun _ => ?_⟩ | (refine ⟨fun h => ?_, fun h => ?_⟩ <;> (try simp only [decide_eq_true_eq, decide_eq_false_iff_not, Bool.not_eq_true', Bool.not_eq_false', Bool.not_eq_true, Bool.not_eq_false, not_true_eq_false, beq_iff_eq, beq_eq_false_iff_ne, ne_eq, decide_eq_decide, true_iff, false_iff, iff_true, iff_false, true_and, and_true, false_or, or_false, Bool.and_true, Bool.and_eq_true, Bool.and_eq_false_iff, Bool.or_eq_true, Bool.or_eq_false_iff, List.length_cons, List.length_nil] at h) <;> (try (exfalso; first | omega | exact h rfl | (cases h; done) | exact absurd h (by assumption) | exact h (by assumption) | (simp at h; done)))) | refine ⟨⟨by (first | omega | (simp only [lenS]; omega)), by (first | omega | (simp only [lenS]; omega))⟩, _, by assumption, by rfl, ?_⟩ | refine .inl ⟨⟨by (first | omega | (simp only [lenS]; omega)), by (first | omega | (simp only [lenS]; omega))⟩, ?_⟩ | refine ⟨⟨by (first | omega | (simp only [lenS]; omega)), by (first | omega | (simp only [lenS]; omega))⟩, ?_⟩ | refine ⟨⟨by (first | omega | (simp only [lenS]; omega)), by (first | omega | (simp only [lenS]; omega)), by (first | omega | (simp only [lenS]; omega))⟩, ?_⟩ | refine ⟨.inl rfl, ?_⟩ | refine ⟨.inr (.inl (by (first | omega | (simp only [lenS]; omega)))), ?_⟩ | refine ⟨_, rfl, rfl, by (first | exact Nat.le_refl _ | exact Nat.le_of_ble_eq_true rfl | decide), ?_⟩ | refine ⟨_, rfl, by (first | exact Nat.le_refl _ | exact Nat.le_of_ble_eq_true rfl | decide), ?_⟩ | refine ⟨by (first | exact Nat.le_refl _ | exact Nat.le_of_ble_eq_true rfl | decide | exact rfl), ?_⟩ | refine ⟨show _ ≤ (9223372036854775807 : Nat) by (first | omega | (simp only [lenS]; omega)), ?_⟩ | refine ⟨show _ ≠ (0 : Int) by (first | omega | (simp only [lenS]; omega)), ?_⟩ | refine ⟨_, rfl, _, rfl, ?_⟩ | refine ⟨_, by assumption, Nat.le_of_ble_eq_true rfl, ?_⟩ | refine ⟨_, by assumption, _, rfl, ?_⟩ | refine ⟨_, rfl, ?_⟩ | fail)
      exact ⟨_, _, fin_out rfl, rfl⟩
  · rw [decide_eq_false h1]
    clear hd1
    refine pure_okT Tryd.wf Tryd.tab_ok Tryd.func15 (by decide +kernel) rfl rfl rfl rfl ?_
    repeat' (first | refine PureC.use hc1 ?_ | refine PureC.use hc2 ?_ |          refine CallsAbs.use1 hd1 ?_ |            refine ⟨fun _ => ?_, fun h => absurd h (by decide)⟩ | refine ⟨fun h => absurd h (by decide), fun _ => ?_⟩ | (refine ⟨fun h => ?_, fun h => ?_⟩ <;> (try simp only [decide_eq_true_eq, decide_eq_false_iff_not, Bool.not_eq_true', Bool.not_eq_false', Bool.not_eq_true, Bool.not_eq_false, not_true_eq_false, beq_iff_eq, beq_eq_false_iff_ne, ne_eq, decide_eq_decide, true_iff, false_iff, iff_true, iff_false, true_and, and_true, false_or, or_false, Bool.and_true, Bool.and_eq_true, Bool.and_eq_false_iff, Bool.or_eq_true, Bool.or_eq_false_iff, List.length_cons, List.length_nil] at h) <;> (try (exfalso; first | omega | exact h rfl | (cases h; done) | exact absurd h (by assumption) | exact h (by assumption) | (simp at h; done)))) | refine ⟨⟨by (first | omega | (simp only [lenS]; omega)), by (first | omega | (simp only [lenS]; omega))⟩, _, by assumption, by rfl, ?_⟩ | refine .inl ⟨⟨by (first | omega | (simp only [lenS]; omega)), by (first | omega | (simp only [lenS]; omega))⟩, ?_⟩ | refine ⟨⟨by (first | omega | (simp only [lenS]; omega)), by (first | omega | (simp only [lenS]; omega))⟩, ?_⟩ | refine ⟨⟨by (first | omega | (simp only [lenS]; omega)), by (first | omega | (simp only [lenS]; omega)), by (first | omega | (simp only [lenS]; omega))⟩, ?_⟩ | refine ⟨.inl rfl, ?_⟩ | refine ⟨.inr (.inl (by (first | omega | (simp only [lenS]; omega)))), ?_⟩ | refine ⟨_, rfl, rfl, by (first | exact Nat.le_refl _ | exact Nat.le_of_ble_eq_true rfl | decide), ?_⟩ | refine ⟨_, rfl, by (first | exact Nat.le_refl _ | exact Nat.le_of_ble_eq_true rfl | decide), ?_⟩ | refine ⟨by (first | exact Nat.le_refl _ | exact Nat.le_of_ble_eq_true rfl | decide | exact rfl), ?_⟩ | refine ⟨show _ ≤ (9223372036854775807 : Nat) by (first | omega | (simp only [lenS]; omega)), ?_⟩ | refine ⟨show _ ≠ (0 : Int) by (first | omega | (simp only [lenS]; omega)), ?_⟩ | refine ⟨_, rfl, _, rfl, ?_⟩ | refine ⟨_, by assumption, Nat.le_of_ble_eq_true rfl, ?_⟩ | refine ⟨_, by assumption, _, rfl, ?_⟩ | refine ⟨_, rfl, ?_⟩ | fail)
    exact ⟨_, _, fin_out rfl, rfl⟩
end Go.Proofs.YtfchacihhljfhaaDoor

namespace Go.Proofs.YtfchacihhljfhaaDoor
open Go.Aw
set_option maxHeartbeats 1600000
set_option linter.unusedSimpArgs false
set_option linter.unusedVariables false
def wtS : List (List UInt8) → Nat
  | [] => 0
  | s :: r => min s.length 10000 + wtS r
def wtLS : List (List (List UInt8)) → Nat
  | [] => 0
  | s :: r => wtS s + wtLS r
def listsOf (p : Pol) : List (List (List UInt8)) := [p.el, p.at', p.sc, p.cl, p.pr]
def lightP (p : Pol) : Bool := (listsOf p).all (fun l => decide (l.length ≤ 100)) && decide (wtLS (listsOf p) < 6000)
def llD (l : List (List (List UInt8))) : List (List D) := l.map fun s => [.sl (strsD s)]
theorem wtS_snoc (l : List (List UInt8)) (s : List UInt8) : wtS (l ++ [s]) = wtS l + min s.length 10000 := by
  induction l with
  | nil => simp [wtS]
  | cons a r ih => rw [List.cons_append, wtS, wtS, ih]; omega
theorem wtLS_snoc (l : List (List (List UInt8))) (s : List (List UInt8)) : wtLS (l ++ [s]) = wtLS l + wtS s := by
  induction l with
  | nil => simp [wtLS]
  | cons a r ih => rw [List.cons_append, wtLS, wtLS, ih]; omega
theorem wtS_le : ∀ (l : List (List UInt8)), wtS l ≤ 10000 * l.length
  | [] => Nat.le_refl _
  | a :: r => by have := wtS_le r; rw [wtS, List.length_cons]; omega
theorem wtS_mem {l : List (List UInt8)} {s : List UInt8} (h : s ∈ l) : min s.length 10000 ≤ wtS l := by
  induction l with
  | nil => simp at h
  | cons a r ih =>
    rw [wtS]
    rcases List.mem_cons.1 h with rfl | h
    · omega
    · have := ih h; omega
theorem wtLS_mem {l : List (List (List UInt8))} {s : List (List UInt8)} (h : s ∈ l) : wtS s ≤ wtLS l := by
  induction l with
  | nil => simp at h
  | cons a r ih =>
    rw [wtLS]
    rcases List.mem_cons.1 h with rfl | h
    · omega
    · have := ih h; omega
/-- A light policy fits. -/
theorem light_fits {p : Pol} (h : lightP p = true) : Fits p := by
  unfold lightP at h
  rw [Bool.and_eq_true, decide_eq_true_eq, List.all_eq_true] at h
  have key : ∀ l ∈ listsOf p, FitsL l := fun l hl => by
    refine ⟨by have := h.1 l hl; simp at this; omega, fun s hs => ?_⟩
    have h1 := wtS_mem hs
    have h2 := wtLS_mem hl
    omega
  exact ⟨key _ (by simp [listsOf]), key _ (by simp [listsOf]), key _ (by simp [listsOf]), key _ (by simp [listsOf]), key _ (by simp [listsOf])⟩
theorem llD_len (l : List (List (List UInt8))) : (llD l).length = l.length := by simp [llD]
theorem llD_get (l : List (List (List UInt8))) (k : Nat) (h : k < l.length) : (llD l)[((k : Nat) : Int).toNat]? = some [.sl (strsD l[k])] := by simp [llD, h]
set_option maxRecDepth 100000 in
theorem pLight_ok (p : Pol) : PureC Tryd.prog 9 [polA p] (.d (.bool (lightP p))) := by
  refine PureC.of rfl rfl (fn_okTE Tryd.wf Tryd.tab_ok Tryd.func9 (by decide +kernel) rfl rfl ?_)
  refine E.seq (E.of Tryd.wf Tryd.tab_ok ?_)
  refine E.seq (E.of Tryd.wf Tryd.tab_ok ?_)
  refine E.seq (midE (fun s' σ => s' = [(1, .ref 0 0 0), (3, .d (.int .i64 0)), (17, .d (.sl (llD (listsOf p)))), (18, .d (.int .i64 (listsOf p).length)), (19, .d (.int .i64 0))] ∧ σ = ⟨1, [(0, boxO p)]⟩) ?_ ?_)
  · refine textT Tryd.wf Tryd.tab_ok ?_
    iterate 5
      refine pstep _ rfl rfl (FinMove.refl _ _ _) ?_
      refine pstep _ rfl rfl ⟨_, rfl, _, rfl, FinMove.refl _ _ _⟩ ?_
    refine pstep (r := .d (.sl (llD (listsOf p)))) ⟨1, [(0, boxO p)]⟩ rfl rfl (fin_lit rfl rfl rfl ⟨⟨rfl, .inl ⟨rfl, box_pure p⟩⟩, trivial⟩) ?_
    refine pstep _ rfl rfl (FinMove.refl _ _ _) ?_
    refine pstep _ rfl rfl (FinMove.refl _ _ _) ?_
    exact ⟨_, _, ⟨rfl, rfl⟩, Mv.of [.old 0] rfl rfl rfl ⟨⟨rfl, .inl ⟨rfl, box_pure p⟩⟩, trivial⟩ ⟨⟨rfl, rfl, rfl⟩, rfl, rfl, rfl, rfl, trivial⟩⟩
  rintro _ _ ⟨rfl, rfl⟩
  have hn := llD_len (listsOf p)
  have hbnd : (listsOf p).length = 5 := rfl
  have hL : lightP p = ((listsOf p).all (fun l => decide (l.length ≤ 100)) && decide (wtLS (listsOf p) < 6000)) := rfl
  generalize listsOf p = L at *
  refine E.of Tryd.wf Tryd.tab_ok ?_
  refine loopT Tryd.wf Tryd.tab_ok (fun n s' σ => ∃ k : Nat, n = L.length - k ∧ k ≤ L.length ∧ (L.take k).all (fun l => decide (l.length ≤ 100)) = true ∧ wtLS (L.take k) ≤ 10000000 * k ∧ s' = [(1, .ref 0 0 0), (3, .d (.int .i64 (wtLS (L.take k)))), (17, .d (.sl (llD L))), (18, .d (.int .i64 L.length)), (19, .d (.int .i64 k))] ∧ σ = ⟨1, [(0, boxO p)]⟩)
    ⟨0, rfl, Nat.zero_le _, rfl, Nat.le_refl _, rfl, rfl⟩ (Mv.of [.old 0] rfl rfl rfl ⟨⟨rfl, .inl ⟨rfl, box_pure p⟩⟩, trivial⟩ ⟨⟨rfl, rfl, rfl⟩, rfl, rfl, rfl, rfl, trivial⟩) ?_
  rintro _ _ _ ⟨k, rfl, hk, hI, hW, rfl, rfl⟩
  refine ⟨fun h => ?_, fun h => ?_⟩
  · have hlt : k < L.length := by have := of_decide_eq_true h; omega
    clear h
    have hg := llD_get L k hlt
    have hst := all_step (fun l => decide (l.length ≤ 100)) L k hlt
    rw [hI, Bool.true_and] at hst
    have hw2 := wtLS_snoc (L.take k) L[k]
    rw [← List.take_succ_eq_append_getElem hlt] at hw2
    have no : (L.take (k + 1)).all (fun l => decide (l.length ≤ 100)) = false → lightP p = false := fun h => by rw [hL, all_pre _ _ _ h]; rfl
    clear hL
    have hm := strsD_len L[k]
    have hb := wtS_le L[k]
    generalize L[k] = l at *
    generalize wtLS (L.take k) = w at *
    repeat' (first |                        refine ⟨fun _ => ?_, fun h => absurd h (by decide)⟩ | refine ⟨fun h => absurd h (by decide), fun _ => ?_⟩ | (refine ⟨fun h => ?_, fun h => ?_⟩ <;> (try simp only [decide_eq_true_eq, decide_eq_false_iff_not, Bool.not_eq_true', Bool.not_eq_false', Bool.not_eq_true, Bool.not_eq_false, not_true_eq_false, beq_iff_eq, beq_eq_false_iff_ne, ne_eq, decide_eq_decide, true_iff, false_iff, iff_true, iff_false, true_and, and_true, false_or, or_false, Bool.and_true, Bool.and_eq_true, Bool.and_eq_false_iff, Bool.or_eq_true, Bool.or_eq_false_iff, List.length_cons, List.length_nil] at h) <;> (try (exfalso; first | omega | exact h rfl | (cases h; done) | exact absurd h (by assumption) | exact h (by assumption) | (simp at h; done)))) | refine ⟨⟨by (first | omega | (simp only [lenS]; omega)), by (first | omega | (simp only [lenS]; omega))⟩, _, by assumption, by rfl, ?_⟩ | refine .inl ⟨⟨by (first | omega | (simp only [lenS]; omega)), by (first | omega | (simp only [lenS]; omega))⟩, ?_⟩ | refine ⟨⟨by (first | omega | (simp only [lenS]; omega)), by (first | omega | (simp only [lenS]; omega))⟩, ?_⟩ | refine ⟨⟨by (first | omega | (simp only [lenS]; omega)), by (first | omega | (simp only [lenS]; omega)), by (first | omega | (simp only [lenS]; omega))⟩, ?_⟩ | refine ⟨.inl rfl, ?_⟩ | refine ⟨.inr (.inl (by (first | omega | (simp only [lenS]; omega)))), ?_⟩ | refine ⟨_, rfl, rfl, by (first | exact Nat.le_refl _ | exact Nat.le_of_ble_eq_true rfl | decide), ?_⟩ | refine ⟨_, rfl, by (first | exact Nat.le_refl _ | exact Nat.le_of_ble_eq_true rfl | decide), ?_⟩ | refine ⟨by (first | exact Nat.le_refl _ | exact Nat.le_of_ble_eq_true rfl | decide | exact rfl), ?_⟩ | refine ⟨show _ ≤ (9223372036854775807 : Nat) by (first | omega | (simp only [lenS]; omega)), ?_⟩ | refine ⟨show _ ≠ (0 : Int) by (first | omega | (simp only [lenS]; omega)), ?_⟩ | refine ⟨_, rfl, _, rfl, ?_⟩ | refine ⟨_, by assumption, Nat.le_of_ble_eq_true rfl, ?_⟩ | refine ⟨_, by assumption, _, rfl, ?_⟩ | refine ⟨_, rfl, ?_⟩ | fail)
    · exact ⟨_, _, fin_out rfl, congrArg (fun b => AV.d (.bool b)) (no (by rw [hst, decide_eq_false_iff_not]; omega)).symm, rfl⟩
    have hl100 : l.length ≤ 100 := by omega
    rw [decide_eq_true hl100] at hst
    clear no h
    refine loopT Tryd.wf Tryd.tab_ok (fun n s' σ => ∃ j : Nat, n = l.length - j ∧ j ≤ l.length ∧ wtS (l.take j) ≤ 10000 * j ∧ s' = [(1, .ref 0 0 0), (3, .d (.int .i64 ((w + wtS (l.take j) : Nat) : Int))), (5, .d (.sl (strsD l))), (6, .d (.int .i64 j)), (17, .d (.sl (llD L))), (18, .d (.int .i64 L.length)), (19, .d (.int .i64 k))] ∧ σ = ⟨1, [(0, boxO p)]⟩)
      ⟨0, rfl, Nat.zero_le _, Nat.le_refl _, rfl, rfl⟩ (Mv.of [.old 0] rfl rfl rfl ⟨⟨rfl, .inl ⟨rfl, box_pure p⟩⟩, trivial⟩ ⟨⟨rfl, rfl, rfl⟩, rfl, rfl, rfl, rfl, rfl, rfl, trivial⟩) ?_
    rintro _ _ _ ⟨j, rfl, hj, hW2, rfl, rfl⟩
    refine ⟨fun h => ?_, fun h => ?_⟩
    · have hlt2 : j < l.length := by have := of_decide_eq_true h; omega
      clear h
      have hgj := strsD_get l j hlt2
      have hw3 := wtS_snoc (l.take j) l[j]
      rw [← List.take_succ_eq_append_getElem hlt2] at hw3
      generalize l[j] = s at *
      generalize wtS (l.take j) = v at *
      have e0 : (if (10000 : Int) < (s.length : Int) then (10000 : Int) else (s.length : Int)) = ((min s.length 10000 : Nat) : Int) := by split <;> omega
      have e1 : ((w + v : Nat) : Int) + ((min s.length 10000 : Nat) : Int) = ((w + wtS (l.take (j + 1)) : Nat) : Int) := by rw [hw3]; omega
      have e2 : ((w + v : Nat) : Int) + (if (10000 : Int) < (s.length : Int) then (10000 : Int) else (s.length : Int)) = ((w + wtS (l.take (j + 1)) : Nat) : Int) := by rw [e0, e1]
      clear e0 e1
      repeat' (first |                        refine ⟨fun _ => ?_, fun h => absurd h (by decide)⟩ | refine ⟨fun h => absurd h (by decide), fun _ => ?_⟩ | (refine ⟨fun h => ?_, fun h => ?_⟩ <;> (try simp only [decide_eq_true_eq, decide_eq_false_iff_not, Bool.not_eq_true', Bool.not_eq_false', Bool.not_eq_true, Bool.not_eq_false, not_true_eq_false, beq_iff_eq, beq_eq_false_iff_ne, ne_eq, decide_eq_decide, true_iff, false_iff, iff_true, iff_false, true_and, and_true, false_or, or_false, Bool.and_true, Bool.and_eq_true, Bool.and_eq_false_iff, Bool.or_eq_true, Bool.or_eq_false_iff, List.length_cons, List.length_nil] at h) <;> (try (exfalso; first | omega | exact h rfl | (cases h; done) | exact absurd h (by assumption) | exact h (by assumption) | (simp at h; done)))) | refine ⟨⟨by (first | omega | (simp only [lenS]; omega)), by (first | omega | (simp only [lenS]; omega))⟩, _, by assumption, by rfl, ?_⟩ | refine .inl ⟨⟨by (first | omega | (simp only [lenS]; omega)), by (first | omega | (simp only [lenS]; omega))⟩, ?_⟩ | refine ⟨⟨by (first | omega | (simp only [lenS]; omega)), by (first | omega | (simp only [lenS]; omega))⟩, ?_⟩ | refine ⟨⟨by (first | omega | (simp only [lenS]; omega)), by (first | omega | (simp only [lenS]; omega)), by (first | omega | (simp only [lenS]; omega))⟩, ?_⟩ | refine ⟨.inl rfl, ?_⟩ | refine ⟨.inr (.inl (by (first | omega | (simp only [lenS]; omega)))), ?_⟩ | refine ⟨_, rfl, rfl, by (first | exact Nat.le_refl _ | exact Nat.le_of_ble_eq_true rfl | decide), ?_⟩ | refine ⟨_, rfl, by (first | exact Nat.le_refl _ | exact Nat.le_of_ble_eq_true rfl | decide), ?_⟩ | refine ⟨by (first | exact Nat.le_refl _ | exact Nat.le_of_ble_eq_true rfl | decide | exact rfl), ?_⟩ | refine ⟨show _ ≤ (9223372036854775807 : Nat) by (first | omega | (simp only [lenS]; omega)), ?_⟩ | refine ⟨show _ ≠ (0 : Int) by (first | omega | (simp only [lenS]; omega)), ?_⟩ | refine ⟨_, rfl, _, rfl, ?_⟩ | refine ⟨_, by assumption, Nat.le_of_ble_eq_true rfl, ?_⟩ | refine ⟨_, by assumption, _, rfl, ?_⟩ | refine ⟨_, rfl, ?_⟩ | fail)
      exact ⟨_, _, _, ⟨j + 1, rfl, hlt2, by omega, rfl, rfl⟩, by omega, Mv.of [.old 0] rfl rfl rfl ⟨⟨rfl, .inl ⟨rfl, box_pure p⟩⟩, trivial⟩ ⟨⟨rfl, rfl, rfl⟩, congrArg (fun n : Int => D.int .i64 n) e2.symm, rfl, rfl, rfl, rfl, rfl, trivial⟩⟩
    · have hj' : j = l.length := by have := of_decide_eq_false h; omega
      subst hj'
      rw [List.take_length] at hW2 ⊢
      clear h
      repeat' (first |                        refine ⟨fun _ => ?_, fun h => absurd h (by decide)⟩ | refine ⟨fun h => absurd h (by decide), fun _ => ?_⟩ | (refine ⟨fun h => ?_, fun h => ?_⟩ <;> (try simp only [decide_eq_true_eq, decide_eq_false_iff_not, Bool.not_eq_true', Bool.not_eq_false', Bool.not_eq_true, Bool.not_eq_false, not_true_eq_false, beq_iff_eq, beq_eq_false_iff_ne, ne_eq, decide_eq_decide, true_iff, false_iff, iff_true, iff_false, true_and, and_true, false_or, or_false, Bool.and_true, Bool.and_eq_true, Bool.and_eq_false_iff, Bool.or_eq_true, Bool.or_eq_false_iff, List.length_cons, List.length_nil] at h) <;> (try (exfalso; first | omega | exact h rfl | (cases h; done) | exact absurd h (by assumption) | exact h (by assumption) | (simp at h; done)))) | refine ⟨⟨by (first | omega | (simp only [lenS]; omega)), by (first | omega | (simp only [lenS]; omega))⟩, _, by assumption, by rfl, ?_⟩ | refine .inl ⟨⟨by (first | omega | (simp only [lenS]; omega)), by (first | omega | (simp only [lenS]; omega))⟩, ?_⟩ | refine ⟨⟨by (first | omega | (simp only [lenS]; omega)), by (first | omega | (simp only [lenS]; omega))⟩, ?_⟩ | refine ⟨⟨by (first | omega | (simp only [lenS]; omega)), by (first | omega | (simp only [lenS]; omega)), by (first | omega | (simp only [lenS]; omega))⟩, ?_⟩ | refine ⟨.inl rfl, ?_⟩ | refine ⟨.inr (.inl (by (first | omega | (simp only [lenS]; omega)))), ?_⟩ | refine ⟨_, rfl, rfl, by (first | exact Nat.le_refl _ | exact Nat.le_of_ble_eq_true rfl | decide), ?_⟩ | refine ⟨_, rfl, by (first | exact Nat.le_refl _ | exact Nat.le_of_ble_eq_true rfl | decide), ?_⟩ | refine ⟨by (first | exact Nat.le_refl _ | exact Nat.le_of_ble_eq_true rfl | decide | exact rfl), ?_⟩ | refine ⟨show _ ≤ (9223372036854775807 : Nat) by (first | omega | (simp only [lenS]; omega)), ?_⟩ | refine ⟨show _ ≠ (0 : Int) by (first | omega | (simp only [lenS]; omega)), ?_⟩ | refine ⟨_, rfl, _, rfl, ?_⟩ | refine ⟨_, by assumption, Nat.le_of_ble_eq_true rfl, ?_⟩ | refine ⟨_, by assumption, _, rfl, ?_⟩ | refine ⟨_, rfl, ?_⟩ | fail)
      refine ⟨_, _, _, ⟨k + 1, rfl, hlt, hst, by omega, rfl, rfl⟩, by omega, Mv.of [.old 0] rfl rfl rfl ⟨⟨rfl, .inl ⟨rfl, box_pure p⟩⟩, trivial⟩ ⟨⟨rfl, rfl, rfl⟩, congrArg (fun n : Nat => D.int .i64 n) hw2, rfl, rfl, rfl, trivial⟩⟩
  · have hk' : k = L.length := by have := of_decide_eq_false h; omega
    subst hk'
    rw [List.take_length] at hI ⊢
    rw [hL, hI, Bool.true_and]
    refine E.of Tryd.wf Tryd.tab_ok ?_
    exact ⟨_, _, fin_out rfl, congrArg (fun b => AV.d (.bool b)) (by rw [decide_eq_decide]; omega), rfl⟩
end Go.Proofs.YtfchacihhljfhaaDoor

namespace Go.Proofs.YtfchacihhljfhaaDoor
open Go.Aw
set_option maxHeartbeats 1600000
set_option linter.unusedSimpArgs false
set_option linter.unusedVariables false
def wtA (l : List (List UInt8 × List UInt8)) : Nat := (l.map fun a => 1 + a.1.length + a.2.length).sum
mutual
def wtN : Node → Nat
  | .mk nm a t k => 1 + nm.length + t.length + wtA a + wtL k
def wtL : List Node → Nat
  | [] => 0
  | n :: r => wtN n + wtL r
end
theorem wtN_eq (n : Node) : wtN n = 1 + n.name.length + n.text.length + wtA n.attrs + wtL n.kids := by cases n; unfold wtN; rfl
theorem wtL_cons (n : Node) (r : List Node) : wtL (n :: r) = wtN n + wtL r := by rw [wtL]
theorem wtL_append : ∀ a b : List Node, wtL (a ++ b) = wtL a + wtL b
  | [], b => by rw [wtL, List.nil_append, Nat.zero_add]
  | n :: r, b => by rw [List.cons_append, wtL_cons, wtL_cons, wtL_append r b, Nat.add_assoc]
theorem wtL_take (l : List Node) (k : Nat) (h : k < l.length) : wtL (l.take (k + 1)) = wtL (l.take k) + wtN l[k] := by
  rw [List.take_succ_eq_append_getElem h, wtL_append, wtL_cons]; simp [wtL]
theorem wtA_take (l : List (List UInt8 × List UInt8)) (k : Nat) (h : k < l.length) : wtA (l.take (k + 1)) = wtA (l.take k) + (1 + l[k].1.length + l[k].2.length) := by
  unfold wtA
  rw [List.take_succ_eq_append_getElem h, List.map_append, List.sum_append]; rfl
theorem min_is (n : Nat) : ∃ m : Nat, (if (20000 : Int) < ((n : Nat) : Int) then (20000 : Int) else ((n : Nat) : Int)) = ((m : Nat) : Int) ∧ m ≤ 20000 ∧ (m < 20000 → m = n) := by
  by_cases h : (20000 : Int) < ((n : Nat) : Int)
  · exact ⟨20000, by rw [if_pos h]; rfl, Nat.le_refl _, fun h => absurd h (by omega)⟩
  · exact ⟨n, by rw [if_neg h], by omega, fun _ => rfl⟩
set_option maxHeartbeats 1000000 in
set_option maxRecDepth 100000 in
theorem weight_ok (N : Nat) : ∀ (l : List Node) (d : Nat), szL l ≤ N → d ≤ 81 → CallsAbs Tryd.prog 29 [.d (.sl (nodesD l)), .d (.int .i64 d)] ⟨0, []⟩ fun r σ' => (∃ x : Nat, r = .d (.int .i64 x) ∧ x ≤ 20000 + 90000 * (81 - d) ∧ (x < 20000 → x = wtL l)) ∧ σ' = ⟨0, []⟩ := by
  induction N using Nat.strongRecOn with
  | ind N ih =>
  intro l d hN hd
  refine fn_okTE Tryd.wf Tryd.tab_ok Tryd.func29 (by decide +kernel) rfl rfl ?_
  have hn := nodesD_len l
  refine E.seq (E.of Tryd.wf Tryd.tab_ok ?_)
  refine E.seq (E.of Tryd.wf Tryd.tab_ok ?_)
  refine E.seq (E.of Tryd.wf Tryd.tab_ok ?_)
  refine loopE (fun m s' σ => ∃ (k w : Nat), m = l.length - k ∧ k ≤ l.length ∧ k ≤ w ∧ w ≤ 20000 + 90000 * (81 - d) ∧ (w < 20000 → w = wtL (l.take k)) ∧ s' = [(0, .d (.sl (nodesD l))), (1, .d (.int .i64 d)), (5, .d (.int .i64 w)), (6, .d (.int .i64 k))] ∧ σ = ⟨0, []⟩)
    ⟨0, 0, rfl, Nat.zero_le _, Nat.zero_le _, Nat.zero_le _, fun _ => by simp [wtL], rfl, rfl⟩ (Mv.of [] rfl rfl rfl trivial ⟨rfl, rfl, rfl, rfl, trivial⟩) ?_
  rintro _ _ _ ⟨k, w, rfl, hk, hkw, hwB, hw, rfl, rfl⟩
  have done : ∀ (x : Nat) (σ : Store), x ≤ 20000 + 90000 * (81 - d) → (x < 20000 → x = wtL l) → ∃ r2 σ2, FinMove ⟨0, []⟩ (AV.d (.int .i64 (x : Int))) σ r2 σ2 ∧ ((∃ x : Nat, r2 = .d (.int .i64 x) ∧ x ≤ 20000 + 90000 * (81 - d) ∧ (x < 20000 → x = wtL l)) ∧ σ2 = ⟨0, []⟩) := fun x σ h1 h2 => ⟨_, _, fin_out rfl, ⟨x, rfl, h1, h2⟩, rfl⟩
  refine E.seq (E.of Tryd.wf Tryd.tab_ok ?_)
  by_cases hlt : k < l.length
  · by_cases hw2 : w < 20000
    · have hwk := hw hw2
      repeat (first | refine ⟨fun _ => ?_, fun h => absurd (of_decide_eq_false h) (by omega)⟩ | refine ⟨fun h => absurd (of_decide_eq_true h) (by omega), fun _ => ?_⟩ | refine ⟨fun _ => ?_, fun h => absurd (of_decide_eq_true h) (by omega)⟩ | refine ⟨fun h => absurd (of_decide_eq_false h) (by omega), fun _ => ?_⟩ | refine .inl ⟨⟨by omega, by omega⟩, ?_⟩ | refine ⟨⟨by omega, by omega⟩, ?_⟩)
      have hget := nodesD_get l k hlt
      have hks := kids_lt (List.getElem_mem hlt)
      have htk := wtL_take l k hlt
      have hne := wtN_eq l[k]
      have hal := attrsD_len l[k].attrs
      refine E.seq (blockE ?_)
      by_cases hdd : d = 81
      · subst hdd
        refine E.seq (E.of Tryd.wf Tryd.tab_ok ?_)
        repeat (first | refine ⟨fun _ => ?_, fun h => absurd (of_decide_eq_false h) (by omega)⟩ | refine ⟨fun h => absurd (of_decide_eq_true h) (by omega), fun _ => ?_⟩ | refine ⟨fun _ => ?_, fun h => absurd (of_decide_eq_true h) (by omega)⟩ | refine ⟨fun h => absurd (of_decide_eq_false h) (by omega), fun _ => ?_⟩ | refine .inl ⟨⟨by omega, by omega⟩, ?_⟩ | refine ⟨⟨by omega, by omega⟩, ?_⟩)
        exact done 20000 _ (by omega) (fun h => absurd h (by omega))
      · refine E.seq (E.of Tryd.wf Tryd.tab_ok ?_)
        repeat (first | refine ⟨fun _ => ?_, fun h => absurd (of_decide_eq_false h) (by omega)⟩ | refine ⟨fun h => absurd (of_decide_eq_true h) (by omega), fun _ => ?_⟩ | refine ⟨fun _ => ?_, fun h => absurd (of_decide_eq_true h) (by omega)⟩ | refine ⟨fun h => absurd (of_decide_eq_false h) (by omega), fun _ => ?_⟩ | refine .inl ⟨⟨by omega, by omega⟩, ?_⟩ | refine ⟨⟨by omega, by omega⟩, ?_⟩)
        obtain ⟨m1, e1, h1, g1⟩ := min_is l[k].name.length
        obtain ⟨m2, e2, h2, g2⟩ := min_is l[k].text.length
        refine E.seq (drawnT Tryd.wf Tryd.tab_ok Tryd.mixed (by decide +kernel) ?_)
        repeat (first | refine qstep rfl rfl (FinMove.refl _ _ _) ?_ | refine qstep rfl rfl ⟨_, rfl, FinMove.refl _ _ _⟩ ?_ | refine qstep rfl rfl ⟨_, rfl, _, rfl, FinMove.refl _ _ _⟩ ?_ | refine qstep rfl rfl ⟨by simp only [List.length_append, List.length_cons, List.length_nil]; omega, FinMove.refl _ _ _⟩ ?_)
        refine qstep rfl rfl (.inl ⟨⟨by omega, by omega⟩, FinMove.refl _ _ _⟩) ?_
        repeat (first | refine qstep rfl rfl (FinMove.refl _ _ _) ?_ | refine qstep rfl rfl ⟨_, rfl, FinMove.refl _ _ _⟩ ?_ | refine qstep rfl rfl ⟨_, rfl, _, rfl, FinMove.refl _ _ _⟩ ?_ | refine qstep rfl rfl ⟨by simp only [List.length_append, List.length_cons, List.length_nil]; omega, FinMove.refl _ _ _⟩ ?_)
        refine qstep rfl rfl ⟨⟨by omega, by omega⟩, _, hget, rfl, FinMove.refl _ _ _⟩ ?_
        refine qstep rfl rfl (FinMove.refl _ _ _) ?_
        refine qstep rfl rfl ⟨_, rfl, FinMove.refl _ _ _⟩ ?_
        refine qstep rfl rfl (FinMove.refl _ _ _) ?_
        refine qstep (r := .d (.int .i64 (m1 : Int))) rfl rfl (fin_eq (congrArg (fun x => AV.d (.int .i64 x)) e1)) ?_
        refine qstep rfl rfl (.inl ⟨⟨by omega, by omega⟩, FinMove.refl _ _ _⟩) ?_
        refine qstep rfl rfl (FinMove.refl _ _ _) ?_
        refine qstep rfl rfl (FinMove.refl _ _ _) ?_
        refine qstep rfl rfl ⟨⟨by omega, by omega⟩, _, hget, rfl, FinMove.refl _ _ _⟩ ?_
        refine qstep rfl rfl (FinMove.refl _ _ _) ?_
        refine qstep rfl rfl ⟨_, rfl, FinMove.refl _ _ _⟩ ?_
        refine qstep rfl rfl (FinMove.refl _ _ _) ?_
        refine qstep (r := .d (.int .i64 (m2 : Int))) rfl rfl (fin_eq (congrArg (fun x => AV.d (.int .i64 x)) e2)) ?_
        refine qstep rfl rfl (.inl ⟨⟨by omega, by omega⟩, FinMove.refl _ _ _⟩) ?_
        refine qstep rfl rfl (FinMove.refl _ _ _) ?_
        refine midE (fun s' σ => ∃ w3 : Nat, k + 1 ≤ w3 ∧ w3 ≤ 90000 ∧ (w3 < 20000 → w3 = wtL (l.take k) + (1 + l[k].name.length + l[k].text.length + wtA l[k].attrs)) ∧ s' = [(0, .d (.sl (nodesD l))), (1, .d (.int .i64 d)), (5, .d (.int .i64 w3)), (6, .d (.int .i64 k))] ∧ σ = ⟨0, []⟩) ?_ ?_
        · refine E.seq (E.of Tryd.wf Tryd.tab_ok ?_)
          refine blockE ?_
          refine loopE (fun m s' σ => ∃ (j w3 : Nat), m = l[k].attrs.length - j ∧ j ≤ l[k].attrs.length ∧ k + 1 ≤ w3 ∧ j ≤ w3 ∧ w3 ≤ 90000 ∧ (w3 < 20000 → w3 = wtL (l.take k) + (1 + l[k].name.length + l[k].text.length + wtA (l[k].attrs.take j))) ∧ s' = [(0, .d (.sl (nodesD l))), (1, .d (.int .i64 d)), (5, .d (.int .i64 w3)), (6, .d (.int .i64 k)), (7, .d (.int .i64 j))] ∧ σ = ⟨0, []⟩)
            ⟨0, w + 1 + m1 + m2, rfl, Nat.zero_le _, by omega, Nat.zero_le _, by omega, fun h => ?_, rfl, rfl⟩ ?_ ?_
          · have a1 := g1 (by omega)
            have a2 := g2 (by omega)
            rw [List.take_zero]
            show _ = _ + (_ + 0)
            omega
          · exact Mv.of [] rfl rfl rfl trivial ⟨rfl, rfl, rfl, rfl, rfl, trivial⟩
          rintro _ _ _ ⟨j, w3, rfl, hj, hkw3, hjw, hw3B, hw3, rfl, rfl⟩
          refine E.seq (E.of Tryd.wf Tryd.tab_ok ?_)
          by_cases hltj : j < l[k].attrs.length
          · refine ⟨⟨by omega, by omega⟩, _, hget, rfl, _, rfl, ?_⟩
            by_cases hw32 : w3 < 20000
            · have hwj := hw3 hw32
              repeat (first | refine ⟨fun _ => ?_, fun h => absurd (of_decide_eq_false h) (by omega)⟩ | refine ⟨fun h => absurd (of_decide_eq_true h) (by omega), fun _ => ?_⟩ | refine ⟨fun _ => ?_, fun h => absurd (of_decide_eq_true h) (by omega)⟩ | refine ⟨fun h => absurd (of_decide_eq_false h) (by omega), fun _ => ?_⟩ | refine .inl ⟨⟨by omega, by omega⟩, ?_⟩ | refine ⟨⟨by omega, by omega⟩, ?_⟩)
              have hgetj := attrsD_get l[k].attrs j hltj
              have hjk := wtA_take l[k].attrs j hltj
              obtain ⟨m3, e3, h3, g3⟩ := min_is l[k].attrs[j].1.length
              obtain ⟨m4, e4, h4, g4⟩ := min_is l[k].attrs[j].2.length
              refine E.seq (blockE (drawnT Tryd.wf Tryd.tab_ok Tryd.mixed (by decide +kernel) ?_))
              refine qstep rfl rfl (FinMove.refl _ _ _) ?_
              refine qstep rfl rfl (.inl ⟨⟨by omega, by omega⟩, FinMove.refl _ _ _⟩) ?_
              refine qstep rfl rfl (FinMove.refl _ _ _) ?_
              refine qstep rfl rfl (FinMove.refl _ _ _) ?_
              refine qstep rfl rfl ⟨⟨by omega, by omega⟩, _, hget, rfl, FinMove.refl _ _ _⟩ ?_
              refine qstep rfl rfl (FinMove.refl _ _ _) ?_
              refine qstep rfl rfl ⟨_, rfl, FinMove.refl _ _ _⟩ ?_
              refine qstep rfl rfl (FinMove.refl _ _ _) ?_
              refine qstep rfl rfl ⟨⟨by omega, by omega⟩, _, hgetj, rfl, FinMove.refl _ _ _⟩ ?_
              refine qstep rfl rfl (FinMove.refl _ _ _) ?_
              refine qstep rfl rfl ⟨_, rfl, FinMove.refl _ _ _⟩ ?_
              refine qstep rfl rfl (FinMove.refl _ _ _) ?_
              refine qstep (r := .d (.int .i64 (m3 : Int))) rfl rfl (fin_eq (congrArg (fun x => AV.d (.int .i64 x)) e3)) ?_
              refine qstep rfl rfl (.inl ⟨⟨by omega, by omega⟩, FinMove.refl _ _ _⟩) ?_
              refine qstep rfl rfl (FinMove.refl _ _ _) ?_
              refine qstep rfl rfl (FinMove.refl _ _ _) ?_
              refine qstep rfl rfl ⟨⟨by omega, by omega⟩, _, hget, rfl, FinMove.refl _ _ _⟩ ?_
              refine qstep rfl rfl (FinMove.refl _ _ _) ?_
              refine qstep rfl rfl ⟨_, rfl, FinMove.refl _ _ _⟩ ?_
              refine qstep rfl rfl (FinMove.refl _ _ _) ?_
              refine qstep rfl rfl ⟨⟨by omega, by omega⟩, _, hgetj, rfl, FinMove.refl _ _ _⟩ ?_
              refine qstep rfl rfl (FinMove.refl _ _ _) ?_
              refine qstep rfl rfl ⟨_, rfl, FinMove.refl _ _ _⟩ ?_
              refine qstep rfl rfl (FinMove.refl _ _ _) ?_
              refine qstep (r := .d (.int .i64 (m4 : Int))) rfl rfl (fin_eq (congrArg (fun x => AV.d (.int .i64 x)) e4)) ?_
              refine qstep rfl rfl (.inl ⟨⟨by omega, by omega⟩, FinMove.refl _ _ _⟩) ?_
              refine qstep rfl rfl (FinMove.refl _ _ _) ?_
              refine E.of Tryd.wf Tryd.tab_ok ?_
              repeat (first | refine ⟨fun _ => ?_, fun h => absurd (of_decide_eq_false h) (by omega)⟩ | refine ⟨fun h => absurd (of_decide_eq_true h) (by omega), fun _ => ?_⟩ | refine ⟨fun _ => ?_, fun h => absurd (of_decide_eq_true h) (by omega)⟩ | refine ⟨fun h => absurd (of_decide_eq_false h) (by omega), fun _ => ?_⟩ | refine .inl ⟨⟨by omega, by omega⟩, ?_⟩ | refine ⟨⟨by omega, by omega⟩, ?_⟩)
              refine ⟨_, _, _, ⟨j + 1, w3 + 1 + m3 + m4, rfl, hltj, by omega, by omega, by omega, fun h => ?_, rfl, rfl⟩, by omega, Mv.of [] rfl rfl rfl trivial ⟨rfl, rfl, rfl, rfl, rfl, trivial⟩⟩
              have a3 := g3 (by omega)
              have a4 := g4 (by omega)
              rw [hjk]
              omega
            · repeat (first | refine ⟨fun _ => ?_, fun h => absurd (of_decide_eq_false h) (by omega)⟩ | refine ⟨fun h => absurd (of_decide_eq_true h) (by omega), fun _ => ?_⟩ | refine ⟨fun _ => ?_, fun h => absurd (of_decide_eq_true h) (by omega)⟩ | refine ⟨fun h => absurd (of_decide_eq_false h) (by omega), fun _ => ?_⟩ | refine .inl ⟨⟨by omega, by omega⟩, ?_⟩ | refine ⟨⟨by omega, by omega⟩, ?_⟩)
              exact ⟨_, _, ⟨w3, hkw3, hw3B, fun h => absurd h hw32, rfl, rfl⟩, Mv.of [] rfl rfl rfl trivial ⟨rfl, rfl, rfl, rfl, trivial⟩⟩
          · refine ⟨⟨by omega, by omega⟩, _, hget, rfl, _, rfl, ?_⟩
            repeat (first | refine ⟨fun _ => ?_, fun h => absurd (of_decide_eq_false h) (by omega)⟩ | refine ⟨fun h => absurd (of_decide_eq_true h) (by omega), fun _ => ?_⟩ | refine ⟨fun _ => ?_, fun h => absurd (of_decide_eq_true h) (by omega)⟩ | refine ⟨fun h => absurd (of_decide_eq_false h) (by omega), fun _ => ?_⟩ | refine .inl ⟨⟨by omega, by omega⟩, ?_⟩ | refine ⟨⟨by omega, by omega⟩, ?_⟩)
            repeat (first | refine ⟨fun _ => ?_, fun h => absurd h (by decide)⟩ | refine ⟨fun h => absurd h (by decide), fun _ => ?_⟩)
            obtain rfl : j = l[k].attrs.length := by omega
            rw [List.take_length] at hw3
            exact ⟨_, _, ⟨w3, hkw3, hw3B, hw3, rfl, rfl⟩, Mv.of [] rfl rfl rfl trivial ⟨rfl, rfl, rfl, rfl, trivial⟩⟩
        rintro _ _ ⟨w3, hkw3, hw3B, hw3, rfl, rfl⟩
        refine E.of Tryd.wf Tryd.tab_ok ?_
        refine ⟨⟨by omega, by omega⟩, _, hget, rfl, _, rfl, ?_⟩
        repeat (first | refine ⟨fun _ => ?_, fun h => absurd (of_decide_eq_false h) (by omega)⟩ | refine ⟨fun h => absurd (of_decide_eq_true h) (by omega), fun _ => ?_⟩ | refine ⟨fun _ => ?_, fun h => absurd (of_decide_eq_true h) (by omega)⟩ | refine ⟨fun h => absurd (of_decide_eq_false h) (by omega), fun _ => ?_⟩ | refine .inl ⟨⟨by omega, by omega⟩, ?_⟩ | refine ⟨⟨by omega, by omega⟩, ?_⟩)
        refine (ih (szL l[k].kids) (by omega) l[k].kids (d + 1) (Nat.le_refl _) (by omega)).mono ?_
        rintro _ _ ⟨⟨x, rfl, hx1, hx2⟩, rfl⟩
        refine .inl ⟨⟨by omega, by omega⟩, ?_⟩
        refine E.of Tryd.wf Tryd.tab_ok ?_
        repeat (first | refine ⟨fun _ => ?_, fun h => absurd (of_decide_eq_false h) (by omega)⟩ | refine ⟨fun h => absurd (of_decide_eq_true h) (by omega), fun _ => ?_⟩ | refine ⟨fun _ => ?_, fun h => absurd (of_decide_eq_true h) (by omega)⟩ | refine ⟨fun h => absurd (of_decide_eq_false h) (by omega), fun _ => ?_⟩ | refine .inl ⟨⟨by omega, by omega⟩, ?_⟩ | refine ⟨⟨by omega, by omega⟩, ?_⟩)
        refine ⟨_, _, _, ⟨k + 1, w3 + x, rfl, hlt, by omega, by omega, fun h => ?_, rfl, rfl⟩, by omega, Mv.of [] rfl rfl rfl trivial ⟨rfl, rfl, rfl, rfl, trivial⟩⟩
        have a5 := hw3 (by omega)
        have a6 := hx2 (by omega)
        rw [htk, hne]
        omega
    · repeat (first | refine ⟨fun _ => ?_, fun h => absurd (of_decide_eq_false h) (by omega)⟩ | refine ⟨fun h => absurd (of_decide_eq_true h) (by omega), fun _ => ?_⟩ | refine ⟨fun _ => ?_, fun h => absurd (of_decide_eq_true h) (by omega)⟩ | refine ⟨fun h => absurd (of_decide_eq_false h) (by omega), fun _ => ?_⟩ | refine .inl ⟨⟨by omega, by omega⟩, ?_⟩ | refine ⟨⟨by omega, by omega⟩, ?_⟩)
      refine E.of Tryd.wf Tryd.tab_ok ?_
      exact done w _ hwB (fun h => absurd h hw2)
  · repeat (first | refine ⟨fun _ => ?_, fun h => absurd (of_decide_eq_false h) (by omega)⟩ | refine ⟨fun h => absurd (of_decide_eq_true h) (by omega), fun _ => ?_⟩ | refine ⟨fun _ => ?_, fun h => absurd (of_decide_eq_true h) (by omega)⟩ | refine ⟨fun h => absurd (of_decide_eq_false h) (by omega), fun _ => ?_⟩ | refine .inl ⟨⟨by omega, by omega⟩, ?_⟩ | refine ⟨⟨by omega, by omega⟩, ?_⟩)
    repeat (first | refine ⟨fun _ => ?_, fun h => absurd h (by decide)⟩ | refine ⟨fun h => absurd h (by decide), fun _ => ?_⟩)
    refine E.of Tryd.wf Tryd.tab_ok ?_
    obtain rfl : k = l.length := by omega
    rw [List.take_length] at hw
    exact done w _ hwB hw
set_option maxRecDepth 100000 in
/-- Of a tree that passes, all sizes are known to be small. -/
theorem Light_ok (l : List Node) : CallsAbs Tryd.prog 14 [.d (.sl (nodesD l)), .d (.int .i64 0)] ⟨0, []⟩ fun r σ' => (∃ b : Bool, r = .d (.bool b) ∧ (b = true → wtL l < 20000)) ∧ σ' = ⟨0, []⟩ := by
  refine fn_okTE Tryd.wf Tryd.tab_ok Tryd.func14 (by decide +kernel) rfl rfl ?_
  refine E.of Tryd.wf Tryd.tab_ok ?_
  refine (weight_ok (szL l) l 0 (Nat.le_refl _) (by omega)).mono ?_
  rintro _ _ ⟨⟨x, rfl, hx1, hx2⟩, rfl⟩
  refine ⟨_, _, fin_out rfl, ⟨decide (((x : Nat) : Int) < 20000), rfl, fun h => ?_⟩, rfl⟩
  have := of_decide_eq_true h
  have := hx2 (by omega)
  omega
mutual
theorem sz_wtN : ∀ n : Node, szN n ≤ wtN n
  | .mk nm a t k => by
    have := sz_wtL k
    unfold szN wtN
    omega
theorem sz_wtL : ∀ l : List Node, szL l ≤ wtL l
  | [] => by simp [szL]
  | n :: r => by
    have h1 := sz_wtN n
    have h2 := sz_wtL r
    unfold szL wtL
    omega
end
theorem wtA_mem {l : List (List UInt8 × List UInt8)} {a : List UInt8 × List UInt8} (h : a ∈ l) : 1 + a.1.length + a.2.length ≤ wtA l := by
  induction l with
  | nil => cases h
  | cons b r ih =>
    have e : wtA (b :: r) = (1 + b.1.length + b.2.length) + wtA r := rfl
    rcases List.mem_cons.1 h with rfl | h
    · omega
    · have := ih h; omega
theorem wtA_len (l : List (List UInt8 × List UInt8)) : l.length ≤ wtA l := by
  induction l with
  | nil => exact Nat.le_refl _
  | cons b r ih =>
    have e : wtA (b :: r) = (1 + b.1.length + b.2.length) + wtA r := rfl
    simp only [List.length_cons]; omega
theorem Short_wt {l : List (List UInt8 × List UInt8)} (h : wtA l ≤ 1000000000) : Short l :=
  ⟨by have := wtA_len l; omega, fun a ha => by have := wtA_mem ha; omega⟩
mutual
theorem Sh_wtN : ∀ n : Node, wtN n ≤ 1000000000 → ShN n
  | .mk nm a t k => fun h => by
    unfold wtN at h
    unfold ShN
    exact ⟨by omega, Short_wt (by omega), by omega, Sh_wtL k (by omega)⟩
theorem Sh_wtL : ∀ l : List Node, wtL l ≤ 1000000000 → ShL l
  | [] => fun _ => by simp [ShL]
  | n :: r => fun h => by
    unfold wtL at h
    unfold ShL
    exact ⟨Sh_wtN n (by omega), Sh_wtL r (by omega)⟩
end
end Go.Proofs.YtfchacihhljfhaaDoor

namespace Go.Proofs.YtfchacihhljfhaaDoor
open Go.Aw
set_option maxHeartbeats 1600000
set_option linter.unusedSimpArgs false
set_option linter.unusedVariables false
def awP : Pol := ⟨1, [[97]], [[97, 46, 104, 114, 101, 102]], [[104, 116, 116, 112, 115]], [], [], 9, 99, 999⟩
def awH : At := (hrefN, [104, 116, 116, 112, 115, 58, 47, 47, 120])
def awR : At := (relN, forcedB)
def awT : List Node := [.mk [97] [awH, awR] [] []]
def awU : List Node := [.mk [97] [awH] [] []]
theorem aw_safe : safeB awP awT = true ∧ safeB awP awU = false := by decide +kernel
theorem aw_fits : Fits awP := ⟨⟨by decide, by decide⟩, ⟨by decide, by decide⟩, ⟨by decide, by decide⟩, ⟨by decide, by decide⟩, ⟨by decide, by decide⟩⟩
theorem aw_fit : FitL awT ∧ FitL awU ∧ ShL awT ∧ ShL awU := by
  refine ⟨?_, ?_, ?_, ?_⟩
  · unfold awT; rw [FitL, FitN_eq]; exact ⟨⟨⟨by decide, by decide, by decide⟩, by unfold Node.kids; rw [FitL]; trivial⟩, by rw [FitL]; trivial⟩
  · unfold awU; rw [FitL, FitN_eq]; exact ⟨⟨⟨by decide, by decide, by decide⟩, by unfold Node.kids; rw [FitL]; trivial⟩, by rw [FitL]; trivial⟩
  · exact Sh_wtL _ (by decide +kernel)
  · exact Sh_wtL _ (by decide +kernel)
set_option maxRecDepth 100000 in
set_option maxHeartbeats 1000000 in
theorem awake_ok : PureC Tryd.prog 8 [] (.d (.bool true)) := by
  have h1 := Safe_ok awP awT aw_fits (by decide +kernel) aw_fit.1 aw_fit.2.2.1
  have h2 := Safe_ok awP awU aw_fits (by decide +kernel) aw_fit.2.1 aw_fit.2.2.2
  rw [aw_safe.1] at h1
  rw [aw_safe.2] at h2
  refine pure_okT Tryd.wf Tryd.tab_ok Tryd.func8 (by decide +kernel) rfl rfl rfl rfl ?_
  repeat' (first |                        refine ⟨fun _ => ?_, fun h => absurd h (by decide)⟩ | refine ⟨fun h => absurd h (by decide), fun _ => ?_⟩ | (refine ⟨fun h => ?_, fun h => ?_⟩ <;> (try simp only [decide_eq_true_eq, decide_eq_false_iff_not, Bool.not_eq_true', Bool.not_eq_false', Bool.not_eq_true, Bool.not_eq_false, not_true_eq_false, beq_iff_eq, beq_eq_false_iff_ne, ne_eq, decide_eq_decide, true_iff, false_iff, iff_true, iff_false, true_and, and_true, false_or, or_false, Bool.and_true, Bool.and_eq_true, Bool.and_eq_false_iff, Bool.or_eq_true, Bool.or_eq_false_iff, List.length_cons, List.length_nil] at h) <;> (try (exfalso; first | omega | exact h rfl | (cases h; done) | exact absurd h (by assumption) | exact h (by assumption) | (simp at h; done)))) | refine ⟨⟨by (first | omega | (simp only [lenS]; omega)), by (first | omega | (simp only [lenS]; omega))⟩, _, by assumption, by rfl, ?_⟩ | refine .inl ⟨⟨by (first | omega | (simp only [lenS]; omega)), by (first | omega | (simp only [lenS]; omega))⟩, ?_⟩ | refine ⟨⟨by (first | omega | (simp only [lenS]; omega)), by (first | omega | (simp only [lenS]; omega))⟩, ?_⟩ | refine ⟨⟨by (first | omega | (simp only [lenS]; omega)), by (first | omega | (simp only [lenS]; omega)), by (first | omega | (simp only [lenS]; omega))⟩, ?_⟩ | refine ⟨.inl rfl, ?_⟩ | refine ⟨.inr (.inl (by (first | omega | (simp only [lenS]; omega)))), ?_⟩ | refine ⟨_, rfl, rfl, by (first | exact Nat.le_refl _ | exact Nat.le_of_ble_eq_true rfl | decide), ?_⟩ | refine ⟨_, rfl, by (first | exact Nat.le_refl _ | exact Nat.le_of_ble_eq_true rfl | decide), ?_⟩ | refine ⟨by (first | exact Nat.le_refl _ | exact Nat.le_of_ble_eq_true rfl | decide | exact rfl), ?_⟩ | refine ⟨show _ ≤ (9223372036854775807 : Nat) by (first | omega | (simp only [lenS]; omega)), ?_⟩ | refine ⟨show _ ≠ (0 : Int) by (first | omega | (simp only [lenS]; omega)), ?_⟩ | refine ⟨_, rfl, _, rfl, ?_⟩ | refine ⟨_, by assumption, Nat.le_of_ble_eq_true rfl, ?_⟩ | refine ⟨_, by assumption, _, rfl, ?_⟩ | refine ⟨_, rfl, ?_⟩ | fail)
  refine CallsAbs.use1 (PureC.borrow 3 h1 rfl (by rfl)) ?_
  repeat' (first |                        refine ⟨fun _ => ?_, fun h => absurd h (by decide)⟩ | refine ⟨fun h => absurd h (by decide), fun _ => ?_⟩ | (refine ⟨fun h => ?_, fun h => ?_⟩ <;> (try simp only [decide_eq_true_eq, decide_eq_false_iff_not, Bool.not_eq_true', Bool.not_eq_false', Bool.not_eq_true, Bool.not_eq_false, not_true_eq_false, beq_iff_eq, beq_eq_false_iff_ne, ne_eq, decide_eq_decide, true_iff, false_iff, iff_true, iff_false, true_and, and_true, false_or, or_false, Bool.and_true, Bool.and_eq_true, Bool.and_eq_false_iff, Bool.or_eq_true, Bool.or_eq_false_iff, List.length_cons, List.length_nil] at h) <;> (try (exfalso; first | omega | exact h rfl | (cases h; done) | exact absurd h (by assumption) | exact h (by assumption) | (simp at h; done)))) | refine ⟨⟨by (first | omega | (simp only [lenS]; omega)), by (first | omega | (simp only [lenS]; omega))⟩, _, by assumption, by rfl, ?_⟩ | refine .inl ⟨⟨by (first | omega | (simp only [lenS]; omega)), by (first | omega | (simp only [lenS]; omega))⟩, ?_⟩ | refine ⟨⟨by (first | omega | (simp only [lenS]; omega)), by (first | omega | (simp only [lenS]; omega))⟩, ?_⟩ | refine ⟨⟨by (first | omega | (simp only [lenS]; omega)), by (first | omega | (simp only [lenS]; omega)), by (first | omega | (simp only [lenS]; omega))⟩, ?_⟩ | refine ⟨.inl rfl, ?_⟩ | refine ⟨.inr (.inl (by (first | omega | (simp only [lenS]; omega)))), ?_⟩ | refine ⟨_, rfl, rfl, by (first | exact Nat.le_refl _ | exact Nat.le_of_ble_eq_true rfl | decide), ?_⟩ | refine ⟨_, rfl, by (first | exact Nat.le_refl _ | exact Nat.le_of_ble_eq_true rfl | decide), ?_⟩ | refine ⟨by (first | exact Nat.le_refl _ | exact Nat.le_of_ble_eq_true rfl | decide | exact rfl), ?_⟩ | refine ⟨show _ ≤ (9223372036854775807 : Nat) by (first | omega | (simp only [lenS]; omega)), ?_⟩ | refine ⟨show _ ≠ (0 : Int) by (first | omega | (simp only [lenS]; omega)), ?_⟩ | refine ⟨_, rfl, _, rfl, ?_⟩ | refine ⟨_, by assumption, Nat.le_of_ble_eq_true rfl, ?_⟩ | refine ⟨_, by assumption, _, rfl, ?_⟩ | refine ⟨_, rfl, ?_⟩ | fail)
  refine CallsAbs.use1 (PureC.borrow 3 h2 rfl (by rfl)) ?_
  repeat' (first |                        refine ⟨fun _ => ?_, fun h => absurd h (by decide)⟩ | refine ⟨fun h => absurd h (by decide), fun _ => ?_⟩ | (refine ⟨fun h => ?_, fun h => ?_⟩ <;> (try simp only [decide_eq_true_eq, decide_eq_false_iff_not, Bool.not_eq_true', Bool.not_eq_false', Bool.not_eq_true, Bool.not_eq_false, not_true_eq_false, beq_iff_eq, beq_eq_false_iff_ne, ne_eq, decide_eq_decide, true_iff, false_iff, iff_true, iff_false, true_and, and_true, false_or, or_false, Bool.and_true, Bool.and_eq_true, Bool.and_eq_false_iff, Bool.or_eq_true, Bool.or_eq_false_iff, List.length_cons, List.length_nil] at h) <;> (try (exfalso; first | omega | exact h rfl | (cases h; done) | exact absurd h (by assumption) | exact h (by assumption) | (simp at h; done)))) | refine ⟨⟨by (first | omega | (simp only [lenS]; omega)), by (first | omega | (simp only [lenS]; omega))⟩, _, by assumption, by rfl, ?_⟩ | refine .inl ⟨⟨by (first | omega | (simp only [lenS]; omega)), by (first | omega | (simp only [lenS]; omega))⟩, ?_⟩ | refine ⟨⟨by (first | omega | (simp only [lenS]; omega)), by (first | omega | (simp only [lenS]; omega))⟩, ?_⟩ | refine ⟨⟨by (first | omega | (simp only [lenS]; omega)), by (first | omega | (simp only [lenS]; omega)), by (first | omega | (simp only [lenS]; omega))⟩, ?_⟩ | refine ⟨.inl rfl, ?_⟩ | refine ⟨.inr (.inl (by (first | omega | (simp only [lenS]; omega)))), ?_⟩ | refine ⟨_, rfl, rfl, by (first | exact Nat.le_refl _ | exact Nat.le_of_ble_eq_true rfl | decide), ?_⟩ | refine ⟨_, rfl, by (first | exact Nat.le_refl _ | exact Nat.le_of_ble_eq_true rfl | decide), ?_⟩ | refine ⟨by (first | exact Nat.le_refl _ | exact Nat.le_of_ble_eq_true rfl | decide | exact rfl), ?_⟩ | refine ⟨show _ ≤ (9223372036854775807 : Nat) by (first | omega | (simp only [lenS]; omega)), ?_⟩ | refine ⟨show _ ≠ (0 : Int) by (first | omega | (simp only [lenS]; omega)), ?_⟩ | refine ⟨_, rfl, _, rfl, ?_⟩ | refine ⟨_, by assumption, Nat.le_of_ble_eq_true rfl, ?_⟩ | refine ⟨_, by assumption, _, rfl, ?_⟩ | refine ⟨_, rfl, ?_⟩ | fail)
  exact ⟨_, _, fin_out rfl, rfl⟩
end Go.Proofs.YtfchacihhljfhaaDoor

namespace Go.Proofs.YtfchacihhljfhaaDoor
open Go.Aw
set_option maxHeartbeats 1600000
set_option linter.unusedSimpArgs false
set_option linter.unusedVariables false
theorem agg_str : isAggB Tryd.prog 9 = false := by kernel_rfl
theorem agg_bool : isAggB Tryd.prog 4 = false := by kernel_rfl
theorem arg_str (s : List UInt8) : argAV Tryd.prog 9 [.str s] = .d (.str s) := by rw [argAV, agg_str]; rfl
theorem arg_bool (b : Bool) : argAV Tryd.prog 4 [.bool b] = .d (.bool b) := by rw [argAV, agg_bool]; rfl
theorem dok_str {n : Nat} {row : List D} (h : DOk Tryd.prog n 9 row) : ∃ s, row = [.str s] ∧ s.length ≤ 140737488351232 := by
  cases n with
  | zero => exact h.elim
  | succ n => simp only [DOk, Tryd.underlying9] at h; exact h
theorem dok_int {n : Nat} {row : List D} (h : DOk Tryd.prog n 3 row) : ∃ x, row = [.int .i64 x] ∧ -9223372036854775808 ≤ x ∧ x ≤ 9223372036854775807 := by
  cases n with
  | zero => exact h.elim
  | succ n => simp only [DOk, Tryd.underlying3] at h; exact h
theorem dok_bool {n : Nat} {row : List D} (h : DOk Tryd.prog n 4 row) : ∃ b, row = [.bool b] := by
  cases n with
  | zero => exact h.elim
  | succ n => simp only [DOk, Tryd.underlying4] at h; exact h
theorem bytes_str : Tryd.prog.bytesOf 9 = 16 := by kernel_rfl
theorem dok_strs {n : Nat} {row : List D} (h : DOk Tryd.prog n 22 row) : ∃ l : List (List UInt8), row = [.sl (strsD l)] ∧ l.length * 16 ≤ 140737488351232 ∧ ∀ s ∈ l, s.length ≤ 140737488351232 := by
  cases n with
  | zero => exact h.elim
  | succ n =>
    simp only [DOk, Tryd.underlying22] at h
    obtain ⟨rows, rfl, h1, h2⟩ := h
    rw [bytes_str] at h1
    have : ∃ l : List (List UInt8), rows = strsD l ∧ ∀ s ∈ l, s.length ≤ 140737488351232 := by
      clear h1
      induction rows with
      | nil => exact ⟨[], rfl, by simp⟩
      | cons r rs ih =>
        obtain ⟨s, rfl, hs⟩ := dok_str (h2 r (by simp))
        obtain ⟨l, rfl, hl⟩ := ih (fun q hq => h2 q (by simp [hq]))
        exact ⟨s :: l, rfl, by simpa using ⟨hs, hl⟩⟩
    obtain ⟨l, rfl, hl⟩ := this
    exact ⟨l, rfl, by simpa [strsD] using h1, hl⟩
end Go.Proofs.YtfchacihhljfhaaDoor

namespace Go.Proofs.YtfchacihhljfhaaDoor
open Go.Aw
set_option maxHeartbeats 1600000
set_option linter.unusedSimpArgs false
set_option linter.unusedVariables false
theorem agg_nodes : isAggB Tryd.prog 31 = false := by kernel_rfl
theorem arg_nodes (r : List (List D)) : argAV Tryd.prog 31 [.sl r] = .d (.sl r) := by rw [argAV, agg_nodes]; rfl
theorem cells_str : Tryd.prog.cellsOf 9 = 1 := by kernel_rfl
theorem cells_attr : Tryd.prog.cellsOf 26 = 2 := by kernel_rfl
theorem cells_attrs : Tryd.prog.cellsOf 34 = 1 := by kernel_rfl
theorem cells_node : Tryd.prog.cellsOf 36 = 4 := by kernel_rfl
theorem cells_nodes : Tryd.prog.cellsOf 31 = 1 := by kernel_rfl
theorem len2 {α : Type} {l : List α} (h : l.length = 2) : ∃ a b, l = [a, b] := by
  cases l with
  | nil => cases h
  | cons a l => cases l with
    | nil => cases h
    | cons b l => cases l with
      | nil => exact ⟨a, b, rfl⟩
      | cons c l => simp at h
theorem len4 {α : Type} {l : List α} (h : l.length = 4) : ∃ a b c d, l = [a, b, c, d] := by
  cases l with
  | nil => cases h
  | cons a l => cases l with
    | nil => cases h
    | cons b l => cases l with
      | nil => cases h
      | cons c l => cases l with
        | nil => cases h
        | cons d l => cases l with
          | nil => exact ⟨a, b, c, d, rfl⟩
          | cons c l => simp at h
theorem dok_attr {n : Nat} {row : List D} (h : DOk Tryd.prog n 26 row) : ∃ a : List UInt8 × List UInt8, row = attrD a := by
  cases n with
  | zero => exact h.elim
  | succ n =>
    simp only [DOk, Tryd.underlying26] at h
    obtain ⟨hl, hf⟩ := h
    rw [cells_attr] at hl
    obtain ⟨x, y, rfl⟩ := len2 hl
    have f1 := hf _ (List.mem_cons_self ..)
    have f2 := hf _ (List.mem_cons_of_mem _ (List.mem_cons_self ..))
    simp only [cells_str] at f1 f2
    obtain ⟨a, ha, _⟩ := dok_str f1
    obtain ⟨b, hb, _⟩ := dok_str f2
    simp at ha hb
    subst ha; subst hb
    exact ⟨(a, b), rfl⟩
theorem dok_attrs {n : Nat} {row : List D} (h : DOk Tryd.prog n 34 row) : ∃ l : List (List UInt8 × List UInt8), row = [.sl (attrsD l)] := by
  cases n with
  | zero => exact h.elim
  | succ n =>
    simp only [DOk, Tryd.underlying34] at h
    obtain ⟨rows, rfl, hbb, h2⟩ := h
    have : ∃ l : List (List UInt8 × List UInt8), rows = attrsD l := by
      clear hbb
      induction rows with
      | nil => exact ⟨[], rfl⟩
      | cons r rs ih =>
        obtain ⟨a, rfl⟩ := dok_attr (h2 r (by simp))
        obtain ⟨l, rfl⟩ := ih (fun q hq => h2 q (by simp [hq]))
        exact ⟨a :: l, rfl⟩
    obtain ⟨l, rfl⟩ := this
    exact ⟨l, rfl⟩
theorem dok_nodes (n : Nat) : ∀ {row : List D}, DOk Tryd.prog n 31 row → ∃ l : List Node, row = [.sl (nodesD l)] := by
  induction n using Nat.strongRecOn with
  | ind n ih =>
  intro row h
  cases n with
  | zero => exact h.elim
  | succ n =>
    simp only [DOk, Tryd.underlying31] at h
    obtain ⟨rows, rfl, hbb, h2⟩ := h
    cases n with
    | zero =>
      cases rows with
      | nil => exact ⟨[], by unfold nodesD; rfl⟩
      | cons r rs => exact (h2 r (by simp)).elim
    | succ n =>
      simp only [DOk, Tryd.underlying36] at h2
      have each : ∀ r ∈ rows, ∃ nd : Node, r = nodeD nd := by
        intro r hr
        obtain ⟨hl, hf⟩ := h2 r hr
        rw [cells_node] at hl
        obtain ⟨x, y, z, u, rfl⟩ := len4 hl
        have f1 := hf _ (List.mem_cons_self ..)
        have f2 := hf _ (List.mem_cons_of_mem _ (List.mem_cons_self ..))
        have f3 := hf _ (List.mem_cons_of_mem _ (List.mem_cons_of_mem _ (List.mem_cons_self ..)))
        have f4 := hf _ (List.mem_cons_of_mem _ (List.mem_cons_of_mem _ (List.mem_cons_of_mem _ (List.mem_cons_self ..))))
        simp only [cells_str, cells_attrs, cells_nodes] at f1 f2 f3 f4
        obtain ⟨a, ha, _⟩ := dok_str f1
        obtain ⟨b, hb⟩ := dok_attrs f2
        obtain ⟨c, hc, _⟩ := dok_str f3
        obtain ⟨d, hd⟩ := ih n (by omega) f4
        simp at ha hb hc hd
        subst ha; subst hb; subst hc; subst hd
        exact ⟨.mk a b c d, by unfold nodeD; rfl⟩
      have : ∃ l : List Node, rows = nodesD l := by
        clear h2 ih hbb
        induction rows with
        | nil => exact ⟨[], by unfold nodesD; rfl⟩
        | cons r rs ih =>
          obtain ⟨a, rfl⟩ := each r (by simp)
          obtain ⟨l, rfl⟩ := ih (fun q hq => each q (by simp [hq]))
          exact ⟨a :: l, by rw [nodesD]⟩
      obtain ⟨l, rfl⟩ := this
      exact ⟨l, rfl⟩
end Go.Proofs.YtfchacihhljfhaaDoor

namespace Go.Proofs.YtfchacihhljfhaaDoor
open Go.Aw
set_option maxHeartbeats 1600000
set_option linter.unusedSimpArgs false
set_option linter.unusedVariables false
theorem agg_pol : isAggB Tryd.prog 24 = true := by kernel_rfl
theorem arg_pol (p : Pol) : argAV Tryd.prog 24 (polD p) = polA p := by rw [argAV, agg_pol]; rfl
theorem cells_int0 : Tryd.prog.cellsOf 3 = 1 := by kernel_rfl
theorem cells_strs0 : Tryd.prog.cellsOf 22 = 1 := by kernel_rfl
theorem cells_pol : Tryd.prog.cellsOf 24 = 9 := by kernel_rfl
theorem len9 {α : Type} {l : List α} (h : l.length = 9) : ∃ a b c d e f g h i, l = [a, b, c, d, e, f, g, h, i] := by
  match l, h with
  | [a, b, c, d, e, f, g, h, i], _ => exact ⟨a, b, c, d, e, f, g, h, i, rfl⟩
theorem dok_pol {n : Nat} {row : List D} (h : DOk Tryd.prog n 24 row) : ∃ p : Pol, row = polD p := by
  cases n with
  | zero => exact h.elim
  | succ n =>
    simp only [DOk, Tryd.underlying24] at h
    obtain ⟨hl, hf⟩ := h
    rw [cells_pol] at hl
    obtain ⟨a, b, c, d, e, f, g, h, i, rfl⟩ := len9 hl
    have f1 := hf _ (List.mem_cons_self ..)
    have f2 := hf _ (List.mem_cons_of_mem _ (List.mem_cons_self ..))
    have f3 := hf _ (List.mem_cons_of_mem _ (List.mem_cons_of_mem _ (List.mem_cons_self ..)))
    have f4 := hf _ (List.mem_cons_of_mem _ (List.mem_cons_of_mem _ (List.mem_cons_of_mem _ (List.mem_cons_self ..))))
    have f5 := hf _ (List.mem_cons_of_mem _ (List.mem_cons_of_mem _ (List.mem_cons_of_mem _ (List.mem_cons_of_mem _ (List.mem_cons_self ..)))))
    have f6 := hf _ (List.mem_cons_of_mem _ (List.mem_cons_of_mem _ (List.mem_cons_of_mem _ (List.mem_cons_of_mem _ (List.mem_cons_of_mem _ (List.mem_cons_self ..))))))
    have f7 := hf _ (List.mem_cons_of_mem _ (List.mem_cons_of_mem _ (List.mem_cons_of_mem _ (List.mem_cons_of_mem _ (List.mem_cons_of_mem _ (List.mem_cons_of_mem _ (List.mem_cons_self ..)))))))
    have f8 := hf _ (List.mem_cons_of_mem _ (List.mem_cons_of_mem _ (List.mem_cons_of_mem _ (List.mem_cons_of_mem _ (List.mem_cons_of_mem _ (List.mem_cons_of_mem _ (List.mem_cons_of_mem _ (List.mem_cons_self ..))))))))
    have f9 := hf _ (List.mem_cons_of_mem _ (List.mem_cons_of_mem _ (List.mem_cons_of_mem _ (List.mem_cons_of_mem _ (List.mem_cons_of_mem _ (List.mem_cons_of_mem _ (List.mem_cons_of_mem _ (List.mem_cons_of_mem _ (List.mem_cons_self ..)))))))))
    simp only [cells_int0, cells_strs0] at f1 f2 f3 f4 f5 f6 f7 f8 f9
    obtain ⟨x1, e1, _⟩ := dok_int f1
    obtain ⟨x2, e2, _⟩ := dok_strs f2
    obtain ⟨x3, e3, _⟩ := dok_strs f3
    obtain ⟨x4, e4, _⟩ := dok_strs f4
    obtain ⟨x5, e5, _⟩ := dok_strs f5
    obtain ⟨x6, e6, _⟩ := dok_strs f6
    obtain ⟨x7, e7, _⟩ := dok_int f7
    obtain ⟨x8, e8, _⟩ := dok_int f8
    obtain ⟨x9, e9, _⟩ := dok_int f9
    simp at e1 e2 e3 e4 e5 e6 e7 e8 e9
    subst e1; subst e2; subst e3; subst e4; subst e5; subst e6; subst e7; subst e8; subst e9
    exact ⟨⟨x1, x2, x3, x4, x5, x6, x7, x8, x9⟩, rfl⟩
end Go.Proofs.YtfchacihhljfhaaDoor

namespace Go.Proofs.YtfchacihhljfhaaDoor
open Go.Aw
set_option maxHeartbeats 1600000
set_option linter.unusedSimpArgs false
set_option linter.unusedVariables false
mutual
theorem Fit_wtN : ∀ n : Node, wtN n ≤ 100000 → FitN n
  | .mk nm a t k, h => by
    rw [wtN] at h
    rw [FitN]
    have h1 := wtA_len a
    exact ⟨⟨by show nm.length ≤ _; omega, by show a.length ≤ _; omega, fun x hx => by have := wtA_mem (show x ∈ a from hx); omega⟩, Fit_wtL k (by omega)⟩
theorem Fit_wtL : ∀ l : List Node, wtL l ≤ 100000 → FitL l
  | [], _ => by rw [FitL]; trivial
  | n :: r, h => by
    rw [wtL_cons] at h
    rw [FitL]
    exact ⟨Fit_wtN n (by omega), Fit_wtL r (by omega)⟩
end
theorem Safe_light (p : Pol) (l : List Node) (hp : Fits p) (h : wtL l < 20000) : PureC Tryd.prog 15 [polA p, .d (.sl (nodesD l))] (.d (.bool (safeB p l))) :=
  Safe_ok p l hp (by have := sz_wtL l; omega) (Fit_wtL l (by omega)) (Sh_wtL l (by omega))
theorem Light_at (l : List Node) (σ : Store) {K : AV → Store → Prop} (h : ∀ b : Bool, (b = true → wtL l < 20000) → K (.d (.bool b)) σ) : CallsAbs Tryd.prog 14 [.d (.sl (nodesD l)), .d (.int .i64 0)] σ K := by
  refine CallsAbs.frame (Light_ok l) [] ⟨Nat.zero_le _, rfl, rfl, trivial⟩ ⟨rfl, rfl, trivial⟩ ?_
  rintro _ _ ⟨⟨b, rfl, hb⟩, rfl⟩
  exact ⟨.d (.bool b), [], trivial, rfl, rfl, h b hb⟩
end Go.Proofs.YtfchacihhljfhaaDoor

namespace Go.Proofs.YtfchacihhljfhaaDoor
open Go.Aw
set_option maxHeartbeats 1600000
set_option linter.unusedSimpArgs false
set_option linter.unusedVariables false
theorem pnil_sub (p : Pol) : Sub (.agg [polA p, .nil]) (.agg [polA p, .d (.sl [])]) := Sub.agg rfl (fun i x y hx hy => by
  match i with
  | 0 => cases hx; cases hy; exact Sub.refl _
  | 1 => cases hx; cases hy; exact Sub.nil
  | k + 2 => simp at hx)
set_option maxRecDepth 100000 in
set_option maxHeartbeats 2000000 in
theorem SafeText_ok (p : Pol) (s : List UInt8) : PureC Tryd.prog 6 [polA p, .d (.str s)] (.d (.bool true)) := by
  have hc1 := awake_ok
  have hc2 := pLight_ok p
  cases hlp : lightP p with
  | false =>
    rw [hlp] at hc2
    refine pure_okT Tryd.wf Tryd.tab_ok Tryd.func6 (by decide +kernel) rfl rfl rfl rfl ?_
    repeat' (first | refine PureC.use hc1 ?_ | refine PureC.use hc2 ?_ | refine PureC.use hc3 ?_ |                     refine ⟨fun _ => ?_, fun h => absurd h (by decide)⟩ | refine ⟨fun h => absurd h (by decide), fun _ => ?_⟩ | (refine ⟨fun h => ?_, fun h => ?_⟩ <;> (try simp only [decide_eq_true_eq, decide_eq_false_iff_not, Bool.not_eq_true', Bool.not_eq_false', Bool.not_eq_true, Bool.not_eq_false, not_true_eq_false, beq_iff_eq, beq_eq_false_iff_ne, ne_eq, decide_eq_decide, true_iff, false_iff, iff_true, iff_false, true_and, and_true, false_or, or_false, Bool.and_true, Bool.and_eq_true, Bool.and_eq_false_iff, Bool.or_eq_true, Bool.or_eq_false_iff, List.length_cons, List.length_nil] at h) <;> (try (exfalso; first | omega | exact h rfl | (cases h; done) | exact absurd h (by assumption) | exact h (by assumption) | (simp at h; done)))) | refine ⟨⟨by (first | omega | (simp only [lenS]; omega)), by (first | omega | (simp only [lenS]; omega))⟩, _, by assumption, by rfl, ?_⟩ | refine .inl ⟨⟨by (first | omega | (simp only [lenS]; omega)), by (first | omega | (simp only [lenS]; omega))⟩, ?_⟩ | refine ⟨⟨by (first | omega | (simp only [lenS]; omega)), by (first | omega | (simp only [lenS]; omega))⟩, ?_⟩ | refine ⟨⟨by (first | omega | (simp only [lenS]; omega)), by (first | omega | (simp only [lenS]; omega)), by (first | omega | (simp only [lenS]; omega))⟩, ?_⟩ | refine ⟨.inl rfl, ?_⟩ | refine ⟨.inr (.inl (by (first | omega | (simp only [lenS]; omega)))), ?_⟩ | refine ⟨_, rfl, rfl, by (first | exact Nat.le_refl _ | exact Nat.le_of_ble_eq_true rfl | decide), ?_⟩ | refine ⟨_, rfl, by (first | exact Nat.le_refl _ | exact Nat.le_of_ble_eq_true rfl | decide), ?_⟩ | refine ⟨by (first | exact Nat.le_refl _ | exact Nat.le_of_ble_eq_true rfl | decide | exact rfl), ?_⟩ | refine ⟨show _ ≤ (9223372036854775807 : Nat) by (first | omega | (simp only [lenS]; omega)), ?_⟩ | refine ⟨show _ ≠ (0 : Int) by (first | omega | (simp only [lenS]; omega)), ?_⟩ | refine ⟨_, rfl, _, rfl, ?_⟩ | refine ⟨_, by assumption, Nat.le_of_ble_eq_true rfl, ?_⟩ | refine ⟨_, by assumption, _, rfl, ?_⟩ | refine ⟨_, rfl, ?_⟩ | fail)
    exact ⟨_, _, fin_out rfl, rfl⟩
  | true =>
    rw [hlp] at hc2
    have hp := light_fits hlp
    have hc3 := Right_ok p hp
    by_cases hl : s.length ≤ 3000
    · cases hr : rightB p with
      | false =>
        rw [hr] at hc3
        refine pure_okT Tryd.wf Tryd.tab_ok Tryd.func6 (by decide +kernel) rfl rfl rfl rfl ?_
        repeat' (first | refine PureC.use hc1 ?_ | refine PureC.use hc2 ?_ | refine PureC.use hc3 ?_ |                     refine ⟨fun _ => ?_, fun h => absurd h (by decide)⟩ | refine ⟨fun h => absurd h (by decide), fun _ => ?_⟩ | (refine ⟨fun h => ?_, fun h => ?_⟩ <;> (try simp only [decide_eq_true_eq, decide_eq_false_iff_not, Bool.not_eq_true', Bool.not_eq_false', Bool.not_eq_true, Bool.not_eq_false, not_true_eq_false, beq_iff_eq, beq_eq_false_iff_ne, ne_eq, decide_eq_decide, true_iff, false_iff, iff_true, iff_false, true_and, and_true, false_or, or_false, Bool.and_true, Bool.and_eq_true, Bool.and_eq_false_iff, Bool.or_eq_true, Bool.or_eq_false_iff, List.length_cons, List.length_nil] at h) <;> (try (exfalso; first | omega | exact h rfl | (cases h; done) | exact absurd h (by assumption) | exact h (by assumption) | (simp at h; done)))) | refine ⟨⟨by (first | omega | (simp only [lenS]; omega)), by (first | omega | (simp only [lenS]; omega))⟩, _, by assumption, by rfl, ?_⟩ | refine .inl ⟨⟨by (first | omega | (simp only [lenS]; omega)), by (first | omega | (simp only [lenS]; omega))⟩, ?_⟩ | refine ⟨⟨by (first | omega | (simp only [lenS]; omega)), by (first | omega | (simp only [lenS]; omega))⟩, ?_⟩ | refine ⟨⟨by (first | omega | (simp only [lenS]; omega)), by (first | omega | (simp only [lenS]; omega)), by (first | omega | (simp only [lenS]; omega))⟩, ?_⟩ | refine ⟨.inl rfl, ?_⟩ | refine ⟨.inr (.inl (by (first | omega | (simp only [lenS]; omega)))), ?_⟩ | refine ⟨_, rfl, rfl, by (first | exact Nat.le_refl _ | exact Nat.le_of_ble_eq_true rfl | decide), ?_⟩ | refine ⟨_, rfl, by (first | exact Nat.le_refl _ | exact Nat.le_of_ble_eq_true rfl | decide), ?_⟩ | refine ⟨by (first | exact Nat.le_refl _ | exact Nat.le_of_ble_eq_true rfl | decide | exact rfl), ?_⟩ | refine ⟨show _ ≤ (9223372036854775807 : Nat) by (first | omega | (simp only [lenS]; omega)), ?_⟩ | refine ⟨show _ ≠ (0 : Int) by (first | omega | (simp only [lenS]; omega)), ?_⟩ | refine ⟨_, rfl, _, rfl, ?_⟩ | refine ⟨_, by assumption, Nat.le_of_ble_eq_true rfl, ?_⟩ | refine ⟨_, by assumption, _, rfl, ?_⟩ | refine ⟨_, rfl, ?_⟩ | fail)
        exact ⟨_, _, fin_out rfl, rfl⟩
      | true =>
        rw [hr] at hc3
        have h0 := Safe_light p [] hp (by rw [wtL]; decide)
        have h1 := Safe_light p [.mk [] [] s []] hp (by rw [wtL_cons, wtN_eq, wtL]; show 1 + 0 + s.length + wtA [] + wtL [] + 0 < 20000; rw [wtL]; show 1 + 0 + s.length + 0 + 0 + 0 < 20000; omega)
        rw [safe_nil hr] at h0
        rw [safe_text hr] at h1
        refine pure_okT Tryd.wf Tryd.tab_ok Tryd.func6 (by decide +kernel) rfl rfl rfl rfl ?_
        repeat' (first | refine PureC.use hc1 ?_ | refine PureC.use hc2 ?_ | refine PureC.use hc3 ?_ |                     refine ⟨fun _ => ?_, fun h => absurd h (by decide)⟩ | refine ⟨fun h => absurd h (by decide), fun _ => ?_⟩ | (refine ⟨fun h => ?_, fun h => ?_⟩ <;> (try simp only [decide_eq_true_eq, decide_eq_false_iff_not, Bool.not_eq_true', Bool.not_eq_false', Bool.not_eq_true, Bool.not_eq_false, not_true_eq_false, beq_iff_eq, beq_eq_false_iff_ne, ne_eq, decide_eq_decide, true_iff, false_iff, iff_true, iff_false, true_and, and_true, false_or, or_false, Bool.and_true, Bool.and_eq_true, Bool.and_eq_false_iff, Bool.or_eq_true, Bool.or_eq_false_iff, List.length_cons, List.length_nil] at h) <;> (try (exfalso; first | omega | exact h rfl | (cases h; done) | exact absurd h (by assumption) | exact h (by assumption) | (simp at h; done)))) | refine ⟨⟨by (first | omega | (simp only [lenS]; omega)), by (first | omega | (simp only [lenS]; omega))⟩, _, by assumption, by rfl, ?_⟩ | refine .inl ⟨⟨by (first | omega | (simp only [lenS]; omega)), by (first | omega | (simp only [lenS]; omega))⟩, ?_⟩ | refine ⟨⟨by (first | omega | (simp only [lenS]; omega)), by (first | omega | (simp only [lenS]; omega))⟩, ?_⟩ | refine ⟨⟨by (first | omega | (simp only [lenS]; omega)), by (first | omega | (simp only [lenS]; omega)), by (first | omega | (simp only [lenS]; omega))⟩, ?_⟩ | refine ⟨.inl rfl, ?_⟩ | refine ⟨.inr (.inl (by (first | omega | (simp only [lenS]; omega)))), ?_⟩ | refine ⟨_, rfl, rfl, by (first | exact Nat.le_refl _ | exact Nat.le_of_ble_eq_true rfl | decide), ?_⟩ | refine ⟨_, rfl, by (first | exact Nat.le_refl _ | exact Nat.le_of_ble_eq_true rfl | decide), ?_⟩ | refine ⟨by (first | exact Nat.le_refl _ | exact Nat.le_of_ble_eq_true rfl | decide | exact rfl), ?_⟩ | refine ⟨show _ ≤ (9223372036854775807 : Nat) by (first | omega | (simp only [lenS]; omega)), ?_⟩ | refine ⟨show _ ≠ (0 : Int) by (first | omega | (simp only [lenS]; omega)), ?_⟩ | refine ⟨_, rfl, _, rfl, ?_⟩ | refine ⟨_, by assumption, Nat.le_of_ble_eq_true rfl, ?_⟩ | refine ⟨_, by assumption, _, rfl, ?_⟩ | refine ⟨_, rfl, ?_⟩ | fail)
        refine CallsAbs.sub (args' := [polA p, .d (.sl [])]) (pnil_sub p) (PureC.use h0 ?_)
        repeat' (first | refine PureC.use hc1 ?_ | refine PureC.use hc2 ?_ | refine PureC.use hc3 ?_ |                     refine ⟨fun _ => ?_, fun h => absurd h (by decide)⟩ | refine ⟨fun h => absurd h (by decide), fun _ => ?_⟩ | (refine ⟨fun h => ?_, fun h => ?_⟩ <;> (try simp only [decide_eq_true_eq, decide_eq_false_iff_not, Bool.not_eq_true', Bool.not_eq_false', Bool.not_eq_true, Bool.not_eq_false, not_true_eq_false, beq_iff_eq, beq_eq_false_iff_ne, ne_eq, decide_eq_decide, true_iff, false_iff, iff_true, iff_false, true_and, and_true, false_or, or_false, Bool.and_true, Bool.and_eq_true, Bool.and_eq_false_iff, Bool.or_eq_true, Bool.or_eq_false_iff, List.length_cons, List.length_nil] at h) <;> (try (exfalso; first | omega | exact h rfl | (cases h; done) | exact absurd h (by assumption) | exact h (by assumption) | (simp at h; done)))) | refine ⟨⟨by (first | omega | (simp only [lenS]; omega)), by (first | omega | (simp only [lenS]; omega))⟩, _, by assumption, by rfl, ?_⟩ | refine .inl ⟨⟨by (first | omega | (simp only [lenS]; omega)), by (first | omega | (simp only [lenS]; omega))⟩, ?_⟩ | refine ⟨⟨by (first | omega | (simp only [lenS]; omega)), by (first | omega | (simp only [lenS]; omega))⟩, ?_⟩ | refine ⟨⟨by (first | omega | (simp only [lenS]; omega)), by (first | omega | (simp only [lenS]; omega)), by (first | omega | (simp only [lenS]; omega))⟩, ?_⟩ | refine ⟨.inl rfl, ?_⟩ | refine ⟨.inr (.inl (by (first | omega | (simp only [lenS]; omega)))), ?_⟩ | refine ⟨_, rfl, rfl, by (first | exact Nat.le_refl _ | exact Nat.le_of_ble_eq_true rfl | decide), ?_⟩ | refine ⟨_, rfl, by (first | exact Nat.le_refl _ | exact Nat.le_of_ble_eq_true rfl | decide), ?_⟩ | refine ⟨by (first | exact Nat.le_refl _ | exact Nat.le_of_ble_eq_true rfl | decide | exact rfl), ?_⟩ | refine ⟨show _ ≤ (9223372036854775807 : Nat) by (first | omega | (simp only [lenS]; omega)), ?_⟩ | refine ⟨show _ ≠ (0 : Int) by (first | omega | (simp only [lenS]; omega)), ?_⟩ | refine ⟨_, rfl, _, rfl, ?_⟩ | refine ⟨_, by assumption, Nat.le_of_ble_eq_true rfl, ?_⟩ | refine ⟨_, by assumption, _, rfl, ?_⟩ | refine ⟨_, rfl, ?_⟩ | fail)
        refine CallsAbs.use1 (PureC.borrow 2 h1 rfl (by rfl)) ?_
        repeat' (first | refine PureC.use hc1 ?_ | refine PureC.use hc2 ?_ | refine PureC.use hc3 ?_ |                     refine ⟨fun _ => ?_, fun h => absurd h (by decide)⟩ | refine ⟨fun h => absurd h (by decide), fun _ => ?_⟩ | (refine ⟨fun h => ?_, fun h => ?_⟩ <;> (try simp only [decide_eq_true_eq, decide_eq_false_iff_not, Bool.not_eq_true', Bool.not_eq_false', Bool.not_eq_true, Bool.not_eq_false, not_true_eq_false, beq_iff_eq, beq_eq_false_iff_ne, ne_eq, decide_eq_decide, true_iff, false_iff, iff_true, iff_false, true_and, and_true, false_or, or_false, Bool.and_true, Bool.and_eq_true, Bool.and_eq_false_iff, Bool.or_eq_true, Bool.or_eq_false_iff, List.length_cons, List.length_nil] at h) <;> (try (exfalso; first | omega | exact h rfl | (cases h; done) | exact absurd h (by assumption) | exact h (by assumption) | (simp at h; done)))) | refine ⟨⟨by (first | omega | (simp only [lenS]; omega)), by (first | omega | (simp only [lenS]; omega))⟩, _, by assumption, by rfl, ?_⟩ | refine .inl ⟨⟨by (first | omega | (simp only [lenS]; omega)), by (first | omega | (simp only [lenS]; omega))⟩, ?_⟩ | refine ⟨⟨by (first | omega | (simp only [lenS]; omega)), by (first | omega | (simp only [lenS]; omega))⟩, ?_⟩ | refine ⟨⟨by (first | omega | (simp only [lenS]; omega)), by (first | omega | (simp only [lenS]; omega)), by (first | omega | (simp only [lenS]; omega))⟩, ?_⟩ | refine ⟨.inl rfl, ?_⟩ | refine ⟨.inr (.inl (by (first | omega | (simp only [lenS]; omega)))), ?_⟩ | refine ⟨_, rfl, rfl, by (first | exact Nat.le_refl _ | exact Nat.le_of_ble_eq_true rfl | decide), ?_⟩ | refine ⟨_, rfl, by (first | exact Nat.le_refl _ | exact Nat.le_of_ble_eq_true rfl | decide), ?_⟩ | refine ⟨by (first | exact Nat.le_refl _ | exact Nat.le_of_ble_eq_true rfl | decide | exact rfl), ?_⟩ | refine ⟨show _ ≤ (9223372036854775807 : Nat) by (first | omega | (simp only [lenS]; omega)), ?_⟩ | refine ⟨show _ ≠ (0 : Int) by (first | omega | (simp only [lenS]; omega)), ?_⟩ | refine ⟨_, rfl, _, rfl, ?_⟩ | refine ⟨_, by assumption, Nat.le_of_ble_eq_true rfl, ?_⟩ | refine ⟨_, by assumption, _, rfl, ?_⟩ | refine ⟨_, rfl, ?_⟩ | fail)
        exact ⟨_, _, fin_out rfl, congrArg (fun b => AV.d (.bool b)) (by simp)⟩
    · clear hc3
      refine pure_okT Tryd.wf Tryd.tab_ok Tryd.func6 (by decide +kernel) rfl rfl rfl rfl ?_
      repeat' (first | refine PureC.use hc1 ?_ | refine PureC.use hc2 ?_ | refine PureC.use hc3 ?_ |                     refine ⟨fun _ => ?_, fun h => absurd h (by decide)⟩ | refine ⟨fun h => absurd h (by decide), fun _ => ?_⟩ | (refine ⟨fun h => ?_, fun h => ?_⟩ <;> (try simp only [decide_eq_true_eq, decide_eq_false_iff_not, Bool.not_eq_true', Bool.not_eq_false', Bool.not_eq_true, Bool.not_eq_false, not_true_eq_false, beq_iff_eq, beq_eq_false_iff_ne, ne_eq, decide_eq_decide, true_iff, false_iff, iff_true, iff_false, true_and, and_true, false_or, or_false, Bool.and_true, Bool.and_eq_true, Bool.and_eq_false_iff, Bool.or_eq_true, Bool.or_eq_false_iff, List.length_cons, List.length_nil] at h) <;> (try (exfalso; first | omega | exact h rfl | (cases h; done) | exact absurd h (by assumption) | exact h (by assumption) | (simp at h; done)))) | refine ⟨⟨by (first | omega | (simp only [lenS]; omega)), by (first | omega | (simp only [lenS]; omega))⟩, _, by assumption, by rfl, ?_⟩ | refine .inl ⟨⟨by (first | omega | (simp only [lenS]; omega)), by (first | omega | (simp only [lenS]; omega))⟩, ?_⟩ | refine ⟨⟨by (first | omega | (simp only [lenS]; omega)), by (first | omega | (simp only [lenS]; omega))⟩, ?_⟩ | refine ⟨⟨by (first | omega | (simp only [lenS]; omega)), by (first | omega | (simp only [lenS]; omega)), by (first | omega | (simp only [lenS]; omega))⟩, ?_⟩ | refine ⟨.inl rfl, ?_⟩ | refine ⟨.inr (.inl (by (first | omega | (simp only [lenS]; omega)))), ?_⟩ | refine ⟨_, rfl, rfl, by (first | exact Nat.le_refl _ | exact Nat.le_of_ble_eq_true rfl | decide), ?_⟩ | refine ⟨_, rfl, by (first | exact Nat.le_refl _ | exact Nat.le_of_ble_eq_true rfl | decide), ?_⟩ | refine ⟨by (first | exact Nat.le_refl _ | exact Nat.le_of_ble_eq_true rfl | decide | exact rfl), ?_⟩ | refine ⟨show _ ≤ (9223372036854775807 : Nat) by (first | omega | (simp only [lenS]; omega)), ?_⟩ | refine ⟨show _ ≠ (0 : Int) by (first | omega | (simp only [lenS]; omega)), ?_⟩ | refine ⟨_, rfl, _, rfl, ?_⟩ | refine ⟨_, by assumption, Nat.le_of_ble_eq_true rfl, ?_⟩ | refine ⟨_, by assumption, _, rfl, ?_⟩ | refine ⟨_, rfl, ?_⟩ | fail)
      exact ⟨_, _, fin_out rfl, rfl⟩
theorem SafeText_law {n n' : Nat} {r r' : List D} (h : DOk Tryd.prog n 24 r) (h' : DOk Tryd.prog n' 9 r') : PureC Tryd.prog 6 [argAV Tryd.prog 24 r, argAV Tryd.prog 9 r'] (.d (.bool true)) := by
  obtain ⟨p, rfl⟩ := dok_pol h
  obtain ⟨s, rfl, _⟩ := dok_str h'
  rw [arg_pol, arg_str]; exact SafeText_ok p s
end Go.Proofs.YtfchacihhljfhaaDoor

namespace Go.Proofs.YtfchacihhljfhaaDoor
open Go.Aw
set_option maxHeartbeats 1600000
set_option linter.unusedSimpArgs false
set_option linter.unusedVariables false
/-- All so far were classes, each once. -/
def ClsI (l : List (List UInt8)) (P : List (List UInt8)) : Prop := ∀ R, clsB l [] (P ++ R) = clsB l P.reverse R
theorem ClsI.more {l P : List (List UInt8)} (h : ClsI l P) {c : List UInt8} (h1 : c ∈ l) (h2 : c ∉ P) : ClsI l (P ++ [c]) := fun R => by
  rw [List.append_assoc, h, List.singleton_append, clsB, decide_eq_false (by simpa using h2), decide_eq_true h1, List.reverse_append]; rfl
theorem ClsI.bad {l P : List (List UInt8)} (h : ClsI l P) {c : List UInt8} (h1 : c ∉ l ∨ c ∈ P) (R : List (List UInt8)) : clsB l [] (P ++ c :: R) = false := by
  rw [h, clsB]
  rcases h1 with h1 | h1
  · rw [decide_eq_false h1, Bool.and_false, Bool.false_and]
  · rw [decide_eq_true (show c ∈ P.reverse by simpa using h1)]; rfl
end Go.Proofs.YtfchacihhljfhaaDoor

namespace Go.Proofs.YtfchacihhljfhaaDoor
open Go.Aw
set_option maxHeartbeats 1600000
set_option linter.unusedSimpArgs false
set_option linter.unusedVariables false
def lnk (l : List At) : List Node := [.mk [97] l [] []]
def httpsS : List (List UInt8) := [[104, 116, 116, 112, 115]]
theorem st_link (x r : List UInt8) : stableB (lnk [(hrefN, x), (relN, r)]) = true ∧ stableB (lnk [(relN, r), (hrefN, x)]) = true ∧ stableB (lnk [(hrefN, x)]) = true := ⟨by rfl, by rfl, by rfl⟩
theorem val_href (x : List UInt8) : valueP awP [97] (hrefN, x) = allowed x httpsS := by
  have h1 : ¬ hrefN = relN := by decide
  have h2 : ¬ hrefN = styN := by decide
  have h3 : ¬ hrefN = clsN := by decide
  have h4 : attrP awP [97] hrefN = true := by decide
  have h5 : decide (hrefN ∈ places) = true := by decide
  have h6 : decide (([97] : List UInt8) ∈ awP.el) = true := by decide
  unfold valueP
  dsimp only
  rw [if_neg h1, if_neg h2, if_neg h3, h4, h5, h6]; rfl
theorem val_rel (r : List UInt8) : valueP awP [97] (relN, r) = decide (r = forcedB) := by
  have h6 : decide (([97] : List UInt8) ∈ awP.el) = true := by decide
  have h7 : decide (([97] : List UInt8) = aN) = true := by decide
  unfold valueP
  dsimp only
  rw [if_pos rfl, h6, h7]; rfl
theorem safe_lnk (l : List At) (hs : stableB (lnk l) = true) : safeB awP (lnk l) = (l.all (valueP awP [97]) && linkB l) := by
  have h1 : szL (lnk l) = 1 := by unfold lnk; rw [szL_cons, szN_eq]; rfl
  have h2 : dpL (lnk l) = 1 := by unfold lnk; rw [dpL_cons, dpN_eq]; rfl
  unfold safeB
  rw [hs, h1, h2, decide_eq_true (show ((1 : Nat) : Int) ≤ awP.nd by decide), decide_eq_true (show ((1 : Nat) : Int) ≤ awP.dp by decide), Bool.true_and, Bool.true_and, Bool.true_and]
  unfold lnk
  rw [innL_cons, innN_eq, innL]
  unfold elemP
  have h3 : decide ((Node.mk [97] l [] []).name = []) = false := by rfl
  have h4 : decide ((Node.mk [97] l [] []).name = aN) = true := by rfl
  have h5 : decide ((Node.mk [97] l [] []).name ∈ awP.el) = true := by rfl
  rw [h3, h4, h5]
  have h6 : innL awP (Node.mk [97] l [] []).kids = true := by show innL awP [] = true; rw [innL]
  rw [h6]
  show (false || ((l.all (valueP awP [97]) && ((!true || linkB l) && true)) && true) && true) = _
  cases l.all (valueP awP [97]) <;> cases linkB l <;> rfl
theorem links (x r : List UInt8) : safeB awP (lnk [(hrefN, x), (relN, r)]) = (decide (r = forcedB) && allowed x httpsS) ∧ safeB awP (lnk [(relN, r), (hrefN, x)]) = false ∧ safeB awP (lnk [(hrefN, x)]) = false := by
  obtain ⟨s1, s2, s3⟩ := st_link x r
  rw [safe_lnk _ s1, safe_lnk _ s2, safe_lnk _ s3]
  have l1 : linkB [(hrefN, x), (relN, r)] = true := by rfl
  have l2 : linkB [(relN, r), (hrefN, x)] = false := by rfl
  have l3 : linkB [(hrefN, x)] = false := by rfl
  rw [l1, l2, l3]
  refine ⟨?_, by rw [Bool.and_false], by rw [Bool.and_false]⟩
  show (valueP awP [97] (hrefN, x) && (valueP awP [97] (relN, r) && true) && true) = _
  rw [val_href, val_rel]
  cases decide (r = forcedB) <;> cases allowed x httpsS <;> rfl
end Go.Proofs.YtfchacihhljfhaaDoor

namespace Go.Proofs.YtfchacihhljfhaaDoor
open Go.Aw
set_option maxHeartbeats 1600000
set_option linter.unusedSimpArgs false
set_option linter.unusedVariables false
theorem lnk_wt (l : List At) (h : wtA l ≤ 5000) : wtL (lnk l) < 20000 := by
  unfold lnk
  rw [wtL_cons, wtN_eq]
  show 1 + 1 + 0 + wtA l + wtL [] + wtL [] < 20000
  rw [wtL]; omega
set_option maxRecDepth 100000 in
set_option maxHeartbeats 2000000 in
theorem SafeLinks_ok (x r : List UInt8) (b : Bool) : PureC Tryd.prog 5 [.d (.str x), .d (.str r), .d (.bool b)] (.d (.bool true)) := by
  have hc1 := awake_ok
  by_cases hl : x.length ≤ 1000 ∧ r.length ≤ 100
  · have w2 : wtA [(hrefN, x), (relN, r)] = (1 + 4 + x.length) + ((1 + 3 + r.length) + 0) := rfl
    have w3 : wtA [(relN, r), (hrefN, x)] = (1 + 3 + r.length) + ((1 + 4 + x.length) + 0) := rfl
    have w1 : wtA [(hrefN, x)] = (1 + 4 + x.length) + 0 := rfl
    have h1 := Safe_light awP (lnk [(hrefN, x), (relN, r)]) aw_fits (lnk_wt _ (by omega))
    have h2 := Safe_light awP (lnk [(relN, r), (hrefN, x)]) aw_fits (lnk_wt _ (by omega))
    have h3 := Safe_light awP (lnk [(hrefN, x)]) aw_fits (lnk_wt _ (by omega))
    have h4 := Allowed_ok x httpsS (by omega) (by decide)
    obtain ⟨e1, e2, e3⟩ := links x r
    rw [e1] at h1
    rw [e2] at h2
    rw [e3] at h3
    clear w1 w2 w3 e1 e2 e3
    cases b with
    | true =>
      refine pure_okT Tryd.wf Tryd.tab_ok Tryd.func5 (by decide +kernel) rfl rfl rfl rfl ?_
      repeat' (first | refine PureC.use hc1 ?_ |                       refine ⟨fun _ => ?_, fun h => absurd h (by decide)⟩ | refine ⟨fun h => absurd h (by decide), fun _ => ?_⟩ | (refine ⟨fun h => ?_, fun h => ?_⟩ <;> (try simp only [decide_eq_true_eq, decide_eq_false_iff_not, Bool.not_eq_true', Bool.not_eq_false', Bool.not_eq_true, Bool.not_eq_false, not_true_eq_false, beq_iff_eq, beq_eq_false_iff_ne, ne_eq, decide_eq_decide, true_iff, false_iff, iff_true, iff_false, true_and, and_true, false_or, or_false, Bool.and_true, Bool.and_eq_true, Bool.and_eq_false_iff, Bool.or_eq_true, Bool.or_eq_false_iff, List.length_cons, List.length_nil] at h) <;> (try (exfalso; first | omega | exact h rfl | (cases h; done) | exact absurd h (by assumption) | exact h (by assumption) | (simp at h; done)))) | refine ⟨⟨by (first | omega | (simp only [lenS]; omega)), by (first | omega | (simp only [lenS]; omega))⟩, _, by assumption, by rfl, ?_⟩ | refine .inl ⟨⟨by (first | omega | (simp only [lenS]; omega)), by (first | omega | (simp only [lenS]; omega))⟩, ?_⟩ | refine ⟨⟨by (first | omega | (simp only [lenS]; omega)), by (first | omega | (simp only [lenS]; omega))⟩, ?_⟩ | refine ⟨⟨by (first | omega | (simp only [lenS]; omega)), by (first | omega | (simp only [lenS]; omega)), by (first | omega | (simp only [lenS]; omega))⟩, ?_⟩ | refine ⟨.inl rfl, ?_⟩ | refine ⟨.inr (.inl (by (first | omega | (simp only [lenS]; omega)))), ?_⟩ | refine ⟨_, rfl, rfl, by (first | exact Nat.le_refl _ | exact Nat.le_of_ble_eq_true rfl | decide), ?_⟩ | refine ⟨_, rfl, by (first | exact Nat.le_refl _ | exact Nat.le_of_ble_eq_true rfl | decide), ?_⟩ | refine ⟨by (first | exact Nat.le_refl _ | exact Nat.le_of_ble_eq_true rfl | decide | exact rfl), ?_⟩ | refine ⟨show _ ≤ (9223372036854775807 : Nat) by (first | omega | (simp only [lenS]; omega)), ?_⟩ | refine ⟨show _ ≠ (0 : Int) by (first | omega | (simp only [lenS]; omega)), ?_⟩ | refine ⟨_, rfl, _, rfl, ?_⟩ | refine ⟨_, by assumption, Nat.le_of_ble_eq_true rfl, ?_⟩ | refine ⟨_, by assumption, _, rfl, ?_⟩ | refine ⟨_, rfl, ?_⟩ | fail)
      refine CallsAbs.use1 (PureC.borrow 3 h1 rfl (by rfl)) ?_
      repeat' (first | refine PureC.use hc1 ?_ |                       refine ⟨fun _ => ?_, fun h => absurd h (by decide)⟩ | refine ⟨fun h => absurd h (by decide), fun _ => ?_⟩ | (refine ⟨fun h => ?_, fun h => ?_⟩ <;> (try simp only [decide_eq_true_eq, decide_eq_false_iff_not, Bool.not_eq_true', Bool.not_eq_false', Bool.not_eq_true, Bool.not_eq_false, not_true_eq_false, beq_iff_eq, beq_eq_false_iff_ne, ne_eq, decide_eq_decide, true_iff, false_iff, iff_true, iff_false, true_and, and_true, false_or, or_false, Bool.and_true, Bool.and_eq_true, Bool.and_eq_false_iff, Bool.or_eq_true, Bool.or_eq_false_iff, List.length_cons, List.length_nil] at h) <;> (try (exfalso; first | omega | exact h rfl | (cases h; done) | exact absurd h (by assumption) | exact h (by assumption) | (simp at h; done)))) | refine ⟨⟨by (first | omega | (simp only [lenS]; omega)), by (first | omega | (simp only [lenS]; omega))⟩, _, by assumption, by rfl, ?_⟩ | refine .inl ⟨⟨by (first | omega | (simp only [lenS]; omega)), by (first | omega | (simp only [lenS]; omega))⟩, ?_⟩ | refine ⟨⟨by (first | omega | (simp only [lenS]; omega)), by (first | omega | (simp only [lenS]; omega))⟩, ?_⟩ | refine ⟨⟨by (first | omega | (simp only [lenS]; omega)), by (first | omega | (simp only [lenS]; omega)), by (first | omega | (simp only [lenS]; omega))⟩, ?_⟩ | refine ⟨.inl rfl, ?_⟩ | refine ⟨.inr (.inl (by (first | omega | (simp only [lenS]; omega)))), ?_⟩ | refine ⟨_, rfl, rfl, by (first | exact Nat.le_refl _ | exact Nat.le_of_ble_eq_true rfl | decide), ?_⟩ | refine ⟨_, rfl, by (first | exact Nat.le_refl _ | exact Nat.le_of_ble_eq_true rfl | decide), ?_⟩ | refine ⟨by (first | exact Nat.le_refl _ | exact Nat.le_of_ble_eq_true rfl | decide | exact rfl), ?_⟩ | refine ⟨show _ ≤ (9223372036854775807 : Nat) by (first | omega | (simp only [lenS]; omega)), ?_⟩ | refine ⟨show _ ≠ (0 : Int) by (first | omega | (simp only [lenS]; omega)), ?_⟩ | refine ⟨_, rfl, _, rfl, ?_⟩ | refine ⟨_, by assumption, Nat.le_of_ble_eq_true rfl, ?_⟩ | refine ⟨_, by assumption, _, rfl, ?_⟩ | refine ⟨_, rfl, ?_⟩ | fail)
      refine CallsAbs.use1 (PureC.borrow 3 h3 rfl (by rfl)) ?_
      by_cases hr : r = forcedB
      · have hr' : r = [110, 111, 102, 111, 108, 108, 111, 119, 32, 110, 111, 111, 112, 101, 110, 101, 114] := hr
        rw [decide_eq_true hr, Bool.true_and]
        clear hr
        repeat' (first | refine PureC.use hc1 ?_ |                       refine ⟨fun _ => ?_, fun h => absurd h (by decide)⟩ | refine ⟨fun h => absurd h (by decide), fun _ => ?_⟩ | (refine ⟨fun h => ?_, fun h => ?_⟩ <;> (try simp only [decide_eq_true_eq, decide_eq_false_iff_not, Bool.not_eq_true', Bool.not_eq_false', Bool.not_eq_true, Bool.not_eq_false, not_true_eq_false, beq_iff_eq, beq_eq_false_iff_ne, ne_eq, decide_eq_decide, true_iff, false_iff, iff_true, iff_false, true_and, and_true, false_or, or_false, Bool.and_true, Bool.and_eq_true, Bool.and_eq_false_iff, Bool.or_eq_true, Bool.or_eq_false_iff, List.length_cons, List.length_nil] at h) <;> (try (exfalso; first | omega | exact h rfl | (cases h; done) | exact absurd h (by assumption) | exact h (by assumption) | (simp at h; done)))) | refine ⟨⟨by (first | omega | (simp only [lenS]; omega)), by (first | omega | (simp only [lenS]; omega))⟩, _, by assumption, by rfl, ?_⟩ | refine .inl ⟨⟨by (first | omega | (simp only [lenS]; omega)), by (first | omega | (simp only [lenS]; omega))⟩, ?_⟩ | refine ⟨⟨by (first | omega | (simp only [lenS]; omega)), by (first | omega | (simp only [lenS]; omega))⟩, ?_⟩ | refine ⟨⟨by (first | omega | (simp only [lenS]; omega)), by (first | omega | (simp only [lenS]; omega)), by (first | omega | (simp only [lenS]; omega))⟩, ?_⟩ | refine ⟨.inl rfl, ?_⟩ | refine ⟨.inr (.inl (by (first | omega | (simp only [lenS]; omega)))), ?_⟩ | refine ⟨_, rfl, rfl, by (first | exact Nat.le_refl _ | exact Nat.le_of_ble_eq_true rfl | decide), ?_⟩ | refine ⟨_, rfl, by (first | exact Nat.le_refl _ | exact Nat.le_of_ble_eq_true rfl | decide), ?_⟩ | refine ⟨by (first | exact Nat.le_refl _ | exact Nat.le_of_ble_eq_true rfl | decide | exact rfl), ?_⟩ | refine ⟨show _ ≤ (9223372036854775807 : Nat) by (first | omega | (simp only [lenS]; omega)), ?_⟩ | refine ⟨show _ ≠ (0 : Int) by (first | omega | (simp only [lenS]; omega)), ?_⟩ | refine ⟨_, rfl, _, rfl, ?_⟩ | refine ⟨_, by assumption, Nat.le_of_ble_eq_true rfl, ?_⟩ | refine ⟨_, by assumption, _, rfl, ?_⟩ | refine ⟨_, rfl, ?_⟩ | fail)
        refine CallsAbs.use1 (PureC.borrow 1 h4 rfl (by rfl)) ?_
        cases allowed x httpsS with
        | false =>
          repeat' (first | refine PureC.use hc1 ?_ |                       refine ⟨fun _ => ?_, fun h => absurd h (by decide)⟩ | refine ⟨fun h => absurd h (by decide), fun _ => ?_⟩ | (refine ⟨fun h => ?_, fun h => ?_⟩ <;> (try simp only [decide_eq_true_eq, decide_eq_false_iff_not, Bool.not_eq_true', Bool.not_eq_false', Bool.not_eq_true, Bool.not_eq_false, not_true_eq_false, beq_iff_eq, beq_eq_false_iff_ne, ne_eq, decide_eq_decide, true_iff, false_iff, iff_true, iff_false, true_and, and_true, false_or, or_false, Bool.and_true, Bool.and_eq_true, Bool.and_eq_false_iff, Bool.or_eq_true, Bool.or_eq_false_iff, List.length_cons, List.length_nil] at h) <;> (try (exfalso; first | omega | exact h rfl | (cases h; done) | exact absurd h (by assumption) | exact h (by assumption) | (simp at h; done)))) | refine ⟨⟨by (first | omega | (simp only [lenS]; omega)), by (first | omega | (simp only [lenS]; omega))⟩, _, by assumption, by rfl, ?_⟩ | refine .inl ⟨⟨by (first | omega | (simp only [lenS]; omega)), by (first | omega | (simp only [lenS]; omega))⟩, ?_⟩ | refine ⟨⟨by (first | omega | (simp only [lenS]; omega)), by (first | omega | (simp only [lenS]; omega))⟩, ?_⟩ | refine ⟨⟨by (first | omega | (simp only [lenS]; omega)), by (first | omega | (simp only [lenS]; omega)), by (first | omega | (simp only [lenS]; omega))⟩, ?_⟩ | refine ⟨.inl rfl, ?_⟩ | refine ⟨.inr (.inl (by (first | omega | (simp only [lenS]; omega)))), ?_⟩ | refine ⟨_, rfl, rfl, by (first | exact Nat.le_refl _ | exact Nat.le_of_ble_eq_true rfl | decide), ?_⟩ | refine ⟨_, rfl, by (first | exact Nat.le_refl _ | exact Nat.le_of_ble_eq_true rfl | decide), ?_⟩ | refine ⟨by (first | exact Nat.le_refl _ | exact Nat.le_of_ble_eq_true rfl | decide | exact rfl), ?_⟩ | refine ⟨show _ ≤ (9223372036854775807 : Nat) by (first | omega | (simp only [lenS]; omega)), ?_⟩ | refine ⟨show _ ≠ (0 : Int) by (first | omega | (simp only [lenS]; omega)), ?_⟩ | refine ⟨_, rfl, _, rfl, ?_⟩ | refine ⟨_, by assumption, Nat.le_of_ble_eq_true rfl, ?_⟩ | refine ⟨_, by assumption, _, rfl, ?_⟩ | refine ⟨_, rfl, ?_⟩ | fail)
          exact ⟨_, _, fin_out rfl, rfl⟩
        | true =>
          repeat' (first | refine PureC.use hc1 ?_ |                       refine ⟨fun _ => ?_, fun h => absurd h (by decide)⟩ | refine ⟨fun h => absurd h (by decide), fun _ => ?_⟩ | (refine ⟨fun h => ?_, fun h => ?_⟩ <;> (try simp only [decide_eq_true_eq, decide_eq_false_iff_not, Bool.not_eq_true', Bool.not_eq_false', Bool.not_eq_true, Bool.not_eq_false, not_true_eq_false, beq_iff_eq, beq_eq_false_iff_ne, ne_eq, decide_eq_decide, true_iff, false_iff, iff_true, iff_false, true_and, and_true, false_or, or_false, Bool.and_true, Bool.and_eq_true, Bool.and_eq_false_iff, Bool.or_eq_true, Bool.or_eq_false_iff, List.length_cons, List.length_nil] at h) <;> (try (exfalso; first | omega | exact h rfl | (cases h; done) | exact absurd h (by assumption) | exact h (by assumption) | (simp at h; done)))) | refine ⟨⟨by (first | omega | (simp only [lenS]; omega)), by (first | omega | (simp only [lenS]; omega))⟩, _, by assumption, by rfl, ?_⟩ | refine .inl ⟨⟨by (first | omega | (simp only [lenS]; omega)), by (first | omega | (simp only [lenS]; omega))⟩, ?_⟩ | refine ⟨⟨by (first | omega | (simp only [lenS]; omega)), by (first | omega | (simp only [lenS]; omega))⟩, ?_⟩ | refine ⟨⟨by (first | omega | (simp only [lenS]; omega)), by (first | omega | (simp only [lenS]; omega)), by (first | omega | (simp only [lenS]; omega))⟩, ?_⟩ | refine ⟨.inl rfl, ?_⟩ | refine ⟨.inr (.inl (by (first | omega | (simp only [lenS]; omega)))), ?_⟩ | refine ⟨_, rfl, rfl, by (first | exact Nat.le_refl _ | exact Nat.le_of_ble_eq_true rfl | decide), ?_⟩ | refine ⟨_, rfl, by (first | exact Nat.le_refl _ | exact Nat.le_of_ble_eq_true rfl | decide), ?_⟩ | refine ⟨by (first | exact Nat.le_refl _ | exact Nat.le_of_ble_eq_true rfl | decide | exact rfl), ?_⟩ | refine ⟨show _ ≤ (9223372036854775807 : Nat) by (first | omega | (simp only [lenS]; omega)), ?_⟩ | refine ⟨show _ ≠ (0 : Int) by (first | omega | (simp only [lenS]; omega)), ?_⟩ | refine ⟨_, rfl, _, rfl, ?_⟩ | refine ⟨_, by assumption, Nat.le_of_ble_eq_true rfl, ?_⟩ | refine ⟨_, by assumption, _, rfl, ?_⟩ | refine ⟨_, rfl, ?_⟩ | fail)
          exact ⟨_, _, fin_out rfl, rfl⟩
      · have hr' : ¬ r = [110, 111, 102, 111, 108, 108, 111, 119, 32, 110, 111, 111, 112, 101, 110, 101, 114] := hr
        rw [decide_eq_false hr, Bool.false_and]
        clear hr
        repeat' (first | refine PureC.use hc1 ?_ |                       refine ⟨fun _ => ?_, fun h => absurd h (by decide)⟩ | refine ⟨fun h => absurd h (by decide), fun _ => ?_⟩ | (refine ⟨fun h => ?_, fun h => ?_⟩ <;> (try simp only [decide_eq_true_eq, decide_eq_false_iff_not, Bool.not_eq_true', Bool.not_eq_false', Bool.not_eq_true, Bool.not_eq_false, not_true_eq_false, beq_iff_eq, beq_eq_false_iff_ne, ne_eq, decide_eq_decide, true_iff, false_iff, iff_true, iff_false, true_and, and_true, false_or, or_false, Bool.and_true, Bool.and_eq_true, Bool.and_eq_false_iff, Bool.or_eq_true, Bool.or_eq_false_iff, List.length_cons, List.length_nil] at h) <;> (try (exfalso; first | omega | exact h rfl | (cases h; done) | exact absurd h (by assumption) | exact h (by assumption) | (simp at h; done)))) | refine ⟨⟨by (first | omega | (simp only [lenS]; omega)), by (first | omega | (simp only [lenS]; omega))⟩, _, by assumption, by rfl, ?_⟩ | refine .inl ⟨⟨by (first | omega | (simp only [lenS]; omega)), by (first | omega | (simp only [lenS]; omega))⟩, ?_⟩ | refine ⟨⟨by (first | omega | (simp only [lenS]; omega)), by (first | omega | (simp only [lenS]; omega))⟩, ?_⟩ | refine ⟨⟨by (first | omega | (simp only [lenS]; omega)), by (first | omega | (simp only [lenS]; omega)), by (first | omega | (simp only [lenS]; omega))⟩, ?_⟩ | refine ⟨.inl rfl, ?_⟩ | refine ⟨.inr (.inl (by (first | omega | (simp only [lenS]; omega)))), ?_⟩ | refine ⟨_, rfl, rfl, by (first | exact Nat.le_refl _ | exact Nat.le_of_ble_eq_true rfl | decide), ?_⟩ | refine ⟨_, rfl, by (first | exact Nat.le_refl _ | exact Nat.le_of_ble_eq_true rfl | decide), ?_⟩ | refine ⟨by (first | exact Nat.le_refl _ | exact Nat.le_of_ble_eq_true rfl | decide | exact rfl), ?_⟩ | refine ⟨show _ ≤ (9223372036854775807 : Nat) by (first | omega | (simp only [lenS]; omega)), ?_⟩ | refine ⟨show _ ≠ (0 : Int) by (first | omega | (simp only [lenS]; omega)), ?_⟩ | refine ⟨_, rfl, _, rfl, ?_⟩ | refine ⟨_, by assumption, Nat.le_of_ble_eq_true rfl, ?_⟩ | refine ⟨_, by assumption, _, rfl, ?_⟩ | refine ⟨_, rfl, ?_⟩ | fail)
        exact ⟨_, _, fin_out rfl, rfl⟩
    | false =>
      refine pure_okT Tryd.wf Tryd.tab_ok Tryd.func5 (by decide +kernel) rfl rfl rfl rfl ?_
      repeat' (first | refine PureC.use hc1 ?_ |                       refine ⟨fun _ => ?_, fun h => absurd h (by decide)⟩ | refine ⟨fun h => absurd h (by decide), fun _ => ?_⟩ | (refine ⟨fun h => ?_, fun h => ?_⟩ <;> (try simp only [decide_eq_true_eq, decide_eq_false_iff_not, Bool.not_eq_true', Bool.not_eq_false', Bool.not_eq_true, Bool.not_eq_false, not_true_eq_false, beq_iff_eq, beq_eq_false_iff_ne, ne_eq, decide_eq_decide, true_iff, false_iff, iff_true, iff_false, true_and, and_true, false_or, or_false, Bool.and_true, Bool.and_eq_true, Bool.and_eq_false_iff, Bool.or_eq_true, Bool.or_eq_false_iff, List.length_cons, List.length_nil] at h) <;> (try (exfalso; first | omega | exact h rfl | (cases h; done) | exact absurd h (by assumption) | exact h (by assumption) | (simp at h; done)))) | refine ⟨⟨by (first | omega | (simp only [lenS]; omega)), by (first | omega | (simp only [lenS]; omega))⟩, _, by assumption, by rfl, ?_⟩ | refine .inl ⟨⟨by (first | omega | (simp only [lenS]; omega)), by (first | omega | (simp only [lenS]; omega))⟩, ?_⟩ | refine ⟨⟨by (first | omega | (simp only [lenS]; omega)), by (first | omega | (simp only [lenS]; omega))⟩, ?_⟩ | refine ⟨⟨by (first | omega | (simp only [lenS]; omega)), by (first | omega | (simp only [lenS]; omega)), by (first | omega | (simp only [lenS]; omega))⟩, ?_⟩ | refine ⟨.inl rfl, ?_⟩ | refine ⟨.inr (.inl (by (first | omega | (simp only [lenS]; omega)))), ?_⟩ | refine ⟨_, rfl, rfl, by (first | exact Nat.le_refl _ | exact Nat.le_of_ble_eq_true rfl | decide), ?_⟩ | refine ⟨_, rfl, by (first | exact Nat.le_refl _ | exact Nat.le_of_ble_eq_true rfl | decide), ?_⟩ | refine ⟨by (first | exact Nat.le_refl _ | exact Nat.le_of_ble_eq_true rfl | decide | exact rfl), ?_⟩ | refine ⟨show _ ≤ (9223372036854775807 : Nat) by (first | omega | (simp only [lenS]; omega)), ?_⟩ | refine ⟨show _ ≠ (0 : Int) by (first | omega | (simp only [lenS]; omega)), ?_⟩ | refine ⟨_, rfl, _, rfl, ?_⟩ | refine ⟨_, by assumption, Nat.le_of_ble_eq_true rfl, ?_⟩ | refine ⟨_, by assumption, _, rfl, ?_⟩ | refine ⟨_, rfl, ?_⟩ | fail)
      refine CallsAbs.use1 (PureC.borrow 3 h2 rfl (by rfl)) ?_
      repeat' (first | refine PureC.use hc1 ?_ |                       refine ⟨fun _ => ?_, fun h => absurd h (by decide)⟩ | refine ⟨fun h => absurd h (by decide), fun _ => ?_⟩ | (refine ⟨fun h => ?_, fun h => ?_⟩ <;> (try simp only [decide_eq_true_eq, decide_eq_false_iff_not, Bool.not_eq_true', Bool.not_eq_false', Bool.not_eq_true, Bool.not_eq_false, not_true_eq_false, beq_iff_eq, beq_eq_false_iff_ne, ne_eq, decide_eq_decide, true_iff, false_iff, iff_true, iff_false, true_and, and_true, false_or, or_false, Bool.and_true, Bool.and_eq_true, Bool.and_eq_false_iff, Bool.or_eq_true, Bool.or_eq_false_iff, List.length_cons, List.length_nil] at h) <;> (try (exfalso; first | omega | exact h rfl | (cases h; done) | exact absurd h (by assumption) | exact h (by assumption) | (simp at h; done)))) | refine ⟨⟨by (first | omega | (simp only [lenS]; omega)), by (first | omega | (simp only [lenS]; omega))⟩, _, by assumption, by rfl, ?_⟩ | refine .inl ⟨⟨by (first | omega | (simp only [lenS]; omega)), by (first | omega | (simp only [lenS]; omega))⟩, ?_⟩ | refine ⟨⟨by (first | omega | (simp only [lenS]; omega)), by (first | omega | (simp only [lenS]; omega))⟩, ?_⟩ | refine ⟨⟨by (first | omega | (simp only [lenS]; omega)), by (first | omega | (simp only [lenS]; omega)), by (first | omega | (simp only [lenS]; omega))⟩, ?_⟩ | refine ⟨.inl rfl, ?_⟩ | refine ⟨.inr (.inl (by (first | omega | (simp only [lenS]; omega)))), ?_⟩ | refine ⟨_, rfl, rfl, by (first | exact Nat.le_refl _ | exact Nat.le_of_ble_eq_true rfl | decide), ?_⟩ | refine ⟨_, rfl, by (first | exact Nat.le_refl _ | exact Nat.le_of_ble_eq_true rfl | decide), ?_⟩ | refine ⟨by (first | exact Nat.le_refl _ | exact Nat.le_of_ble_eq_true rfl | decide | exact rfl), ?_⟩ | refine ⟨show _ ≤ (9223372036854775807 : Nat) by (first | omega | (simp only [lenS]; omega)), ?_⟩ | refine ⟨show _ ≠ (0 : Int) by (first | omega | (simp only [lenS]; omega)), ?_⟩ | refine ⟨_, rfl, _, rfl, ?_⟩ | refine ⟨_, by assumption, Nat.le_of_ble_eq_true rfl, ?_⟩ | refine ⟨_, by assumption, _, rfl, ?_⟩ | refine ⟨_, rfl, ?_⟩ | fail)
      refine CallsAbs.use1 (PureC.borrow 3 h3 rfl (by rfl)) ?_
      repeat' (first | refine PureC.use hc1 ?_ |                       refine ⟨fun _ => ?_, fun h => absurd h (by decide)⟩ | refine ⟨fun h => absurd h (by decide), fun _ => ?_⟩ | (refine ⟨fun h => ?_, fun h => ?_⟩ <;> (try simp only [decide_eq_true_eq, decide_eq_false_iff_not, Bool.not_eq_true', Bool.not_eq_false', Bool.not_eq_true, Bool.not_eq_false, not_true_eq_false, beq_iff_eq, beq_eq_false_iff_ne, ne_eq, decide_eq_decide, true_iff, false_iff, iff_true, iff_false, true_and, and_true, false_or, or_false, Bool.and_true, Bool.and_eq_true, Bool.and_eq_false_iff, Bool.or_eq_true, Bool.or_eq_false_iff, List.length_cons, List.length_nil] at h) <;> (try (exfalso; first | omega | exact h rfl | (cases h; done) | exact absurd h (by assumption) | exact h (by assumption) | (simp at h; done)))) | refine ⟨⟨by (first | omega | (simp only [lenS]; omega)), by (first | omega | (simp only [lenS]; omega))⟩, _, by assumption, by rfl, ?_⟩ | refine .inl ⟨⟨by (first | omega | (simp only [lenS]; omega)), by (first | omega | (simp only [lenS]; omega))⟩, ?_⟩ | refine ⟨⟨by (first | omega | (simp only [lenS]; omega)), by (first | omega | (simp only [lenS]; omega))⟩, ?_⟩ | refine ⟨⟨by (first | omega | (simp only [lenS]; omega)), by (first | omega | (simp only [lenS]; omega)), by (first | omega | (simp only [lenS]; omega))⟩, ?_⟩ | refine ⟨.inl rfl, ?_⟩ | refine ⟨.inr (.inl (by (first | omega | (simp only [lenS]; omega)))), ?_⟩ | refine ⟨_, rfl, rfl, by (first | exact Nat.le_refl _ | exact Nat.le_of_ble_eq_true rfl | decide), ?_⟩ | refine ⟨_, rfl, by (first | exact Nat.le_refl _ | exact Nat.le_of_ble_eq_true rfl | decide), ?_⟩ | refine ⟨by (first | exact Nat.le_refl _ | exact Nat.le_of_ble_eq_true rfl | decide | exact rfl), ?_⟩ | refine ⟨show _ ≤ (9223372036854775807 : Nat) by (first | omega | (simp only [lenS]; omega)), ?_⟩ | refine ⟨show _ ≠ (0 : Int) by (first | omega | (simp only [lenS]; omega)), ?_⟩ | refine ⟨_, rfl, _, rfl, ?_⟩ | refine ⟨_, by assumption, Nat.le_of_ble_eq_true rfl, ?_⟩ | refine ⟨_, by assumption, _, rfl, ?_⟩ | refine ⟨_, rfl, ?_⟩ | fail)
      exact ⟨_, _, fin_out rfl, rfl⟩
  · refine pure_okT Tryd.wf Tryd.tab_ok Tryd.func5 (by decide +kernel) rfl rfl rfl rfl ?_
    repeat' (first | refine PureC.use hc1 ?_ |                       refine ⟨fun _ => ?_, fun h => absurd h (by decide)⟩ | refine ⟨fun h => absurd h (by decide), fun _ => ?_⟩ | (refine ⟨fun h => ?_, fun h => ?_⟩ <;> (try simp only [decide_eq_true_eq, decide_eq_false_iff_not, Bool.not_eq_true', Bool.not_eq_false', Bool.not_eq_true, Bool.not_eq_false, not_true_eq_false, beq_iff_eq, beq_eq_false_iff_ne, ne_eq, decide_eq_decide, true_iff, false_iff, iff_true, iff_false, true_and, and_true, false_or, or_false, Bool.and_true, Bool.and_eq_true, Bool.and_eq_false_iff, Bool.or_eq_true, Bool.or_eq_false_iff, List.length_cons, List.length_nil] at h) <;> (try (exfalso; first | omega | exact h rfl | (cases h; done) | exact absurd h (by assumption) | exact h (by assumption) | (simp at h; done)))) | refine ⟨⟨by (first | omega | (simp only [lenS]; omega)), by (first | omega | (simp only [lenS]; omega))⟩, _, by assumption, by rfl, ?_⟩ | refine .inl ⟨⟨by (first | omega | (simp only [lenS]; omega)), by (first | omega | (simp only [lenS]; omega))⟩, ?_⟩ | refine ⟨⟨by (first | omega | (simp only [lenS]; omega)), by (first | omega | (simp only [lenS]; omega))⟩, ?_⟩ | refine ⟨⟨by (first | omega | (simp only [lenS]; omega)), by (first | omega | (simp only [lenS]; omega)), by (first | omega | (simp only [lenS]; omega))⟩, ?_⟩ | refine ⟨.inl rfl, ?_⟩ | refine ⟨.inr (.inl (by (first | omega | (simp only [lenS]; omega)))), ?_⟩ | refine ⟨_, rfl, rfl, by (first | exact Nat.le_refl _ | exact Nat.le_of_ble_eq_true rfl | decide), ?_⟩ | refine ⟨_, rfl, by (first | exact Nat.le_refl _ | exact Nat.le_of_ble_eq_true rfl | decide), ?_⟩ | refine ⟨by (first | exact Nat.le_refl _ | exact Nat.le_of_ble_eq_true rfl | decide | exact rfl), ?_⟩ | refine ⟨show _ ≤ (9223372036854775807 : Nat) by (first | omega | (simp only [lenS]; omega)), ?_⟩ | refine ⟨show _ ≠ (0 : Int) by (first | omega | (simp only [lenS]; omega)), ?_⟩ | refine ⟨_, rfl, _, rfl, ?_⟩ | refine ⟨_, by assumption, Nat.le_of_ble_eq_true rfl, ?_⟩ | refine ⟨_, by assumption, _, rfl, ?_⟩ | refine ⟨_, rfl, ?_⟩ | fail)
    all_goals exact ⟨_, _, fin_out rfl, rfl⟩
theorem SafeLinks_law {n n' n'' : Nat} {r r' r'' : List D} (h : DOk Tryd.prog n 9 r) (h' : DOk Tryd.prog n' 9 r') (h'' : DOk Tryd.prog n'' 4 r'') : PureC Tryd.prog 5 [argAV Tryd.prog 9 r, argAV Tryd.prog 9 r', argAV Tryd.prog 4 r''] (.d (.bool true)) := by
  obtain ⟨s, rfl, _⟩ := dok_str h
  obtain ⟨u, rfl, _⟩ := dok_str h'
  obtain ⟨b, rfl⟩ := dok_bool h''
  rw [arg_str, arg_str, arg_bool]; exact SafeLinks_ok s u b
end Go.Proofs.YtfchacihhljfhaaDoor

namespace Go.Proofs.YtfchacihhljfhaaDoor
open Go.Aw
set_option maxHeartbeats 1600000
set_option linter.unusedSimpArgs false
set_option linter.unusedVariables false
def snB (c : UInt8) : Bool := (decide (97 ≤ c.toNat) && decide (c.toNat ≤ 122)) || (decide (48 ≤ c.toNat) && decide (c.toNat ≤ 57)) || decide (c.toNat = 45)
def snOk (p : List UInt8) : Bool := !decide (p = []) && p.all snB
/-- The bytes of a name. -/
def snC (c : UInt8) : Prop := (97 ≤ c.toNat ∧ c.toNat ≤ 122) ∨ (48 ≤ c.toNat ∧ c.toNat ≤ 57) ∨ c.toNat = 45
theorem name_all {p : List UInt8} (h : snOk p = true) : p ≠ [] ∧ ∀ c ∈ p, snC c := by
  unfold snOk at h
  rw [Bool.and_eq_true, Bool.not_eq_true', decide_eq_false_iff_not, List.all_eq_true] at h
  refine ⟨h.1, fun c hc => ?_⟩
  have := h.2 c hc
  unfold snB at this
  simp only [Bool.and_eq_true, Bool.or_eq_true, decide_eq_true_eq] at this
  unfold snC; omega
theorem val_all {v : List UInt8} (h : valB v = true) : v ≠ [] ∧ v.length ≤ 100 ∧ v.getD 0 0 ≠ 32 ∧ v.getD (v.length - 1) 0 ≠ 32 ∧ ∀ c ∈ v, okB c = true := by
  unfold valB at h
  simp only [Bool.and_eq_true, decide_eq_true_eq, Bool.not_eq_true', decide_eq_false_iff_not, List.all_eq_true] at h
  obtain ⟨⟨⟨⟨h1, h2⟩, h3⟩, h4⟩, h5⟩ := h
  exact ⟨fun e => by rw [e] at h1; simp at h1, h2, h3, h4, h5⟩
theorem okB_cases {c : UInt8} (h : okB c = true) : (97 ≤ c.toNat ∧ c.toNat ≤ 122) ∨ (48 ≤ c.toNat ∧ c.toNat ≤ 57) ∨ c.toNat = 32 ∨ c.toNat = 35 ∨ c.toNat = 37 ∨ c.toNat = 46 ∨ c.toNat = 44 ∨ c.toNat = 45 := by
  unfold okB at h
  simp only [Bool.or_eq_true, Bool.and_eq_true, decide_eq_true_eq, mem_mark] at h
  omega
theorem lowS_id {s : List UInt8} (h : ∀ c ∈ s, ¬ (65 ≤ c.toNat ∧ c.toNat ≤ 90)) : lower s = s := by
  unfold lower
  conv => rhs; rw [← List.map_id s]
  refine List.map_congr_left fun c hc => ?_
  have := h c hc
  unfold lowB
  first | rw [if_neg this]; rfl | (split; exact absurd (by assumption) this; rfl) | (simp; omega)
theorem trimLB_pre (cs : List UInt8) : ∀ (a s : List UInt8), (∀ c ∈ a, c ∈ cs) → trimLB cs (a ++ s) = trimLB cs s
  | [], s, _ => rfl
  | x :: a, s, h => by
    rw [List.cons_append, trimLB_cons, if_pos (h x (by simp))]
    exact trimLB_pre cs a s (fun c hc => h c (by simp [hc]))
theorem trimLB_id {cs s : List UInt8} (hne : s ≠ []) (h : s.getD 0 0 ∉ cs) : trimLB cs s = s := by
  cases s with
  | nil => exact absurd rfl hne
  | cons x r => rw [trimLB_cons, if_neg (show x ∉ cs from h)]
theorem trimRB_suf (cs : List UInt8) : ∀ (b s : List UInt8), (∀ c ∈ b, c ∈ cs) → trimRB cs (s ++ b) = trimRB cs s := fun b s h => by
  unfold trimRB
  rw [List.reverse_append]
  have := trimLB_pre cs b.reverse s.reverse (fun c hc => h c (by simpa using hc))
  unfold trimLB at this
  rw [this]
theorem trimRB_id {cs s : List UInt8} (hne : s ≠ []) (h : s.getD (s.length - 1) 0 ∉ cs) : trimRB cs s = s := by
  rcases List.eq_nil_or_concat s with rfl | ⟨r, c, rfl⟩
  · exact absurd rfl hne
  · rw [List.concat_eq_append] at *
    rw [trimRB_snoc, if_neg]
    have e : (r ++ [c]).getD ((r ++ [c]).length - 1) 0 = c := by
      rw [List.getD_eq_getElem?_getD]; simp
    rw [e] at h; exact h
theorem bare_of {a s b : List UInt8} (ha : ∀ c ∈ a, c ∈ cutS) (hb : ∀ c ∈ b, c ∈ cutS) (hne : s ≠ []) (h0 : s.getD 0 0 ∉ cutS) (h1 : s.getD (s.length - 1) 0 ∉ cutS) (hl : ∀ c ∈ s, ¬ (65 ≤ c.toNat ∧ c.toNat ≤ 90)) : bareB (a ++ s ++ b) = s := by
  unfold bareB
  rw [trimRB_suf cutS b _ hb, ← trim_comm, trimLB_pre cutS a s ha, trim_comm, trimRB_id hne h1, trimLB_id hne h0, lowS_id hl]
theorem getD_mem {s : List UInt8} {k : Nat} (h : k < s.length) : s.getD k 0 ∈ s := by
  rw [List.getD_eq_getElem?_getD, List.getElem?_eq_getElem h, Option.getD_some]; exact List.getElem_mem h
theorem pos_len {s : List UInt8} (h : s ≠ []) : 0 < s.length := List.length_pos_iff.2 h
theorem bare_name {a p b : List UInt8} (ha : ∀ c ∈ a, c ∈ cutS) (hb : ∀ c ∈ b, c ∈ cutS) (h : snOk p = true) : bareB (a ++ p ++ b) = p := by
  obtain ⟨hne, hc⟩ := name_all h
  have hp := pos_len hne
  have no : ∀ c ∈ p, c ∉ cutS := fun c h1 h2 => by
    have := hc c h1; unfold snC at this
    rw [blank_mem] at h2; omega
  exact bare_of ha hb hne (no _ (getD_mem hp)) (no _ (getD_mem (by omega))) (fun c h1 => by have := hc c h1; unfold snC at this; omega)
theorem bare_val {a v b : List UInt8} (ha : ∀ c ∈ a, c ∈ cutS) (hb : ∀ c ∈ b, c ∈ cutS) (h : valB v = true) : bareB (a ++ v ++ b) = v := by
  obtain ⟨hne, _, h0, h1, hc⟩ := val_all h
  have hp := pos_len hne
  have no : ∀ c ∈ v, c ≠ 32 → c ∉ cutS := fun c h1 h3 h2 => by
    have := okB_cases (hc c h1)
    rw [blank_mem] at h2
    have : c.toNat ≠ 32 := fun e => h3 (UInt8.toNat_inj.1 e)
    omega
  exact bare_of ha hb hne (no _ (getD_mem hp) h0) (no _ (getD_mem (by omega)) h1) (fun c h1 => by have := okB_cases (hc c h1); omega)
def goodP (p : Pair) : Prop := snOk p.1 = true ∧ valB p.2 = true
theorem txt_no {p : Pair} (h : goodP p) : (59 : UInt8) ∉ txtB p := fun hm => by
  unfold txtB at hm
  simp only [List.mem_append, List.mem_cons, List.not_mem_nil, or_false] at hm
  rcases hm with (hm | hm | hm) | hm
  · have := (name_all h.1).2 _ hm; unfold snC at this
    have e : (59 : UInt8).toNat = 59 := rfl
    omega
  · exact absurd hm (by decide)
  · exact absurd hm (by decide)
  · have := okB_cases ((val_all h.2).2.2.2.2 _ hm)
    have e : (59 : UInt8).toNat = 59 := rfl
    omega
theorem name_no {p : List UInt8} (h : snOk p = true) : (58 : UInt8) ∉ p := fun hm => by
  have := (name_all h).2 _ hm; unfold snC at this
  have e : (58 : UInt8).toNat = 58 := rfl
  omega
theorem part_txt {p : Pair} (h : goodP p) (a : List UInt8) (ha : ∀ c ∈ a, c ∈ cutS) : partB (a ++ txtB p) = some p := by
  have hno : (58 : UInt8) ∉ a ++ p.1 := fun hm => by
    rcases List.mem_append.1 hm with hm | hm
    · exact absurd (ha _ hm) (by decide)
    · exact name_no h.1 hm
  have e : a ++ txtB p = (a ++ p.1) ++ 58 :: ([32] ++ p.2) := by simp [txtB]
  have h1 := bare_name (b := []) ha (fun c hc => by cases hc) h.1
  have h2 := bare_val (a := [32]) (b := []) (by decide) (fun c hc => by cases hc) h.2
  rw [List.append_nil] at h1 h2
  unfold partB
  rw [e, cutAt_some hno, Option.map_some, h1, h2]
theorem pairs_more : ∀ (l : List Pair), (∀ p ∈ l, goodP p) → ∀ x : List UInt8, (59 : UInt8) ∉ x → pairsB (x ++ moreB [59, 32] (l.map txtB)) = (partB x).toList ++ l
  | [], _, x, hx => by
    unfold pairsB
    rw [List.map_nil, show moreB [59, 32] [] = [] from rfl, List.append_nil, splitB_none hx]
    cases h : partB x <;> simp [h]
  | p :: r, h, x, hx => by
    have hp := h p (by simp)
    have ih := pairs_more r (fun q hq => h q (by simp [hq])) ([32] ++ txtB p) (fun hm => by
      rcases List.mem_append.1 hm with hm | hm
      · exact absurd hm (by decide)
      · exact txt_no hp hm)
    have e : x ++ moreB [59, 32] ((p :: r).map txtB) = x ++ 59 :: ([32] ++ txtB p ++ moreB [59, 32] (r.map txtB)) := by simp [moreB]
    unfold pairsB at ih ⊢
    rw [e, splitB_app hx, List.filterMap_cons]
    rw [part_txt hp [32] (by decide)] at ih
    cases hpx : partB x with
    | none => dsimp only; rw [ih]; rfl
    | some q => dsimp only; rw [ih]; rfl
theorem pairs_join : ∀ (l : List Pair), (∀ p ∈ l, goodP p) → pairsB (joinB [59, 32] (l.map txtB)) = l
  | [], _ => by decide
  | p :: r, h => by
    have hp := h p (by simp)
    rw [List.map_cons, joinB_more, pairs_more r (fun q hq => h q (by simp [hq])) _ (txt_no hp)]
    have := part_txt hp [] (fun c hc => by cases hc)
    rw [List.nil_append] at this
    rw [this]; rfl
theorem lasts_mem : ∀ (l : List Pair), ∀ p ∈ lastsL l, p ∈ l
  | [], p, h => h
  | q :: r, p, h => by
    rw [lastsL] at h
    split at h
    · exact List.mem_cons_of_mem _ (lasts_mem r p h)
    · rcases List.mem_cons.1 h with rfl | h
      · simp
      · exact List.mem_cons_of_mem _ (lasts_mem r p h)
theorem lasts_names : ∀ (l : List Pair) (x : List UInt8), x ∈ (lastsL l).map Prod.fst ↔ x ∈ l.map Prod.fst
  | [], x => Iff.rfl
  | q :: r, x => by
    rw [lastsL]
    by_cases h : q.1 ∈ r.map Prod.fst
    · rw [if_pos h, lasts_names r x, List.map_cons, List.mem_cons]
      exact ⟨.inr, fun h2 => h2.elim (fun e => e ▸ h) id⟩
    · rw [if_neg h, List.map_cons, List.map_cons, List.mem_cons, List.mem_cons, lasts_names r x]
theorem lasts_idem : ∀ (l : List Pair), lastsL (lastsL l) = lastsL l
  | [] => rfl
  | q :: r => by
    rw [lastsL]
    by_cases h : q.1 ∈ r.map Prod.fst
    · rw [if_pos h]; exact lasts_idem r
    · rw [if_neg h, lastsL, if_neg (fun h2 => h ((lasts_names r q.1).1 h2)), lasts_idem r]
def keptP (props : List (List UInt8)) (s : List UInt8) : List Pair := (pairsB s).filter (keepB props)
theorem filter_join (props : List (List UInt8)) (s : List UInt8) : filterB props s = joinB [59, 32] ((lastsL (keptP props s)).map txtB) := filterB_eq props s
theorem kept_good {props : List (List UInt8)} (hn : props.all snOk = true) (s : List UInt8) : ∀ p ∈ keptP props s, goodP p ∧ p.1 ∈ props := fun p h => by
  have := (List.mem_filter.1 h).2
  unfold keepB at this
  rw [Bool.and_eq_true, decide_eq_true_eq] at this
  exact ⟨⟨List.all_eq_true.1 hn _ this.1, this.2⟩, this.1⟩
theorem pairs_filter {props : List (List UInt8)} (hn : props.all snOk = true) (s : List UInt8) : pairsB (filterB props s) = lastsL (keptP props s) := by
  rw [filter_join]
  exact pairs_join _ (fun p h => (kept_good hn s p (lasts_mem _ p h)).1)
/-- FILTERED BEFORE, BY FEWER. -/
theorem filter_more {few more : List (List UInt8)} (hn : few.all snOk = true) (hf : ∀ x ∈ few, x ∈ more) (s : List UInt8) : filterB more (filterB few s) = filterB few s := by
  have e1 : keptP more (filterB few s) = lastsL (keptP few s) := by
    unfold keptP
    rw [pairs_filter hn]
    refine List.filter_eq_self.2 fun p hp => ?_
    have h2 := kept_good hn s p (lasts_mem _ p hp)
    unfold keepB
    rw [h2.1.2, decide_eq_true (hf _ h2.2)]; rfl
  rw [filter_join more (filterB few s), e1, lasts_idem, ← filter_join few s]
end Go.Proofs.YtfchacihhljfhaaDoor

namespace Go.Proofs.YtfchacihhljfhaaDoor
open Go.Aw
set_option maxHeartbeats 1600000
set_option linter.unusedSimpArgs false
set_option linter.unusedVariables false
theorem small_all {s o : List UInt8} (h : small s o = true) : s ≠ [] ∧ ∀ c ∈ s, letB c = true ∨ digB c = true ∨ c ∈ o := by
  cases s with
  | nil => cases h
  | cons x r =>
    unfold small smallT at h
    rw [Bool.and_eq_true, List.all_eq_true] at h
    refine ⟨by simp, fun c hc => ?_⟩
    rcases List.mem_cons.1 hc with rfl | hc
    · exact .inl h.1
    · have := h.2 c hc
      simp only [Bool.or_eq_true, decide_eq_true_eq] at this
      exact this
theorem word_all {s : List UInt8} (h : wordB s = true) : s ≠ [] ∧ ∀ c ∈ s, snC c := by
  unfold wordB at h
  rw [Bool.and_eq_true] at h
  obtain ⟨h1, h2⟩ := small_all h.1
  refine ⟨h1, fun c hc => ?_⟩
  have := h2 c hc
  unfold letB digB at this
  simp only [Bool.and_eq_true, decide_eq_true_eq, List.mem_singleton] at this
  unfold snC
  rcases this with h | h | h
  · exact .inl h
  · exact .inr (.inl h)
  · exact .inr (.inr (by rw [h]; rfl))
theorem word_sn {s : List UInt8} (h : wordB s = true) : snOk s = true := by
  obtain ⟨h1, h2⟩ := word_all h
  unfold snOk
  rw [Bool.and_eq_true, Bool.not_eq_true', decide_eq_false_iff_not, List.all_eq_true]
  refine ⟨h1, fun c hc => ?_⟩
  have := h2 c hc
  unfold snC at this
  unfold snB
  simp only [Bool.and_eq_true, Bool.or_eq_true, decide_eq_true_eq]
  omega
theorem word_no {s : List UInt8} (h : wordB s = true) {d : UInt8} (hd : ¬ snC d) : d ∉ s := fun hm => hd ((word_all h).2 d hm)
theorem list_all {f : List UInt8 → Bool} {l : List (List UInt8)} (h : listB f l = true) : ∀ s ∈ l, f s = true := by
  unfold listB at h
  rw [Bool.and_eq_true, Bool.and_eq_true, List.all_eq_true] at h
  exact h.1.2
theorem right_all {p : Pol} (h : rightB p = true) : sizesB p = true ∧ listB elemOk p.el = true ∧ listB (attrOk p.el) p.at' = true ∧ listB schemeOk p.sc = true ∧ listB wordB p.cl = true ∧ listB wordB p.pr = true ∧ pliB p.el = true := by
  unfold rightB at h
  simp only [Bool.and_eq_true] at h
  exact h
theorem el_word {p : Pol} (h : rightB p = true) {s : List UInt8} (hs : s ∈ p.el) : wordB s = true := by
  have := list_all (right_all h).2.1 s hs
  unfold elemOk at this
  rw [Bool.and_eq_true] at this
  exact this.1
theorem pr_sn {p : Pol} (h : rightB p = true) : p.pr.all snOk = true := List.all_eq_true.2 fun s hs => word_sn (list_all (right_all h).2.2.2.2.2.1 s hs)
theorem all_in {a b : List (List UInt8)} (h : allIn a b = true) : ∀ x ∈ a, x ∈ b := fun x hx => by
  unfold allIn at h
  exact of_decide_eq_true (List.all_eq_true.1 h x hx)
theorem stricter_all {p q : Pol} (h : stricterB p q = true) : attrsIn p.at' q.at' = true ∧ (p.dp ≤ q.dp ∧ p.nd ≤ q.nd ∧ p.by' ≤ q.by') ∧ (∀ x ∈ p.el, x ∈ q.el) ∧ (∀ x ∈ p.sc, x ∈ q.sc) ∧ (∀ x ∈ p.cl, x ∈ q.cl) ∧ (∀ x ∈ p.pr, x ∈ q.pr) := by
  unfold stricterB at h
  simp only [Bool.and_eq_true, decide_eq_true_eq] at h
  obtain ⟨h1, h2, h3, h4, h5, h6⟩ := h
  exact ⟨h1, h2, all_in h3, all_in h4, all_in h5, all_in h6⟩
theorem attr_more {p q : Pol} (hp : rightB p = true) (hs : stricterB p q = true) {el a : List UInt8} (h : attrP p el a = true) : attrP q el a = true := by
  obtain ⟨h1, _, h3, _⟩ := stricter_all hs
  unfold attrP at h ⊢
  rw [Bool.and_eq_true, decide_eq_true_eq, Bool.or_eq_true, decide_eq_true_eq, decide_eq_true_eq] at h ⊢
  refine ⟨h3 _ h.1, ?_⟩
  have each : ∀ s ∈ p.at', s ∈ q.at' ∨ anyOf s ∈ q.at' := fun s hm => by
    unfold attrsIn at h1
    have := List.all_eq_true.1 h1 s hm
    rw [Bool.or_eq_true, decide_eq_true_eq, decide_eq_true_eq] at this
    exact this
  rcases h.2 with h2 | h2
  · rcases each _ h2 with h4 | h4
    · exact .inl h4
    · have e : anyOf ([42, 46] ++ a) = [42, 46] ++ a := by
        unfold anyOf
        rw [show ([42, 46] ++ a : List UInt8) = [42] ++ 46 :: a from rfl, cutDot_some (by decide)]; rfl
      rw [e] at h4; exact .inl h4
  · rcases each _ h2 with h4 | h4
    · exact .inr h4
    · have hno : (46 : UInt8) ∉ el := word_no (el_word hp h.1) (by unfold snC; decide)
      have e : anyOf (el ++ [46] ++ a) = [42, 46] ++ a := by
        unfold anyOf
        rw [show (el ++ [46] ++ a : List UInt8) = el ++ 46 :: a from by simp, cutDot_some hno]; rfl
      rw [e] at h4; exact .inl h4
theorem cls_more {l m : List (List UInt8)} (hf : ∀ x ∈ l, x ∈ m) : ∀ (parts seen : List (List UInt8)), clsB l seen parts = true → clsB m seen parts = true
  | [], _, _ => by rw [clsB]
  | c :: r, seen, h => by
    rw [clsB, Bool.and_eq_true, Bool.and_eq_true, decide_eq_true_eq] at h
    rw [clsB, Bool.and_eq_true, Bool.and_eq_true, decide_eq_true_eq]
    exact ⟨⟨h.1.1, hf _ h.1.2⟩, cls_more hf r _ h.2⟩
theorem allowed_in {s : List UInt8} {l m : List (List UInt8)} (hf : ∀ x ∈ l, x ∈ m) (h : allowed s l = true) : allowed s m = true := by
  unfold allowed at h ⊢
  by_cases hb : schemeB s = true
  · rw [if_pos hb] at h ⊢
    rw [decide_eq_true_eq] at h ⊢
    exact hf _ h
  · rw [if_neg hb] at h ⊢; exact h
theorem value_more {p q : Pol} (hp : rightB p = true) (hs : stricterB p q = true) {el : List UInt8} {a : At} (h : valueP p el a = true) : valueP q el a = true := by
  obtain ⟨_, _, h3, h4, h5, h6⟩ := stricter_all hs
  unfold valueP at h ⊢
  rw [Bool.and_eq_true, decide_eq_true_eq] at h ⊢
  refine ⟨h3 _ h.1, ?_⟩
  have h := h.2
  by_cases k1 : a.1 = relN
  · rw [if_pos k1] at h ⊢; exact h
  · rw [if_neg k1] at h ⊢
    by_cases k2 : a.1 = styN
    · rw [if_pos k2] at h ⊢
      rw [Bool.and_eq_true, decide_eq_true_eq] at h ⊢
      refine ⟨h.1, ?_⟩
      have e := filter_more (more := q.pr) (pr_sn hp) h6 a.2
      rw [h.2] at e; exact e
    · rw [if_neg k2] at h ⊢
      by_cases k3 : a.1 = clsN
      · rw [if_pos k3] at h ⊢
        simp only [Bool.and_eq_true] at h ⊢
        exact ⟨attr_more hp hs h.1, h.2.1, cls_more h5 _ _ h.2.2⟩
      · rw [if_neg k3] at h ⊢
        rw [Bool.and_eq_true, Bool.or_eq_true] at h ⊢
        exact ⟨attr_more hp hs h.1, h.2.imp id (allowed_in h4)⟩
theorem elem_more {p q : Pol} (hp : rightB p = true) (hs : stricterB p q = true) {n : Node} (h : elemP p n = true) : elemP q n = true := by
  obtain ⟨_, _, h3, _⟩ := stricter_all hs
  unfold elemP at h ⊢
  simp only [Bool.and_eq_true, List.all_eq_true, decide_eq_true_eq] at h ⊢
  exact ⟨fun a ha => value_more hp hs (h.1 a ha), h.2.1, h3 _ h.2.2⟩
mutual
theorem innN_more {p q : Pol} (hp : rightB p = true) (hs : stricterB p q = true) : ∀ n : Node, innN p n = true → innN q n = true
  | .mk nm a t k, h => by
    rw [innN, Bool.or_eq_true, Bool.and_eq_true] at h
    rw [innN, Bool.or_eq_true, Bool.and_eq_true]
    rcases h with h | h
    · exact .inl h
    · exact .inr ⟨elem_more hp hs h.1, innL_more hp hs k h.2⟩
theorem innL_more {p q : Pol} (hp : rightB p = true) (hs : stricterB p q = true) : ∀ l : List Node, innL p l = true → innL q l = true
  | [], _ => by rw [innL]
  | n :: r, h => by
    rw [innL, Bool.and_eq_true] at h
    rw [innL, Bool.and_eq_true]
    exact ⟨innN_more hp hs n h.1, innL_more hp hs r h.2⟩
end
/-- SAFE BY A STRICTER ONE, SAFE BY THE OTHER. -/
theorem safe_more {p q : Pol} (hp : rightB p = true) (hs : stricterB p q = true) {l : List Node} (h : safeB p l = true) : safeB q l = true := by
  obtain ⟨_, h2, _⟩ := stricter_all hs
  rw [safe_parts] at h ⊢
  exact ⟨by omega, by omega, h.2.2.1, innL_more hp hs l h.2.2.2⟩
end Go.Proofs.YtfchacihhljfhaaDoor

namespace Go.Proofs.YtfchacihhljfhaaDoor
open Go.Aw
set_option maxHeartbeats 1600000
set_option linter.unusedSimpArgs false
set_option linter.unusedVariables false
set_option maxRecDepth 100000 in
set_option maxHeartbeats 2000000 in
theorem SafeStricter_ok (p q : Pol) (l : List Node) : PureC Tryd.prog 7 [polA p, polA q, .d (.sl (nodesD l))] (.d (.bool true)) := by
  have hc1 := awake_ok
  have hc2 := pLight_ok p
  have hc3 := pLight_ok q
  by_cases hg : lightP p = true ∧ lightP q = true
  · obtain ⟨hlp, hlq⟩ := hg
    rw [hlp] at hc2
    rw [hlq] at hc3
    have hp := light_fits hlp
    have hq := light_fits hlq
    have hc4 := Right_ok p hp
    have hc5 := Right_ok q hq
    have hc6 := Stricter_ok p q hp hq
    refine pure_okT Tryd.wf Tryd.tab_ok Tryd.func7 (by decide +kernel) rfl rfl rfl rfl ?_
    repeat' (first | refine PureC.use hc1 ?_ | refine PureC.use hc2 ?_ | refine PureC.use hc3 ?_ | refine PureC.use hc4 ?_ | refine PureC.use hc5 ?_ | refine PureC.use hc6 ?_ | refine PureC.use hc7 ?_ | refine PureC.use hc8 ?_ |                refine ⟨fun _ => ?_, fun h => absurd h (by decide)⟩ | refine ⟨fun h => absurd h (by decide), fun _ => ?_⟩ | (refine ⟨fun h => ?_, fun h => ?_⟩ <;> (try simp only [decide_eq_true_eq, decide_eq_false_iff_not, Bool.not_eq_true', Bool.not_eq_false', Bool.not_eq_true, Bool.not_eq_false, not_true_eq_false, beq_iff_eq, beq_eq_false_iff_ne, ne_eq, decide_eq_decide, true_iff, false_iff, iff_true, iff_false, true_and, and_true, false_or, or_false, Bool.and_true, Bool.and_eq_true, Bool.and_eq_false_iff, Bool.or_eq_true, Bool.or_eq_false_iff, List.length_cons, List.length_nil] at h) <;> (try (exfalso; first | omega | exact h rfl | (cases h; done) | exact absurd h (by assumption) | exact h (by assumption) | (simp at h; done)))) | refine ⟨⟨by (first | omega | (simp only [lenS]; omega)), by (first | omega | (simp only [lenS]; omega))⟩, _, by assumption, by rfl, ?_⟩ | refine .inl ⟨⟨by (first | omega | (simp only [lenS]; omega)), by (first | omega | (simp only [lenS]; omega))⟩, ?_⟩ | refine ⟨⟨by (first | omega | (simp only [lenS]; omega)), by (first | omega | (simp only [lenS]; omega))⟩, ?_⟩ | refine ⟨⟨by (first | omega | (simp only [lenS]; omega)), by (first | omega | (simp only [lenS]; omega)), by (first | omega | (simp only [lenS]; omega))⟩, ?_⟩ | refine ⟨.inl rfl, ?_⟩ | refine ⟨.inr (.inl (by (first | omega | (simp only [lenS]; omega)))), ?_⟩ | refine ⟨_, rfl, rfl, by (first | exact Nat.le_refl _ | exact Nat.le_of_ble_eq_true rfl | decide), ?_⟩ | refine ⟨_, rfl, by (first | exact Nat.le_refl _ | exact Nat.le_of_ble_eq_true rfl | decide), ?_⟩ | refine ⟨by (first | exact Nat.le_refl _ | exact Nat.le_of_ble_eq_true rfl | decide | exact rfl), ?_⟩ | refine ⟨show _ ≤ (9223372036854775807 : Nat) by (first | omega | (simp only [lenS]; omega)), ?_⟩ | refine ⟨show _ ≠ (0 : Int) by (first | omega | (simp only [lenS]; omega)), ?_⟩ | refine ⟨_, rfl, _, rfl, ?_⟩ | refine ⟨_, by assumption, Nat.le_of_ble_eq_true rfl, ?_⟩ | refine ⟨_, by assumption, _, rfl, ?_⟩ | refine ⟨_, rfl, ?_⟩ | fail)
    refine Light_at l _ fun b hb => ?_
    cases b with
    | false =>
      clear hc4 hc5 hc6
      repeat' (first | refine PureC.use hc1 ?_ | refine PureC.use hc2 ?_ | refine PureC.use hc3 ?_ | refine PureC.use hc4 ?_ | refine PureC.use hc5 ?_ | refine PureC.use hc6 ?_ | refine PureC.use hc7 ?_ | refine PureC.use hc8 ?_ |                refine ⟨fun _ => ?_, fun h => absurd h (by decide)⟩ | refine ⟨fun h => absurd h (by decide), fun _ => ?_⟩ | (refine ⟨fun h => ?_, fun h => ?_⟩ <;> (try simp only [decide_eq_true_eq, decide_eq_false_iff_not, Bool.not_eq_true', Bool.not_eq_false', Bool.not_eq_true, Bool.not_eq_false, not_true_eq_false, beq_iff_eq, beq_eq_false_iff_ne, ne_eq, decide_eq_decide, true_iff, false_iff, iff_true, iff_false, true_and, and_true, false_or, or_false, Bool.and_true, Bool.and_eq_true, Bool.and_eq_false_iff, Bool.or_eq_true, Bool.or_eq_false_iff, List.length_cons, List.length_nil] at h) <;> (try (exfalso; first | omega | exact h rfl | (cases h; done) | exact absurd h (by assumption) | exact h (by assumption) | (simp at h; done)))) | refine ⟨⟨by (first | omega | (simp only [lenS]; omega)), by (first | omega | (simp only [lenS]; omega))⟩, _, by assumption, by rfl, ?_⟩ | refine .inl ⟨⟨by (first | omega | (simp only [lenS]; omega)), by (first | omega | (simp only [lenS]; omega))⟩, ?_⟩ | refine ⟨⟨by (first | omega | (simp only [lenS]; omega)), by (first | omega | (simp only [lenS]; omega))⟩, ?_⟩ | refine ⟨⟨by (first | omega | (simp only [lenS]; omega)), by (first | omega | (simp only [lenS]; omega)), by (first | omega | (simp only [lenS]; omega))⟩, ?_⟩ | refine ⟨.inl rfl, ?_⟩ | refine ⟨.inr (.inl (by (first | omega | (simp only [lenS]; omega)))), ?_⟩ | refine ⟨_, rfl, rfl, by (first | exact Nat.le_refl _ | exact Nat.le_of_ble_eq_true rfl | decide), ?_⟩ | refine ⟨_, rfl, by (first | exact Nat.le_refl _ | exact Nat.le_of_ble_eq_true rfl | decide), ?_⟩ | refine ⟨by (first | exact Nat.le_refl _ | exact Nat.le_of_ble_eq_true rfl | decide | exact rfl), ?_⟩ | refine ⟨show _ ≤ (9223372036854775807 : Nat) by (first | omega | (simp only [lenS]; omega)), ?_⟩ | refine ⟨show _ ≠ (0 : Int) by (first | omega | (simp only [lenS]; omega)), ?_⟩ | refine ⟨_, rfl, _, rfl, ?_⟩ | refine ⟨_, by assumption, Nat.le_of_ble_eq_true rfl, ?_⟩ | refine ⟨_, by assumption, _, rfl, ?_⟩ | refine ⟨_, rfl, ?_⟩ | fail)
      exact ⟨_, _, fin_out rfl, rfl⟩
    | true =>
      have hw := hb rfl
      clear hb
      have hc7 := Safe_light p l hp hw
      have hc8 := Safe_light q l hq hw
      cases hr : rightB p with
      | false =>
        rw [hr] at hc4
        clear hc5 hc6 hc7 hc8
        repeat' (first | refine PureC.use hc1 ?_ | refine PureC.use hc2 ?_ | refine PureC.use hc3 ?_ | refine PureC.use hc4 ?_ | refine PureC.use hc5 ?_ | refine PureC.use hc6 ?_ | refine PureC.use hc7 ?_ | refine PureC.use hc8 ?_ |                refine ⟨fun _ => ?_, fun h => absurd h (by decide)⟩ | refine ⟨fun h => absurd h (by decide), fun _ => ?_⟩ | (refine ⟨fun h => ?_, fun h => ?_⟩ <;> (try simp only [decide_eq_true_eq, decide_eq_false_iff_not, Bool.not_eq_true', Bool.not_eq_false', Bool.not_eq_true, Bool.not_eq_false, not_true_eq_false, beq_iff_eq, beq_eq_false_iff_ne, ne_eq, decide_eq_decide, true_iff, false_iff, iff_true, iff_false, true_and, and_true, false_or, or_false, Bool.and_true, Bool.and_eq_true, Bool.and_eq_false_iff, Bool.or_eq_true, Bool.or_eq_false_iff, List.length_cons, List.length_nil] at h) <;> (try (exfalso; first | omega | exact h rfl | (cases h; done) | exact absurd h (by assumption) | exact h (by assumption) | (simp at h; done)))) | refine ⟨⟨by (first | omega | (simp only [lenS]; omega)), by (first | omega | (simp only [lenS]; omega))⟩, _, by assumption, by rfl, ?_⟩ | refine .inl ⟨⟨by (first | omega | (simp only [lenS]; omega)), by (first | omega | (simp only [lenS]; omega))⟩, ?_⟩ | refine ⟨⟨by (first | omega | (simp only [lenS]; omega)), by (first | omega | (simp only [lenS]; omega))⟩, ?_⟩ | refine ⟨⟨by (first | omega | (simp only [lenS]; omega)), by (first | omega | (simp only [lenS]; omega)), by (first | omega | (simp only [lenS]; omega))⟩, ?_⟩ | refine ⟨.inl rfl, ?_⟩ | refine ⟨.inr (.inl (by (first | omega | (simp only [lenS]; omega)))), ?_⟩ | refine ⟨_, rfl, rfl, by (first | exact Nat.le_refl _ | exact Nat.le_of_ble_eq_true rfl | decide), ?_⟩ | refine ⟨_, rfl, by (first | exact Nat.le_refl _ | exact Nat.le_of_ble_eq_true rfl | decide), ?_⟩ | refine ⟨by (first | exact Nat.le_refl _ | exact Nat.le_of_ble_eq_true rfl | decide | exact rfl), ?_⟩ | refine ⟨show _ ≤ (9223372036854775807 : Nat) by (first | omega | (simp only [lenS]; omega)), ?_⟩ | refine ⟨show _ ≠ (0 : Int) by (first | omega | (simp only [lenS]; omega)), ?_⟩ | refine ⟨_, rfl, _, rfl, ?_⟩ | refine ⟨_, by assumption, Nat.le_of_ble_eq_true rfl, ?_⟩ | refine ⟨_, by assumption, _, rfl, ?_⟩ | refine ⟨_, rfl, ?_⟩ | fail)
        exact ⟨_, _, fin_out rfl, rfl⟩
      | true =>
        rw [hr] at hc4
        cases hr2 : rightB q with
        | false =>
          rw [hr2] at hc5
          clear hc6 hc7 hc8
          repeat' (first | refine PureC.use hc1 ?_ | refine PureC.use hc2 ?_ | refine PureC.use hc3 ?_ | refine PureC.use hc4 ?_ | refine PureC.use hc5 ?_ | refine PureC.use hc6 ?_ | refine PureC.use hc7 ?_ | refine PureC.use hc8 ?_ |                refine ⟨fun _ => ?_, fun h => absurd h (by decide)⟩ | refine ⟨fun h => absurd h (by decide), fun _ => ?_⟩ | (refine ⟨fun h => ?_, fun h => ?_⟩ <;> (try simp only [decide_eq_true_eq, decide_eq_false_iff_not, Bool.not_eq_true', Bool.not_eq_false', Bool.not_eq_true, Bool.not_eq_false, not_true_eq_false, beq_iff_eq, beq_eq_false_iff_ne, ne_eq, decide_eq_decide, true_iff, false_iff, iff_true, iff_false, true_and, and_true, false_or, or_false, Bool.and_true, Bool.and_eq_true, Bool.and_eq_false_iff, Bool.or_eq_true, Bool.or_eq_false_iff, List.length_cons, List.length_nil] at h) <;> (try (exfalso; first | omega | exact h rfl | (cases h; done) | exact absurd h (by assumption) | exact h (by assumption) | (simp at h; done)))) | refine ⟨⟨by (first | omega | (simp only [lenS]; omega)), by (first | omega | (simp only [lenS]; omega))⟩, _, by assumption, by rfl, ?_⟩ | refine .inl ⟨⟨by (first | omega | (simp only [lenS]; omega)), by (first | omega | (simp only [lenS]; omega))⟩, ?_⟩ | refine ⟨⟨by (first | omega | (simp only [lenS]; omega)), by (first | omega | (simp only [lenS]; omega))⟩, ?_⟩ | refine ⟨⟨by (first | omega | (simp only [lenS]; omega)), by (first | omega | (simp only [lenS]; omega)), by (first | omega | (simp only [lenS]; omega))⟩, ?_⟩ | refine ⟨.inl rfl, ?_⟩ | refine ⟨.inr (.inl (by (first | omega | (simp only [lenS]; omega)))), ?_⟩ | refine ⟨_, rfl, rfl, by (first | exact Nat.le_refl _ | exact Nat.le_of_ble_eq_true rfl | decide), ?_⟩ | refine ⟨_, rfl, by (first | exact Nat.le_refl _ | exact Nat.le_of_ble_eq_true rfl | decide), ?_⟩ | refine ⟨by (first | exact Nat.le_refl _ | exact Nat.le_of_ble_eq_true rfl | decide | exact rfl), ?_⟩ | refine ⟨show _ ≤ (9223372036854775807 : Nat) by (first | omega | (simp only [lenS]; omega)), ?_⟩ | refine ⟨show _ ≠ (0 : Int) by (first | omega | (simp only [lenS]; omega)), ?_⟩ | refine ⟨_, rfl, _, rfl, ?_⟩ | refine ⟨_, by assumption, Nat.le_of_ble_eq_true rfl, ?_⟩ | refine ⟨_, by assumption, _, rfl, ?_⟩ | refine ⟨_, rfl, ?_⟩ | fail)
          exact ⟨_, _, fin_out rfl, rfl⟩
        | true =>
          rw [hr2] at hc5
          cases hst : stricterB p q with
          | false =>
            rw [hst] at hc6
            clear hc7 hc8
            repeat' (first | refine PureC.use hc1 ?_ | refine PureC.use hc2 ?_ | refine PureC.use hc3 ?_ | refine PureC.use hc4 ?_ | refine PureC.use hc5 ?_ | refine PureC.use hc6 ?_ | refine PureC.use hc7 ?_ | refine PureC.use hc8 ?_ |                refine ⟨fun _ => ?_, fun h => absurd h (by decide)⟩ | refine ⟨fun h => absurd h (by decide), fun _ => ?_⟩ | (refine ⟨fun h => ?_, fun h => ?_⟩ <;> (try simp only [decide_eq_true_eq, decide_eq_false_iff_not, Bool.not_eq_true', Bool.not_eq_false', Bool.not_eq_true, Bool.not_eq_false, not_true_eq_false, beq_iff_eq, beq_eq_false_iff_ne, ne_eq, decide_eq_decide, true_iff, false_iff, iff_true, iff_false, true_and, and_true, false_or, or_false, Bool.and_true, Bool.and_eq_true, Bool.and_eq_false_iff, Bool.or_eq_true, Bool.or_eq_false_iff, List.length_cons, List.length_nil] at h) <;> (try (exfalso; first | omega | exact h rfl | (cases h; done) | exact absurd h (by assumption) | exact h (by assumption) | (simp at h; done)))) | refine ⟨⟨by (first | omega | (simp only [lenS]; omega)), by (first | omega | (simp only [lenS]; omega))⟩, _, by assumption, by rfl, ?_⟩ | refine .inl ⟨⟨by (first | omega | (simp only [lenS]; omega)), by (first | omega | (simp only [lenS]; omega))⟩, ?_⟩ | refine ⟨⟨by (first | omega | (simp only [lenS]; omega)), by (first | omega | (simp only [lenS]; omega))⟩, ?_⟩ | refine ⟨⟨by (first | omega | (simp only [lenS]; omega)), by (first | omega | (simp only [lenS]; omega)), by (first | omega | (simp only [lenS]; omega))⟩, ?_⟩ | refine ⟨.inl rfl, ?_⟩ | refine ⟨.inr (.inl (by (first | omega | (simp only [lenS]; omega)))), ?_⟩ | refine ⟨_, rfl, rfl, by (first | exact Nat.le_refl _ | exact Nat.le_of_ble_eq_true rfl | decide), ?_⟩ | refine ⟨_, rfl, by (first | exact Nat.le_refl _ | exact Nat.le_of_ble_eq_true rfl | decide), ?_⟩ | refine ⟨by (first | exact Nat.le_refl _ | exact Nat.le_of_ble_eq_true rfl | decide | exact rfl), ?_⟩ | refine ⟨show _ ≤ (9223372036854775807 : Nat) by (first | omega | (simp only [lenS]; omega)), ?_⟩ | refine ⟨show _ ≠ (0 : Int) by (first | omega | (simp only [lenS]; omega)), ?_⟩ | refine ⟨_, rfl, _, rfl, ?_⟩ | refine ⟨_, by assumption, Nat.le_of_ble_eq_true rfl, ?_⟩ | refine ⟨_, by assumption, _, rfl, ?_⟩ | refine ⟨_, rfl, ?_⟩ | fail)
            exact ⟨_, _, fin_out rfl, rfl⟩
          | true =>
            rw [hst] at hc6
            cases hs : safeB p l with
            | false =>
              rw [hs] at hc7
              clear hc8
              repeat' (first | refine PureC.use hc1 ?_ | refine PureC.use hc2 ?_ | refine PureC.use hc3 ?_ | refine PureC.use hc4 ?_ | refine PureC.use hc5 ?_ | refine PureC.use hc6 ?_ | refine PureC.use hc7 ?_ | refine PureC.use hc8 ?_ |                refine ⟨fun _ => ?_, fun h => absurd h (by decide)⟩ | refine ⟨fun h => absurd h (by decide), fun _ => ?_⟩ | (refine ⟨fun h => ?_, fun h => ?_⟩ <;> (try simp only [decide_eq_true_eq, decide_eq_false_iff_not, Bool.not_eq_true', Bool.not_eq_false', Bool.not_eq_true, Bool.not_eq_false, not_true_eq_false, beq_iff_eq, beq_eq_false_iff_ne, ne_eq, decide_eq_decide, true_iff, false_iff, iff_true, iff_false, true_and, and_true, false_or, or_false, Bool.and_true, Bool.and_eq_true, Bool.and_eq_false_iff, Bool.or_eq_true, Bool.or_eq_false_iff, List.length_cons, List.length_nil] at h) <;> (try (exfalso; first | omega | exact h rfl | (cases h; done) | exact absurd h (by assumption) | exact h (by assumption) | (simp at h; done)))) | refine ⟨⟨by (first | omega | (simp only [lenS]; omega)), by (first | omega | (simp only [lenS]; omega))⟩, _, by assumption, by rfl, ?_⟩ | refine .inl ⟨⟨by (first | omega | (simp only [lenS]; omega)), by (first | omega | (simp only [lenS]; omega))⟩, ?_⟩ | refine ⟨⟨by (first | omega | (simp only [lenS]; omega)), by (first | omega | (simp only [lenS]; omega))⟩, ?_⟩ | refine ⟨⟨by (first | omega | (simp only [lenS]; omega)), by (first | omega | (simp only [lenS]; omega)), by (first | omega | (simp only [lenS]; omega))⟩, ?_⟩ | refine ⟨.inl rfl, ?_⟩ | refine ⟨.inr (.inl (by (first | omega | (simp only [lenS]; omega)))), ?_⟩ | refine ⟨_, rfl, rfl, by (first | exact Nat.le_refl _ | exact Nat.le_of_ble_eq_true rfl | decide), ?_⟩ | refine ⟨_, rfl, by (first | exact Nat.le_refl _ | exact Nat.le_of_ble_eq_true rfl | decide), ?_⟩ | refine ⟨by (first | exact Nat.le_refl _ | exact Nat.le_of_ble_eq_true rfl | decide | exact rfl), ?_⟩ | refine ⟨show _ ≤ (9223372036854775807 : Nat) by (first | omega | (simp only [lenS]; omega)), ?_⟩ | refine ⟨show _ ≠ (0 : Int) by (first | omega | (simp only [lenS]; omega)), ?_⟩ | refine ⟨_, rfl, _, rfl, ?_⟩ | refine ⟨_, by assumption, Nat.le_of_ble_eq_true rfl, ?_⟩ | refine ⟨_, by assumption, _, rfl, ?_⟩ | refine ⟨_, rfl, ?_⟩ | fail)
              exact ⟨_, _, fin_out rfl, rfl⟩
            | true =>
              rw [hs] at hc7
              rw [safe_more hr hst hs] at hc8
              clear hr hr2 hst hs hlp hlq
              repeat' (first | refine PureC.use hc1 ?_ | refine PureC.use hc2 ?_ | refine PureC.use hc3 ?_ | refine PureC.use hc4 ?_ | refine PureC.use hc5 ?_ | refine PureC.use hc6 ?_ | refine PureC.use hc7 ?_ | refine PureC.use hc8 ?_ |                refine ⟨fun _ => ?_, fun h => absurd h (by decide)⟩ | refine ⟨fun h => absurd h (by decide), fun _ => ?_⟩ | (refine ⟨fun h => ?_, fun h => ?_⟩ <;> (try simp only [decide_eq_true_eq, decide_eq_false_iff_not, Bool.not_eq_true', Bool.not_eq_false', Bool.not_eq_true, Bool.not_eq_false, not_true_eq_false, beq_iff_eq, beq_eq_false_iff_ne, ne_eq, decide_eq_decide, true_iff, false_iff, iff_true, iff_false, true_and, and_true, false_or, or_false, Bool.and_true, Bool.and_eq_true, Bool.and_eq_false_iff, Bool.or_eq_true, Bool.or_eq_false_iff, List.length_cons, List.length_nil] at h) <;> (try (exfalso; first | omega | exact h rfl | (cases h; done) | exact absurd h (by assumption) | exact h (by assumption) | (simp at h; done)))) | refine ⟨⟨by (first | omega | (simp only [lenS]; omega)), by (first | omega | (simp only [lenS]; omega))⟩, _, by assumption, by rfl, ?_⟩ | refine .inl ⟨⟨by (first | omega | (simp only [lenS]; omega)), by (first | omega | (simp only [lenS]; omega))⟩, ?_⟩ | refine ⟨⟨by (first | omega | (simp only [lenS]; omega)), by (first | omega | (simp only [lenS]; omega))⟩, ?_⟩ | refine ⟨⟨by (first | omega | (simp only [lenS]; omega)), by (first | omega | (simp only [lenS]; omega)), by (first | omega | (simp only [lenS]; omega))⟩, ?_⟩ | refine ⟨.inl rfl, ?_⟩ | refine ⟨.inr (.inl (by (first | omega | (simp only [lenS]; omega)))), ?_⟩ | refine ⟨_, rfl, rfl, by (first | exact Nat.le_refl _ | exact Nat.le_of_ble_eq_true rfl | decide), ?_⟩ | refine ⟨_, rfl, by (first | exact Nat.le_refl _ | exact Nat.le_of_ble_eq_true rfl | decide), ?_⟩ | refine ⟨by (first | exact Nat.le_refl _ | exact Nat.le_of_ble_eq_true rfl | decide | exact rfl), ?_⟩ | refine ⟨show _ ≤ (9223372036854775807 : Nat) by (first | omega | (simp only [lenS]; omega)), ?_⟩ | refine ⟨show _ ≠ (0 : Int) by (first | omega | (simp only [lenS]; omega)), ?_⟩ | refine ⟨_, rfl, _, rfl, ?_⟩ | refine ⟨_, by assumption, Nat.le_of_ble_eq_true rfl, ?_⟩ | refine ⟨_, by assumption, _, rfl, ?_⟩ | refine ⟨_, rfl, ?_⟩ | fail)
              exact ⟨_, _, fin_out rfl, rfl⟩
  · by_cases h1 : lightP p = true
    · have h2 : lightP q = false := by
        cases h : lightP q with
        | false => rfl
        | true => exact absurd ⟨h1, h⟩ hg
      rw [h1] at hc2
      rw [h2] at hc3
      clear hg h1 h2
      refine pure_okT Tryd.wf Tryd.tab_ok Tryd.func7 (by decide +kernel) rfl rfl rfl rfl ?_
      repeat' (first | refine PureC.use hc1 ?_ | refine PureC.use hc2 ?_ | refine PureC.use hc3 ?_ | refine PureC.use hc4 ?_ | refine PureC.use hc5 ?_ | refine PureC.use hc6 ?_ | refine PureC.use hc7 ?_ | refine PureC.use hc8 ?_ |                refine ⟨fun _ => ?_, fun h => absurd h (by decide)⟩ | refine ⟨fun h => absurd h (by decide), fun _ => ?_⟩ | (refine ⟨fun h => ?_, fun h => ?_⟩ <;> (try simp only [decide_eq_true_eq, decide_eq_false_iff_not, Bool.not_eq_true', Bool.not_eq_false', Bool.not_eq_true, Bool.not_eq_false, not_true_eq_false, beq_iff_eq, beq_eq_false_iff_ne, ne_eq, decide_eq_decide, true_iff, false_iff, iff_true, iff_false, true_and, and_true, false_or, or_false, Bool.and_true, Bool.and_eq_true, Bool.and_eq_false_iff, Bool.or_eq_true, Bool.or_eq_false_iff, List.length_cons, List.length_nil] at h) <;> (try (exfalso; first | omega | exact h rfl | (cases h; done) | exact absurd h (by assumption) | exact h (by assumption) | (simp at h; done)))) | refine ⟨⟨by (first | omega | (simp only [lenS]; omega)), by (first | omega | (simp only [lenS]; omega))⟩, _, by assumption, by rfl, ?_⟩ | refine .inl ⟨⟨by (first | omega | (simp only [lenS]; omega)), by (first | omega | (simp only [lenS]; omega))⟩, ?_⟩ | refine ⟨⟨by (first | omega | (simp only [lenS]; omega)), by (first | omega | (simp only [lenS]; omega))⟩, ?_⟩ | refine ⟨⟨by (first | omega | (simp only [lenS]; omega)), by (first | omega | (simp only [lenS]; omega)), by (first | omega | (simp only [lenS]; omega))⟩, ?_⟩ | refine ⟨.inl rfl, ?_⟩ | refine ⟨.inr (.inl (by (first | omega | (simp only [lenS]; omega)))), ?_⟩ | refine ⟨_, rfl, rfl, by (first | exact Nat.le_refl _ | exact Nat.le_of_ble_eq_true rfl | decide), ?_⟩ | refine ⟨_, rfl, by (first | exact Nat.le_refl _ | exact Nat.le_of_ble_eq_true rfl | decide), ?_⟩ | refine ⟨by (first | exact Nat.le_refl _ | exact Nat.le_of_ble_eq_true rfl | decide | exact rfl), ?_⟩ | refine ⟨show _ ≤ (9223372036854775807 : Nat) by (first | omega | (simp only [lenS]; omega)), ?_⟩ | refine ⟨show _ ≠ (0 : Int) by (first | omega | (simp only [lenS]; omega)), ?_⟩ | refine ⟨_, rfl, _, rfl, ?_⟩ | refine ⟨_, by assumption, Nat.le_of_ble_eq_true rfl, ?_⟩ | refine ⟨_, by assumption, _, rfl, ?_⟩ | refine ⟨_, rfl, ?_⟩ | fail)
      refine Light_at l _ fun b hb => ?_
      repeat' (first | refine PureC.use hc1 ?_ | refine PureC.use hc2 ?_ | refine PureC.use hc3 ?_ | refine PureC.use hc4 ?_ | refine PureC.use hc5 ?_ | refine PureC.use hc6 ?_ | refine PureC.use hc7 ?_ | refine PureC.use hc8 ?_ |                refine ⟨fun _ => ?_, fun h => absurd h (by decide)⟩ | refine ⟨fun h => absurd h (by decide), fun _ => ?_⟩ | (refine ⟨fun h => ?_, fun h => ?_⟩ <;> (try simp only [decide_eq_true_eq, decide_eq_false_iff_not, Bool.not_eq_true', Bool.not_eq_false', Bool.not_eq_true, Bool.not_eq_false, not_true_eq_false, beq_iff_eq, beq_eq_false_iff_ne, ne_eq, decide_eq_decide, true_iff, false_iff, iff_true, iff_false, true_and, and_true, false_or, or_false, Bool.and_true, Bool.and_eq_true, Bool.and_eq_false_iff, Bool.or_eq_true, Bool.or_eq_false_iff, List.length_cons, List.length_nil] at h) <;> (try (exfalso; first | omega | exact h rfl | (cases h; done) | exact absurd h (by assumption) | exact h (by assumption) | (simp at h; done)))) | refine ⟨⟨by (first | omega | (simp only [lenS]; omega)), by (first | omega | (simp only [lenS]; omega))⟩, _, by assumption, by rfl, ?_⟩ | refine .inl ⟨⟨by (first | omega | (simp only [lenS]; omega)), by (first | omega | (simp only [lenS]; omega))⟩, ?_⟩ | refine ⟨⟨by (first | omega | (simp only [lenS]; omega)), by (first | omega | (simp only [lenS]; omega))⟩, ?_⟩ | refine ⟨⟨by (first | omega | (simp only [lenS]; omega)), by (first | omega | (simp only [lenS]; omega)), by (first | omega | (simp only [lenS]; omega))⟩, ?_⟩ | refine ⟨.inl rfl, ?_⟩ | refine ⟨.inr (.inl (by (first | omega | (simp only [lenS]; omega)))), ?_⟩ | refine ⟨_, rfl, rfl, by (first | exact Nat.le_refl _ | exact Nat.le_of_ble_eq_true rfl | decide), ?_⟩ | refine ⟨_, rfl, by (first | exact Nat.le_refl _ | exact Nat.le_of_ble_eq_true rfl | decide), ?_⟩ | refine ⟨by (first | exact Nat.le_refl _ | exact Nat.le_of_ble_eq_true rfl | decide | exact rfl), ?_⟩ | refine ⟨show _ ≤ (9223372036854775807 : Nat) by (first | omega | (simp only [lenS]; omega)), ?_⟩ | refine ⟨show _ ≠ (0 : Int) by (first | omega | (simp only [lenS]; omega)), ?_⟩ | refine ⟨_, rfl, _, rfl, ?_⟩ | refine ⟨_, by assumption, Nat.le_of_ble_eq_true rfl, ?_⟩ | refine ⟨_, by assumption, _, rfl, ?_⟩ | refine ⟨_, rfl, ?_⟩ | fail)
      exact ⟨_, _, fin_out rfl, rfl⟩
    · rw [Bool.not_eq_true] at h1
      rw [h1] at hc2
      clear hg h1
      cases lightP q with
      | false =>
        refine pure_okT Tryd.wf Tryd.tab_ok Tryd.func7 (by decide +kernel) rfl rfl rfl rfl ?_
        repeat' (first | refine PureC.use hc1 ?_ | refine PureC.use hc2 ?_ | refine PureC.use hc3 ?_ | refine PureC.use hc4 ?_ | refine PureC.use hc5 ?_ | refine PureC.use hc6 ?_ | refine PureC.use hc7 ?_ | refine PureC.use hc8 ?_ |                refine ⟨fun _ => ?_, fun h => absurd h (by decide)⟩ | refine ⟨fun h => absurd h (by decide), fun _ => ?_⟩ | (refine ⟨fun h => ?_, fun h => ?_⟩ <;> (try simp only [decide_eq_true_eq, decide_eq_false_iff_not, Bool.not_eq_true', Bool.not_eq_false', Bool.not_eq_true, Bool.not_eq_false, not_true_eq_false, beq_iff_eq, beq_eq_false_iff_ne, ne_eq, decide_eq_decide, true_iff, false_iff, iff_true, iff_false, true_and, and_true, false_or, or_false, Bool.and_true, Bool.and_eq_true, Bool.and_eq_false_iff, Bool.or_eq_true, Bool.or_eq_false_iff, List.length_cons, List.length_nil] at h) <;> (try (exfalso; first | omega | exact h rfl | (cases h; done) | exact absurd h (by assumption) | exact h (by assumption) | (simp at h; done)))) | refine ⟨⟨by (first | omega | (simp only [lenS]; omega)), by (first | omega | (simp only [lenS]; omega))⟩, _, by assumption, by rfl, ?_⟩ | refine .inl ⟨⟨by (first | omega | (simp only [lenS]; omega)), by (first | omega | (simp only [lenS]; omega))⟩, ?_⟩ | refine ⟨⟨by (first | omega | (simp only [lenS]; omega)), by (first | omega | (simp only [lenS]; omega))⟩, ?_⟩ | refine ⟨⟨by (first | omega | (simp only [lenS]; omega)), by (first | omega | (simp only [lenS]; omega)), by (first | omega | (simp only [lenS]; omega))⟩, ?_⟩ | refine ⟨.inl rfl, ?_⟩ | refine ⟨.inr (.inl (by (first | omega | (simp only [lenS]; omega)))), ?_⟩ | refine ⟨_, rfl, rfl, by (first | exact Nat.le_refl _ | exact Nat.le_of_ble_eq_true rfl | decide), ?_⟩ | refine ⟨_, rfl, by (first | exact Nat.le_refl _ | exact Nat.le_of_ble_eq_true rfl | decide), ?_⟩ | refine ⟨by (first | exact Nat.le_refl _ | exact Nat.le_of_ble_eq_true rfl | decide | exact rfl), ?_⟩ | refine ⟨show _ ≤ (9223372036854775807 : Nat) by (first | omega | (simp only [lenS]; omega)), ?_⟩ | refine ⟨show _ ≠ (0 : Int) by (first | omega | (simp only [lenS]; omega)), ?_⟩ | refine ⟨_, rfl, _, rfl, ?_⟩ | refine ⟨_, by assumption, Nat.le_of_ble_eq_true rfl, ?_⟩ | refine ⟨_, by assumption, _, rfl, ?_⟩ | refine ⟨_, rfl, ?_⟩ | fail)
        refine Light_at l _ fun b hb => ?_
        repeat' (first | refine PureC.use hc1 ?_ | refine PureC.use hc2 ?_ | refine PureC.use hc3 ?_ | refine PureC.use hc4 ?_ | refine PureC.use hc5 ?_ | refine PureC.use hc6 ?_ | refine PureC.use hc7 ?_ | refine PureC.use hc8 ?_ |                refine ⟨fun _ => ?_, fun h => absurd h (by decide)⟩ | refine ⟨fun h => absurd h (by decide), fun _ => ?_⟩ | (refine ⟨fun h => ?_, fun h => ?_⟩ <;> (try simp only [decide_eq_true_eq, decide_eq_false_iff_not, Bool.not_eq_true', Bool.not_eq_false', Bool.not_eq_true, Bool.not_eq_false, not_true_eq_false, beq_iff_eq, beq_eq_false_iff_ne, ne_eq, decide_eq_decide, true_iff, false_iff, iff_true, iff_false, true_and, and_true, false_or, or_false, Bool.and_true, Bool.and_eq_true, Bool.and_eq_false_iff, Bool.or_eq_true, Bool.or_eq_false_iff, List.length_cons, List.length_nil] at h) <;> (try (exfalso; first | omega | exact h rfl | (cases h; done) | exact absurd h (by assumption) | exact h (by assumption) | (simp at h; done)))) | refine ⟨⟨by (first | omega | (simp only [lenS]; omega)), by (first | omega | (simp only [lenS]; omega))⟩, _, by assumption, by rfl, ?_⟩ | refine .inl ⟨⟨by (first | omega | (simp only [lenS]; omega)), by (first | omega | (simp only [lenS]; omega))⟩, ?_⟩ | refine ⟨⟨by (first | omega | (simp only [lenS]; omega)), by (first | omega | (simp only [lenS]; omega))⟩, ?_⟩ | refine ⟨⟨by (first | omega | (simp only [lenS]; omega)), by (first | omega | (simp only [lenS]; omega)), by (first | omega | (simp only [lenS]; omega))⟩, ?_⟩ | refine ⟨.inl rfl, ?_⟩ | refine ⟨.inr (.inl (by (first | omega | (simp only [lenS]; omega)))), ?_⟩ | refine ⟨_, rfl, rfl, by (first | exact Nat.le_refl _ | exact Nat.le_of_ble_eq_true rfl | decide), ?_⟩ | refine ⟨_, rfl, by (first | exact Nat.le_refl _ | exact Nat.le_of_ble_eq_true rfl | decide), ?_⟩ | refine ⟨by (first | exact Nat.le_refl _ | exact Nat.le_of_ble_eq_true rfl | decide | exact rfl), ?_⟩ | refine ⟨show _ ≤ (9223372036854775807 : Nat) by (first | omega | (simp only [lenS]; omega)), ?_⟩ | refine ⟨show _ ≠ (0 : Int) by (first | omega | (simp only [lenS]; omega)), ?_⟩ | refine ⟨_, rfl, _, rfl, ?_⟩ | refine ⟨_, by assumption, Nat.le_of_ble_eq_true rfl, ?_⟩ | refine ⟨_, by assumption, _, rfl, ?_⟩ | refine ⟨_, rfl, ?_⟩ | fail)
        exact ⟨_, _, fin_out rfl, rfl⟩
      | true =>
        refine pure_okT Tryd.wf Tryd.tab_ok Tryd.func7 (by decide +kernel) rfl rfl rfl rfl ?_
        repeat' (first | refine PureC.use hc1 ?_ | refine PureC.use hc2 ?_ | refine PureC.use hc3 ?_ | refine PureC.use hc4 ?_ | refine PureC.use hc5 ?_ | refine PureC.use hc6 ?_ | refine PureC.use hc7 ?_ | refine PureC.use hc8 ?_ |                refine ⟨fun _ => ?_, fun h => absurd h (by decide)⟩ | refine ⟨fun h => absurd h (by decide), fun _ => ?_⟩ | (refine ⟨fun h => ?_, fun h => ?_⟩ <;> (try simp only [decide_eq_true_eq, decide_eq_false_iff_not, Bool.not_eq_true', Bool.not_eq_false', Bool.not_eq_true, Bool.not_eq_false, not_true_eq_false, beq_iff_eq, beq_eq_false_iff_ne, ne_eq, decide_eq_decide, true_iff, false_iff, iff_true, iff_false, true_and, and_true, false_or, or_false, Bool.and_true, Bool.and_eq_true, Bool.and_eq_false_iff, Bool.or_eq_true, Bool.or_eq_false_iff, List.length_cons, List.length_nil] at h) <;> (try (exfalso; first | omega | exact h rfl | (cases h; done) | exact absurd h (by assumption) | exact h (by assumption) | (simp at h; done)))) | refine ⟨⟨by (first | omega | (simp only [lenS]; omega)), by (first | omega | (simp only [lenS]; omega))⟩, _, by assumption, by rfl, ?_⟩ | refine .inl ⟨⟨by (first | omega | (simp only [lenS]; omega)), by (first | omega | (simp only [lenS]; omega))⟩, ?_⟩ | refine ⟨⟨by (first | omega | (simp only [lenS]; omega)), by (first | omega | (simp only [lenS]; omega))⟩, ?_⟩ | refine ⟨⟨by (first | omega | (simp only [lenS]; omega)), by (first | omega | (simp only [lenS]; omega)), by (first | omega | (simp only [lenS]; omega))⟩, ?_⟩ | refine ⟨.inl rfl, ?_⟩ | refine ⟨.inr (.inl (by (first | omega | (simp only [lenS]; omega)))), ?_⟩ | refine ⟨_, rfl, rfl, by (first | exact Nat.le_refl _ | exact Nat.le_of_ble_eq_true rfl | decide), ?_⟩ | refine ⟨_, rfl, by (first | exact Nat.le_refl _ | exact Nat.le_of_ble_eq_true rfl | decide), ?_⟩ | refine ⟨by (first | exact Nat.le_refl _ | exact Nat.le_of_ble_eq_true rfl | decide | exact rfl), ?_⟩ | refine ⟨show _ ≤ (9223372036854775807 : Nat) by (first | omega | (simp only [lenS]; omega)), ?_⟩ | refine ⟨show _ ≠ (0 : Int) by (first | omega | (simp only [lenS]; omega)), ?_⟩ | refine ⟨_, rfl, _, rfl, ?_⟩ | refine ⟨_, by assumption, Nat.le_of_ble_eq_true rfl, ?_⟩ | refine ⟨_, by assumption, _, rfl, ?_⟩ | refine ⟨_, rfl, ?_⟩ | fail)
        refine Light_at l _ fun b hb => ?_
        repeat' (first | refine PureC.use hc1 ?_ | refine PureC.use hc2 ?_ | refine PureC.use hc3 ?_ | refine PureC.use hc4 ?_ | refine PureC.use hc5 ?_ | refine PureC.use hc6 ?_ | refine PureC.use hc7 ?_ | refine PureC.use hc8 ?_ |                refine ⟨fun _ => ?_, fun h => absurd h (by decide)⟩ | refine ⟨fun h => absurd h (by decide), fun _ => ?_⟩ | (refine ⟨fun h => ?_, fun h => ?_⟩ <;> (try simp only [decide_eq_true_eq, decide_eq_false_iff_not, Bool.not_eq_true', Bool.not_eq_false', Bool.not_eq_true, Bool.not_eq_false, not_true_eq_false, beq_iff_eq, beq_eq_false_iff_ne, ne_eq, decide_eq_decide, true_iff, false_iff, iff_true, iff_false, true_and, and_true, false_or, or_false, Bool.and_true, Bool.and_eq_true, Bool.and_eq_false_iff, Bool.or_eq_true, Bool.or_eq_false_iff, List.length_cons, List.length_nil] at h) <;> (try (exfalso; first | omega | exact h rfl | (cases h; done) | exact absurd h (by assumption) | exact h (by assumption) | (simp at h; done)))) | refine ⟨⟨by (first | omega | (simp only [lenS]; omega)), by (first | omega | (simp only [lenS]; omega))⟩, _, by assumption, by rfl, ?_⟩ | refine .inl ⟨⟨by (first | omega | (simp only [lenS]; omega)), by (first | omega | (simp only [lenS]; omega))⟩, ?_⟩ | refine ⟨⟨by (first | omega | (simp only [lenS]; omega)), by (first | omega | (simp only [lenS]; omega))⟩, ?_⟩ | refine ⟨⟨by (first | omega | (simp only [lenS]; omega)), by (first | omega | (simp only [lenS]; omega)), by (first | omega | (simp only [lenS]; omega))⟩, ?_⟩ | refine ⟨.inl rfl, ?_⟩ | refine ⟨.inr (.inl (by (first | omega | (simp only [lenS]; omega)))), ?_⟩ | refine ⟨_, rfl, rfl, by (first | exact Nat.le_refl _ | exact Nat.le_of_ble_eq_true rfl | decide), ?_⟩ | refine ⟨_, rfl, by (first | exact Nat.le_refl _ | exact Nat.le_of_ble_eq_true rfl | decide), ?_⟩ | refine ⟨by (first | exact Nat.le_refl _ | exact Nat.le_of_ble_eq_true rfl | decide | exact rfl), ?_⟩ | refine ⟨show _ ≤ (9223372036854775807 : Nat) by (first | omega | (simp only [lenS]; omega)), ?_⟩ | refine ⟨show _ ≠ (0 : Int) by (first | omega | (simp only [lenS]; omega)), ?_⟩ | refine ⟨_, rfl, _, rfl, ?_⟩ | refine ⟨_, by assumption, Nat.le_of_ble_eq_true rfl, ?_⟩ | refine ⟨_, by assumption, _, rfl, ?_⟩ | refine ⟨_, rfl, ?_⟩ | fail)
        exact ⟨_, _, fin_out rfl, rfl⟩
theorem SafeStricter_law {n n' n'' : Nat} {r r' r'' : List D} (h : DOk Tryd.prog n 24 r) (h' : DOk Tryd.prog n' 24 r') (h'' : DOk Tryd.prog n'' 31 r'') : PureC Tryd.prog 7 [argAV Tryd.prog 24 r, argAV Tryd.prog 24 r', argAV Tryd.prog 31 r''] (.d (.bool true)) := by
  obtain ⟨p, rfl⟩ := dok_pol h
  obtain ⟨q, rfl⟩ := dok_pol h'
  obtain ⟨l, rfl⟩ := dok_nodes n'' h''
  rw [arg_pol, arg_pol, arg_nodes]; exact SafeStricter_ok p q l
end Go.Proofs.YtfchacihhljfhaaDoor
