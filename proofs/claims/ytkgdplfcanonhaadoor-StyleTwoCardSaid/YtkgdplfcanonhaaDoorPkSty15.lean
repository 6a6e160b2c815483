/- What is proved here serves the claim: the walk over the code and the plain laws, part 15 of 16. -/
import Derived.Test.YtkgdplfcanonhaaDoorPkSty14
namespace Go.Proofs.YtkgdplfcanonhaaDoor
open Go.Aw
set_option maxHeartbeats 1600000
set_option linter.unusedSimpArgs false
set_option linter.unusedVariables false
def strsA (l : List (List UInt8)) : List (List AV) := (strsD l).map fun r => r.map AV.d
theorem strsA_len (l : List (List UInt8)) : (strsA l).length = l.length := by simp [strsA, strsD_len]
theorem strsA_rows (l : List (List UInt8)) : ∀ row ∈ strsA l, row.length = 1 ∧ ∀ a ∈ row, a.one = true := fun row h => by
  unfold strsA strsD at h
  simp only [List.map_map, List.mem_map] at h
  obtain ⟨p, _, rfl⟩ := h
  exact ⟨rfl, fun a ha => by simp at ha; rw [ha]; rfl⟩
theorem strsA_snoc (l : List (List UInt8)) (p : List UInt8) : strsA (l ++ [p]) = strsA l ++ [[.d (.str p)]] := by simp [strsA, strsD]
theorem strsA_pure (l : List (List UInt8)) : ∀ row ∈ strsA l, pureL row = true := dataA_pure _
/-- Where the parts stand when all before i has been seen. -/
def PartI (c : UInt8) (s : List UInt8) (i : Nat) (P : List (List UInt8)) (fr : Nat) : Prop :=
  (i ≤ s.length ∧ fr ≤ i ∧ splitB c s = P ++ splitB c (s.drop fr) ∧ c ∉ (s.drop fr).take (i - fr)) ∨ (i = s.length + 1 ∧ fr = s.length + 1 ∧ P = splitB c s)
theorem PartI.start (c : UInt8) (s : List UInt8) : PartI c s 0 [] 0 := .inl ⟨Nat.zero_le _, Nat.le_refl _, rfl, by simp⟩
theorem PartI.miss {c : UInt8} {s : List UInt8} {i : Nat} {P : List (List UInt8)} {fr : Nat} (h : PartI c s i P fr) (hi : i < s.length) (hc : s[i] ≠ c) : PartI c s (i + 1) P fr := by
  rcases h with ⟨_, h1, h2, h3⟩ | ⟨h, _⟩
  · refine .inl ⟨hi, by omega, h2, ?_⟩
    rw [show i + 1 - fr = (i - fr) + 1 from by omega, List.take_succ_eq_append_getElem (by rw [List.length_drop]; omega)]
    simp only [List.mem_append, List.mem_singleton, not_or]
    refine ⟨h3, fun e => hc ?_⟩
    rw [e, List.getElem_drop]
    congr 1; omega
  · omega
theorem PartI.hit {c : UInt8} {s : List UInt8} {i : Nat} {P : List (List UInt8)} {fr : Nat} (h : PartI c s i P fr) (hi : i < s.length) (hc : s[i] = c) : PartI c s (i + 1) (P ++ [(s.take i).drop fr]) (i + 1) := by
  rcases h with ⟨_, h1, h2, h3⟩ | ⟨h, _⟩
  · refine .inl ⟨hi, Nat.le_refl _, ?_, by simp⟩
    have e : s.drop fr = (s.drop fr).take (i - fr) ++ c :: s.drop (i + 1) := by
      rw [← hc]
      have h4 : (s.drop fr).drop (i - fr) = s[i] :: s.drop (i + 1) := by
        rw [List.drop_drop, show fr + (i - fr) = i from by omega, List.drop_eq_getElem_cons hi]
      rw [← h4, List.take_append_drop]
    rw [h2, e, splitB_app h3, List.drop_take, List.append_assoc]; rfl
  · omega
theorem PartI.fin {c : UInt8} {s : List UInt8} {P : List (List UInt8)} {fr : Nat} (h : PartI c s s.length P fr) : PartI c s (s.length + 1) (P ++ [(s.take s.length).drop fr]) (s.length + 1) := by
  rcases h with ⟨_, h1, h2, h3⟩ | ⟨h, _⟩
  · refine .inr ⟨rfl, rfl, ?_⟩
    rw [List.take_of_length_le (by rw [List.length_drop]; omega)] at h3
    rw [h2, splitB_none h3, List.take_length]
  · omega
theorem PartI.len {c : UInt8} {s : List UInt8} {i : Nat} {P : List (List UInt8)} {fr : Nat} (h : PartI c s i P fr) : P.length ≤ s.length + 1 ∧ fr ≤ i := by
  have h1 := splitB_len c s
  have h2 := List.count_le_length (a := c) (l := s)
  rcases h with ⟨_, h3, h, _⟩ | ⟨h0, h3, h⟩
  · rw [h, List.length_append] at h1; omega
  · rw [← h] at h1; omega
set_option maxRecDepth 100000 in
set_option maxHeartbeats 1000000 in
theorem parts_ok (c : UInt8) (s : List UInt8) (hs : s.length ≤ 1000000000) : PureC Tryd.prog 21 [.d (.str s), .d (.int .u8 c.toNat)] (.d (.sl (strsD (splitB c s)))) := by
  refine pure_okT Tryd.wf Tryd.tab_ok Tryd.func21 (by decide +kernel) rfl rfl rfl rfl ?_
  repeat' (first |                        refine ⟨fun _ => ?_, fun h => absurd h (by decide)⟩ | refine ⟨fun h => absurd h (by decide), fun _ => ?_⟩ | (refine ⟨fun h => ?_, fun h => ?_⟩ <;> (try simp only [decide_eq_true_eq, decide_eq_false_iff_not, Bool.not_eq_true', Bool.not_eq_false', Bool.not_eq_true, Bool.not_eq_false, not_true_eq_false, beq_iff_eq, beq_eq_false_iff_ne, ne_eq, decide_eq_decide, true_iff, false_iff, iff_true, iff_false, true_and, and_true, false_or, or_false, Bool.and_true, Bool.and_eq_true, Bool.and_eq_false_iff, Bool.or_eq_true, Bool.or_eq_false_iff, List.length_cons, List.length_nil] at h) <;> (try (exfalso; first | omega | exact h rfl | (cases h; done) | exact absurd h (by assumption) | exact h (by assumption) | (simp at h; done)))) | refine ⟨⟨by (first | omega | (simp only [lenS]; omega)), by (first | omega | (simp only [lenS]; omega))⟩, _, by assumption, by rfl, ?_⟩ | refine .inl ⟨⟨by (first | omega | (simp only [lenS]; omega)), by (first | omega | (simp only [lenS]; omega))⟩, ?_⟩ | refine ⟨⟨by (first | omega | (simp only [lenS]; omega)), by (first | omega | (simp only [lenS]; omega))⟩, ?_⟩ | refine ⟨⟨by (first | omega | (simp only [lenS]; omega)), by (first | omega | (simp only [lenS]; omega)), by (first | omega | (simp only [lenS]; omega))⟩, ?_⟩ | refine ⟨.inl rfl, ?_⟩ | refine ⟨.inr (.inl (by (first | omega | (simp only [lenS]; omega)))), ?_⟩ | refine ⟨_, rfl, rfl, by (first | exact Nat.le_refl _ | exact Nat.le_of_ble_eq_true rfl | decide), ?_⟩ | refine ⟨_, rfl, by (first | exact Nat.le_refl _ | exact Nat.le_of_ble_eq_true rfl | decide), ?_⟩ | refine ⟨by (first | exact Nat.le_refl _ | exact Nat.le_of_ble_eq_true rfl | decide | exact rfl), ?_⟩ | refine ⟨show _ ≤ (9223372036854775807 : Nat) by (first | omega | (simp only [lenS]; omega)), ?_⟩ | refine ⟨show _ ≠ (0 : Int) by (first | omega | (simp only [lenS]; omega)), ?_⟩ | refine ⟨_, rfl, _, rfl, ?_⟩ | refine ⟨_, by assumption, Nat.le_of_ble_eq_true rfl, ?_⟩ | refine ⟨_, by assumption, _, rfl, ?_⟩ | refine ⟨_, rfl, ?_⟩ | fail)
  refine loopT Tryd.wf Tryd.tab_ok (fun n s' σ => ∃ (i : Nat) (P : List (List UInt8)) (fr : Nat), n = s.length + 1 - i ∧ i ≤ s.length + 1 ∧ PartI c s i P fr ∧ s' = [(0, .d (.str s)), (1, .d (.int .u8 c.toNat)), (5, .own 0 0 P.length), (6, .d (.int .i64 fr)), (7, .d (.int .i64 i))] ∧ σ = ⟨1, [(0, .rows (1, 9) (strsA P))]⟩)
    ⟨0, [], 0, rfl, Nat.zero_le _, PartI.start c s, rfl, rfl⟩ (Mv.of [.phan 1] rfl rfl rfl ⟨rfl, trivial⟩ ⟨rfl, rfl, ⟨rfl, rfl, rfl⟩, rfl, rfl, trivial⟩) ?_
  rintro _ _ _ ⟨i, P, fr, rfl, hi, hI, rfl, rfl⟩
  have hl := strsA_len P
  have hPl := hI.len
  by_cases hle : i ≤ s.length
  · by_cases hlt : i < s.length
    · have hg := getD_at s i hlt
      by_cases hc : s[i] = c
      · have hn := hI.hit hlt hc
        have hst := strsA_snoc P ((s.take i).drop fr)
        have hgc : ((s.getD ((i : Nat) : Int).toNat 0).toNat : Int) = c.toNat := by rw [hg, hc]
        repeat' (first |                        refine ⟨fun _ => ?_, fun h => absurd h (by decide)⟩ | refine ⟨fun h => absurd h (by decide), fun _ => ?_⟩ | (refine ⟨fun h => ?_, fun h => ?_⟩ <;> (try simp only [decide_eq_true_eq, decide_eq_false_iff_not, Bool.not_eq_true', Bool.not_eq_false', Bool.not_eq_true, Bool.not_eq_false, not_true_eq_false, beq_iff_eq, beq_eq_false_iff_ne, ne_eq, decide_eq_decide, true_iff, false_iff, iff_true, iff_false, true_and, and_true, false_or, or_false, Bool.and_true, Bool.and_eq_true, Bool.and_eq_false_iff, Bool.or_eq_true, Bool.or_eq_false_iff, List.length_cons, List.length_nil] at h) <;> (try (exfalso; first | omega | exact h rfl | (cases h; done) | exact absurd h (by assumption) | exact h (by assumption) | (simp at h; done)))) | refine ⟨⟨by (first | omega | (simp only [lenS]; omega)), by (first | omega | (simp only [lenS]; omega))⟩, _, by assumption, by rfl, ?_⟩ | refine .inl ⟨⟨by (first | omega | (simp only [lenS]; omega)), by (first | omega | (simp only [lenS]; omega))⟩, ?_⟩ | refine ⟨⟨by (first | omega | (simp only [lenS]; omega)), by (first | omega | (simp only [lenS]; omega))⟩, ?_⟩ | refine ⟨⟨by (first | omega | (simp only [lenS]; omega)), by (first | omega | (simp only [lenS]; omega)), by (first | omega | (simp only [lenS]; omega))⟩, ?_⟩ | refine ⟨.inl rfl, ?_⟩ | refine ⟨.inr (.inl (by (first | omega | (simp only [lenS]; omega)))), ?_⟩ | refine ⟨_, rfl, rfl, by (first | exact Nat.le_refl _ | exact Nat.le_of_ble_eq_true rfl | decide), ?_⟩ | refine ⟨_, rfl, by (first | exact Nat.le_refl _ | exact Nat.le_of_ble_eq_true rfl | decide), ?_⟩ | refine ⟨by (first | exact Nat.le_refl _ | exact Nat.le_of_ble_eq_true rfl | decide | exact rfl), ?_⟩ | refine ⟨show _ ≤ (9223372036854775807 : Nat) by (first | omega | (simp only [lenS]; omega)), ?_⟩ | refine ⟨show _ ≠ (0 : Int) by (first | omega | (simp only [lenS]; omega)), ?_⟩ | refine ⟨_, rfl, _, rfl, ?_⟩ | refine ⟨_, by assumption, Nat.le_of_ble_eq_true rfl, ?_⟩ | refine ⟨_, by assumption, _, rfl, ?_⟩ | refine ⟨_, rfl, ?_⟩ | fail)
        refine ⟨strsA P, [_], congrArg some (takeAll hl), rfl, (show srcLen (.own 0 0 P.length) _ from hl), rfl, (by rw [hl]; show (P.length + 1) * 16 ≤ 140737488355328; omega), Nat.le_of_ble_eq_true rfl, Nat.le_of_ble_eq_true rfl, rfl, rfl, strsA_rows P, rowsOne rfl rfl, ?_⟩
        repeat' (first |                        refine ⟨fun _ => ?_, fun h => absurd h (by decide)⟩ | refine ⟨fun h => absurd h (by decide), fun _ => ?_⟩ | (refine ⟨fun h => ?_, fun h => ?_⟩ <;> (try simp only [decide_eq_true_eq, decide_eq_false_iff_not, Bool.not_eq_true', Bool.not_eq_false', Bool.not_eq_true, Bool.not_eq_false, not_true_eq_false, beq_iff_eq, beq_eq_false_iff_ne, ne_eq, decide_eq_decide, true_iff, false_iff, iff_true, iff_false, true_and, and_true, false_or, or_false, Bool.and_true, Bool.and_eq_true, Bool.and_eq_false_iff, Bool.or_eq_true, Bool.or_eq_false_iff, List.length_cons, List.length_nil] at h) <;> (try (exfalso; first | omega | exact h rfl | (cases h; done) | exact absurd h (by assumption) | exact h (by assumption) | (simp at h; done)))) | refine ⟨⟨by (first | omega | (simp only [lenS]; omega)), by (first | omega | (simp only [lenS]; omega))⟩, _, by assumption, by rfl, ?_⟩ | refine .inl ⟨⟨by (first | omega | (simp only [lenS]; omega)), by (first | omega | (simp only [lenS]; omega))⟩, ?_⟩ | refine ⟨⟨by (first | omega | (simp only [lenS]; omega)), by (first | omega | (simp only [lenS]; omega))⟩, ?_⟩ | refine ⟨⟨by (first | omega | (simp only [lenS]; omega)), by (first | omega | (simp only [lenS]; omega)), by (first | omega | (simp only [lenS]; omega))⟩, ?_⟩ | refine ⟨.inl rfl, ?_⟩ | refine ⟨.inr (.inl (by (first | omega | (simp only [lenS]; omega)))), ?_⟩ | refine ⟨_, rfl, rfl, by (first | exact Nat.le_refl _ | exact Nat.le_of_ble_eq_true rfl | decide), ?_⟩ | refine ⟨_, rfl, by (first | exact Nat.le_refl _ | exact Nat.le_of_ble_eq_true rfl | decide), ?_⟩ | refine ⟨by (first | exact Nat.le_refl _ | exact Nat.le_of_ble_eq_true rfl | decide | exact rfl), ?_⟩ | refine ⟨show _ ≤ (9223372036854775807 : Nat) by (first | omega | (simp only [lenS]; omega)), ?_⟩ | refine ⟨show _ ≠ (0 : Int) by (first | omega | (simp only [lenS]; omega)), ?_⟩ | refine ⟨_, rfl, _, rfl, ?_⟩ | refine ⟨_, by assumption, Nat.le_of_ble_eq_true rfl, ?_⟩ | refine ⟨_, by assumption, _, rfl, ?_⟩ | refine ⟨_, rfl, ?_⟩ | fail)
        exact ⟨_, _, _, ⟨i + 1, P ++ [(s.take i).drop fr], i + 1, rfl, by omega, hn, rfl, rfl⟩, by omega, Mv.of [.old 2] rfl rfl rfl ⟨⟨rfl, .inl ⟨hst, strsA_pure _⟩⟩, trivial⟩ ⟨rfl, rfl, ⟨rfl, rfl, by simp [strsA_len]⟩, rfl, rfl, trivial⟩⟩
      · have hn := hI.miss hlt hc
        have hgc : ¬ ((s.getD ((i : Nat) : Int).toNat 0).toNat : Int) = c.toNat := fun e => hc (by rw [hg] at e; exact UInt8.toNat_inj.1 (by omega))
        repeat' (first |                        refine ⟨fun _ => ?_, fun h => absurd h (by decide)⟩ | refine ⟨fun h => absurd h (by decide), fun _ => ?_⟩ | (refine ⟨fun h => ?_, fun h => ?_⟩ <;> (try simp only [decide_eq_true_eq, decide_eq_false_iff_not, Bool.not_eq_true', Bool.not_eq_false', Bool.not_eq_true, Bool.not_eq_false, not_true_eq_false, beq_iff_eq, beq_eq_false_iff_ne, ne_eq, decide_eq_decide, true_iff, false_iff, iff_true, iff_false, true_and, and_true, false_or, or_false, Bool.and_true, Bool.and_eq_true, Bool.and_eq_false_iff, Bool.or_eq_true, Bool.or_eq_false_iff, List.length_cons, List.length_nil] at h) <;> (try (exfalso; first | omega | exact h rfl | (cases h; done) | exact absurd h (by assumption) | exact h (by assumption) | (simp at h; done)))) | refine ⟨⟨by (first | omega | (simp only [lenS]; omega)), by (first | omega | (simp only [lenS]; omega))⟩, _, by assumption, by rfl, ?_⟩ | refine .inl ⟨⟨by (first | omega | (simp only [lenS]; omega)), by (first | omega | (simp only [lenS]; omega))⟩, ?_⟩ | refine ⟨⟨by (first | omega | (simp only [lenS]; omega)), by (first | omega | (simp only [lenS]; omega))⟩, ?_⟩ | refine ⟨⟨by (first | omega | (simp only [lenS]; omega)), by (first | omega | (simp only [lenS]; omega)), by (first | omega | (simp only [lenS]; omega))⟩, ?_⟩ | refine ⟨.inl rfl, ?_⟩ | refine ⟨.inr (.inl (by (first | omega | (simp only [lenS]; omega)))), ?_⟩ | refine ⟨_, rfl, rfl, by (first | exact Nat.le_refl _ | exact Nat.le_of_ble_eq_true rfl | decide), ?_⟩ | refine ⟨_, rfl, by (first | exact Nat.le_refl _ | exact Nat.le_of_ble_eq_true rfl | decide), ?_⟩ | refine ⟨by (first | exact Nat.le_refl _ | exact Nat.le_of_ble_eq_true rfl | decide | exact rfl), ?_⟩ | refine ⟨show _ ≤ (9223372036854775807 : Nat) by (first | omega | (simp only [lenS]; omega)), ?_⟩ | refine ⟨show _ ≠ (0 : Int) by (first | omega | (simp only [lenS]; omega)), ?_⟩ | refine ⟨_, rfl, _, rfl, ?_⟩ | refine ⟨_, by assumption, Nat.le_of_ble_eq_true rfl, ?_⟩ | refine ⟨_, by assumption, _, rfl, ?_⟩ | refine ⟨_, rfl, ?_⟩ | fail)
        exact ⟨_, _, _, ⟨i + 1, P, fr, rfl, by omega, hn, rfl, rfl⟩, by omega, Mv.of [.old 0] rfl rfl rfl ⟨⟨rfl, .inl ⟨rfl, strsA_pure _⟩⟩, trivial⟩ ⟨rfl, rfl, ⟨rfl, rfl, rfl⟩, rfl, rfl, trivial⟩⟩
    · have hii : i = s.length := by omega
      subst hii
      have hn := hI.fin
      have hst := strsA_snoc P ((s.take s.length).drop fr)
      repeat' (first |                        refine ⟨fun _ => ?_, fun h => absurd h (by decide)⟩ | refine ⟨fun h => absurd h (by decide), fun _ => ?_⟩ | (refine ⟨fun h => ?_, fun h => ?_⟩ <;> (try simp only [decide_eq_true_eq, decide_eq_false_iff_not, Bool.not_eq_true', Bool.not_eq_false', Bool.not_eq_true, Bool.not_eq_false, not_true_eq_false, beq_iff_eq, beq_eq_false_iff_ne, ne_eq, decide_eq_decide, true_iff, false_iff, iff_true, iff_false, true_and, and_true, false_or, or_false, Bool.and_true, Bool.and_eq_true, Bool.and_eq_false_iff, Bool.or_eq_true, Bool.or_eq_false_iff, List.length_cons, List.length_nil] at h) <;> (try (exfalso; first | omega | exact h rfl | (cases h; done) | exact absurd h (by assumption) | exact h (by assumption) | (simp at h; done)))) | refine ⟨⟨by (first | omega | (simp only [lenS]; omega)), by (first | omega | (simp only [lenS]; omega))⟩, _, by assumption, by rfl, ?_⟩ | refine .inl ⟨⟨by (first | omega | (simp only [lenS]; omega)), by (first | omega | (simp only [lenS]; omega))⟩, ?_⟩ | refine ⟨⟨by (first | omega | (simp only [lenS]; omega)), by (first | omega | (simp only [lenS]; omega))⟩, ?_⟩ | refine ⟨⟨by (first | omega | (simp only [lenS]; omega)), by (first | omega | (simp only [lenS]; omega)), by (first | omega | (simp only [lenS]; omega))⟩, ?_⟩ | refine ⟨.inl rfl, ?_⟩ | refine ⟨.inr (.inl (by (first | omega | (simp only [lenS]; omega)))), ?_⟩ | refine ⟨_, rfl, rfl, by (first | exact Nat.le_refl _ | exact Nat.le_of_ble_eq_true rfl | decide), ?_⟩ | refine ⟨_, rfl, by (first | exact Nat.le_refl _ | exact Nat.le_of_ble_eq_true rfl | decide), ?_⟩ | refine ⟨by (first | exact Nat.le_refl _ | exact Nat.le_of_ble_eq_true rfl | decide | exact rfl), ?_⟩ | refine ⟨show _ ≤ (9223372036854775807 : Nat) by (first | omega | (simp only [lenS]; omega)), ?_⟩ | refine ⟨show _ ≠ (0 : Int) by (first | omega | (simp only [lenS]; omega)), ?_⟩ | refine ⟨_, rfl, _, rfl, ?_⟩ | refine ⟨_, by assumption, Nat.le_of_ble_eq_true rfl, ?_⟩ | refine ⟨_, by assumption, _, rfl, ?_⟩ | refine ⟨_, rfl, ?_⟩ | fail)
      refine ⟨strsA P, [_], congrArg some (takeAll hl), rfl, (show srcLen (.own 0 0 P.length) _ from hl), rfl, (by rw [hl]; show (P.length + 1) * 16 ≤ 140737488355328; omega), Nat.le_of_ble_eq_true rfl, Nat.le_of_ble_eq_true rfl, rfl, rfl, strsA_rows P, rowsOne rfl rfl, ?_⟩
      repeat' (first |                        refine ⟨fun _ => ?_, fun h => absurd h (by decide)⟩ | refine ⟨fun h => absurd h (by decide), fun _ => ?_⟩ | (refine ⟨fun h => ?_, fun h => ?_⟩ <;> (try simp only [decide_eq_true_eq, decide_eq_false_iff_not, Bool.not_eq_true', Bool.not_eq_false', Bool.not_eq_true, Bool.not_eq_false, not_true_eq_false, beq_iff_eq, beq_eq_false_iff_ne, ne_eq, decide_eq_decide, true_iff, false_iff, iff_true, iff_false, true_and, and_true, false_or, or_false, Bool.and_true, Bool.and_eq_true, Bool.and_eq_false_iff, Bool.or_eq_true, Bool.or_eq_false_iff, List.length_cons, List.length_nil] at h) <;> (try (exfalso; first | omega | exact h rfl | (cases h; done) | exact absurd h (by assumption) | exact h (by assumption) | (simp at h; done)))) | refine ⟨⟨by (first | omega | (simp only [lenS]; omega)), by (first | omega | (simp only [lenS]; omega))⟩, _, by assumption, by rfl, ?_⟩ | refine .inl ⟨⟨by (first | omega | (simp only [lenS]; omega)), by (first | omega | (simp only [lenS]; omega))⟩, ?_⟩ | refine ⟨⟨by (first | omega | (simp only [lenS]; omega)), by (first | omega | (simp only [lenS]; omega))⟩, ?_⟩ | refine ⟨⟨by (first | omega | (simp only [lenS]; omega)), by (first | omega | (simp only [lenS]; omega)), by (first | omega | (simp only [lenS]; omega))⟩, ?_⟩ | refine ⟨.inl rfl, ?_⟩ | refine ⟨.inr (.inl (by (first | omega | (simp only [lenS]; omega)))), ?_⟩ | refine ⟨_, rfl, rfl, by (first | exact Nat.le_refl _ | exact Nat.le_of_ble_eq_true rfl | decide), ?_⟩ | refine ⟨_, rfl, by (first | exact Nat.le_refl _ | exact Nat.le_of_ble_eq_true rfl | decide), ?_⟩ | refine ⟨by (first | exact Nat.le_refl _ | exact Nat.le_of_ble_eq_true rfl | decide | exact rfl), ?_⟩ | refine ⟨show _ ≤ (9223372036854775807 : Nat) by (first | omega | (simp only [lenS]; omega)), ?_⟩ | refine ⟨show _ ≠ (0 : Int) by (first | omega | (simp only [lenS]; omega)), ?_⟩ | refine ⟨_, rfl, _, rfl, ?_⟩ | refine ⟨_, by assumption, Nat.le_of_ble_eq_true rfl, ?_⟩ | refine ⟨_, by assumption, _, rfl, ?_⟩ | refine ⟨_, rfl, ?_⟩ | fail)
      exact ⟨_, _, _, ⟨s.length + 1, P ++ [(s.take s.length).drop fr], s.length + 1, rfl, by omega, hn, rfl, rfl⟩, by omega, Mv.of [.old 2] rfl rfl rfl ⟨⟨rfl, .inl ⟨hst, strsA_pure _⟩⟩, trivial⟩ ⟨rfl, rfl, ⟨rfl, rfl, by simp [strsA_len]⟩, rfl, rfl, trivial⟩⟩
  · have hii : i = s.length + 1 := by omega
    subst hii
    repeat' (first |                        refine ⟨fun _ => ?_, fun h => absurd h (by decide)⟩ | refine ⟨fun h => absurd h (by decide), fun _ => ?_⟩ | (refine ⟨fun h => ?_, fun h => ?_⟩ <;> (try simp only [decide_eq_true_eq, decide_eq_false_iff_not, Bool.not_eq_true', Bool.not_eq_false', Bool.not_eq_true, Bool.not_eq_false, not_true_eq_false, beq_iff_eq, beq_eq_false_iff_ne, ne_eq, decide_eq_decide, true_iff, false_iff, iff_true, iff_false, true_and, and_true, false_or, or_false, Bool.and_true, Bool.and_eq_true, Bool.and_eq_false_iff, Bool.or_eq_true, Bool.or_eq_false_iff, List.length_cons, List.length_nil] at h) <;> (try (exfalso; first | omega | exact h rfl | (cases h; done) | exact absurd h (by assumption) | exact h (by assumption) | (simp at h; done)))) | refine ⟨⟨by (first | omega | (simp only [lenS]; omega)), by (first | omega | (simp only [lenS]; omega))⟩, _, by assumption, by rfl, ?_⟩ | refine .inl ⟨⟨by (first | omega | (simp only [lenS]; omega)), by (first | omega | (simp only [lenS]; omega))⟩, ?_⟩ | refine ⟨⟨by (first | omega | (simp only [lenS]; omega)), by (first | omega | (simp only [lenS]; omega))⟩, ?_⟩ | refine ⟨⟨by (first | omega | (simp only [lenS]; omega)), by (first | omega | (simp only [lenS]; omega)), by (first | omega | (simp only [lenS]; omega))⟩, ?_⟩ | refine ⟨.inl rfl, ?_⟩ | refine ⟨.inr (.inl (by (first | omega | (simp only [lenS]; omega)))), ?_⟩ | refine ⟨_, rfl, rfl, by (first | exact Nat.le_refl _ | exact Nat.le_of_ble_eq_true rfl | decide), ?_⟩ | refine ⟨_, rfl, by (first | exact Nat.le_refl _ | exact Nat.le_of_ble_eq_true rfl | decide), ?_⟩ | refine ⟨by (first | exact Nat.le_refl _ | exact Nat.le_of_ble_eq_true rfl | decide | exact rfl), ?_⟩ | refine ⟨show _ ≤ (9223372036854775807 : Nat) by (first | omega | (simp only [lenS]; omega)), ?_⟩ | refine ⟨show _ ≠ (0 : Int) by (first | omega | (simp only [lenS]; omega)), ?_⟩ | refine ⟨_, rfl, _, rfl, ?_⟩ | refine ⟨_, by assumption, Nat.le_of_ble_eq_true rfl, ?_⟩ | refine ⟨_, by assumption, _, rfl, ?_⟩ | refine ⟨_, rfl, ?_⟩ | fail)
    rcases hI with ⟨h, _⟩ | ⟨_, _, hP⟩
    · exact absurd h (by omega)
    · rw [← hP]
      exact ⟨_, _, fin_ownS rfl (rowsD_d (strsD P)) (by show P.length = _; rw [strsD_len]), rfl⟩
theorem blank_mem (c : UInt8) : c ∈ cutS ↔ c.toNat = 9 ∨ c.toNat = 10 ∨ c.toNat = 12 ∨ c.toNat = 13 ∨ c.toNat = 32 := by
  have e : ∀ n : UInt8, c = n ↔ c.toNat = n.toNat := fun n => UInt8.toNat_inj.symm
  simp only [cutS, List.mem_cons, List.not_mem_nil, or_false, e]
  rfl
set_option maxRecDepth 100000 in
theorem blank_ok (c : UInt8) : PureC Tryd.prog 31 [.d (.int .u8 c.toNat)] (.d (.bool (decide (c ∈ cutS)))) := by
  have hm := blank_mem c
  by_cases h0 : c ∈ cutS
  · rw [decide_eq_true h0]
    have h1 := hm.1 h0
    clear h0 hm
    refine pure_okT Tryd.wf Tryd.tab_ok Tryd.func31 (by decide +kernel) rfl rfl rfl rfl ?_
    repeat' (first |                        refine ⟨fun _ => ?_, fun h => absurd h (by decide)⟩ | refine ⟨fun h => absurd h (by decide), fun _ => ?_⟩ | (refine ⟨fun h => ?_, fun h => ?_⟩ <;> (try simp only [decide_eq_true_eq, decide_eq_false_iff_not, Bool.not_eq_true', Bool.not_eq_false', Bool.not_eq_true, Bool.not_eq_false, not_true_eq_false, beq_iff_eq, beq_eq_false_iff_ne, ne_eq, decide_eq_decide, true_iff, false_iff, iff_true, iff_false, true_and, and_true, false_or, or_false, Bool.and_true, Bool.and_eq_true, Bool.and_eq_false_iff, Bool.or_eq_true, Bool.or_eq_false_iff, List.length_cons, List.length_nil] at h) <;> (try (exfalso; first | omega | exact h rfl | (cases h; done) | exact absurd h (by assumption) | exact h (by assumption) | (simp at h; done)))) | refine ⟨⟨by (first | omega | (simp only [lenS]; omega)), by (first | omega | (simp only [lenS]; omega))⟩, _, by assumption, by rfl, ?_⟩ | refine .inl ⟨⟨by (first | omega | (simp only [lenS]; omega)), by (first | omega | (simp only [lenS]; omega))⟩, ?_⟩ | refine ⟨⟨by (first | omega | (simp only [lenS]; omega)), by (first | omega | (simp only [lenS]; omega))⟩, ?_⟩ | refine ⟨⟨by (first | omega | (simp only [lenS]; omega)), by (first | omega | (simp only [lenS]; omega)), by (first | omega | (simp only [lenS]; omega))⟩, ?_⟩ | refine ⟨.inl rfl, ?_⟩ | refine ⟨.inr (.inl (by (first | omega | (simp only [lenS]; omega)))), ?_⟩ | refine ⟨_, rfl, rfl, by (first | exact Nat.le_refl _ | exact Nat.le_of_ble_eq_true rfl | decide), ?_⟩ | refine ⟨_, rfl, by (first | exact Nat.le_refl _ | exact Nat.le_of_ble_eq_true rfl | decide), ?_⟩ | refine ⟨by (first | exact Nat.le_refl _ | exact Nat.le_of_ble_eq_true rfl | decide | exact rfl), ?_⟩ | refine ⟨show _ ≤ (9223372036854775807 : Nat) by (first | omega | (simp only [lenS]; omega)), ?_⟩ | refine ⟨show _ ≠ (0 : Int) by (first | omega | (simp only [lenS]; omega)), ?_⟩ | refine ⟨_, rfl, _, rfl, ?_⟩ | refine ⟨_, by assumption, Nat.le_of_ble_eq_true rfl, ?_⟩ | refine ⟨_, by assumption, _, rfl, ?_⟩ | refine ⟨_, rfl, ?_⟩ | fail)
    all_goals first
      | exact ⟨_, _, fin_out rfl, rfl⟩
      | exact ⟨_, _, fin_out rfl, congrArg (fun b => AV.d (.bool b)) (decide_eq_true (by omega))⟩
  · rw [decide_eq_false h0]
    have h1 : ¬ (c.toNat = 9 ∨ c.toNat = 10 ∨ c.toNat = 12 ∨ c.toNat = 13 ∨ c.toNat = 32) := fun h => h0 (hm.2 h)
    clear h0 hm
    refine pure_okT Tryd.wf Tryd.tab_ok Tryd.func31 (by decide +kernel) rfl rfl rfl rfl ?_
    repeat' (first |                        refine ⟨fun _ => ?_, fun h => absurd h (by decide)⟩ | refine ⟨fun h => absurd h (by decide), fun _ => ?_⟩ | (refine ⟨fun h => ?_, fun h => ?_⟩ <;> (try simp only [decide_eq_true_eq, decide_eq_false_iff_not, Bool.not_eq_true', Bool.not_eq_false', Bool.not_eq_true, Bool.not_eq_false, not_true_eq_false, beq_iff_eq, beq_eq_false_iff_ne, ne_eq, decide_eq_decide, true_iff, false_iff, iff_true, iff_false, true_and, and_true, false_or, or_false, Bool.and_true, Bool.and_eq_true, Bool.and_eq_false_iff, Bool.or_eq_true, Bool.or_eq_false_iff, List.length_cons, List.length_nil] at h) <;> (try (exfalso; first | omega | exact h rfl | (cases h; done) | exact absurd h (by assumption) | exact h (by assumption) | (simp at h; done)))) | refine ⟨⟨by (first | omega | (simp only [lenS]; omega)), by (first | omega | (simp only [lenS]; omega))⟩, _, by assumption, by rfl, ?_⟩ | refine .inl ⟨⟨by (first | omega | (simp only [lenS]; omega)), by (first | omega | (simp only [lenS]; omega))⟩, ?_⟩ | refine ⟨⟨by (first | omega | (simp only [lenS]; omega)), by (first | omega | (simp only [lenS]; omega))⟩, ?_⟩ | refine ⟨⟨by (first | omega | (simp only [lenS]; omega)), by (first | omega | (simp only [lenS]; omega)), by (first | omega | (simp only [lenS]; omega))⟩, ?_⟩ | refine ⟨.inl rfl, ?_⟩ | refine ⟨.inr (.inl (by (first | omega | (simp only [lenS]; omega)))), ?_⟩ | refine ⟨_, rfl, rfl, by (first | exact Nat.le_refl _ | exact Nat.le_of_ble_eq_true rfl | decide), ?_⟩ | refine ⟨_, rfl, by (first | exact Nat.le_refl _ | exact Nat.le_of_ble_eq_true rfl | decide), ?_⟩ | refine ⟨by (first | exact Nat.le_refl _ | exact Nat.le_of_ble_eq_true rfl | decide | exact rfl), ?_⟩ | refine ⟨show _ ≤ (9223372036854775807 : Nat) by (first | omega | (simp only [lenS]; omega)), ?_⟩ | refine ⟨show _ ≠ (0 : Int) by (first | omega | (simp only [lenS]; omega)), ?_⟩ | refine ⟨_, rfl, _, rfl, ?_⟩ | refine ⟨_, by assumption, Nat.le_of_ble_eq_true rfl, ?_⟩ | refine ⟨_, by assumption, _, rfl, ?_⟩ | refine ⟨_, rfl, ?_⟩ | fail)
    all_goals first
      | exact ⟨_, _, fin_out rfl, rfl⟩
      | exact ⟨_, _, fin_out rfl, congrArg (fun b => AV.d (.bool b)) (decide_eq_false (by omega))⟩
end Go.Proofs.YtkgdplfcanonhaaDoor

namespace Go.Proofs.YtkgdplfcanonhaaDoor
open Go.Aw
set_option maxHeartbeats 1600000
set_option linter.unusedSimpArgs false
set_option linter.unusedVariables false
theorem trimRB_cons (cs r : List UInt8) (x : UInt8) : trimRB cs (x :: r) = if trimRB cs r = [] then (if x ∈ cs then [] else [x]) else x :: trimRB cs r := by
  unfold trimRB
  rw [List.reverse_cons, List.dropWhile_append]
  by_cases h : (List.dropWhile (fun c => decide (c ∈ cs)) r.reverse) = []
  · rw [h]
    simp only [List.isEmpty_nil, if_true, List.reverse_nil]
    by_cases hx : x ∈ cs <;> simp [hx]
  · have h2 : (List.dropWhile (fun c => decide (c ∈ cs)) r.reverse).isEmpty = false := by
      cases he : List.dropWhile (fun c => decide (c ∈ cs)) r.reverse with
      | nil => exact absurd he h
      | cons _ _ => rfl
    rw [h2, if_neg (by simp), if_neg (by simpa using h), List.reverse_append]; rfl
theorem trim_comm (cs : List UInt8) : ∀ s, trimRB cs (trimLB cs s) = trimLB cs (trimRB cs s)
  | [] => rfl
  | x :: r => by
    have ih := trim_comm cs r
    rw [trimLB_cons, trimRB_cons]
    by_cases hx : x ∈ cs
    · rw [if_pos hx, if_pos hx, ih]
      by_cases h : trimRB cs r = []
      · rw [if_pos h, h]
      · rw [if_neg h, trimLB_cons, if_pos hx]
    · rw [if_neg hx, if_neg hx, trimRB_cons, if_neg hx]
      by_cases h : trimRB cs r = []
      · rw [if_pos h, trimLB_cons, if_neg hx]
      · rw [if_neg h, trimLB_cons, if_neg hx]
set_option maxRecDepth 100000 in
set_option maxHeartbeats 1000000 in
theorem rbare_ok (s : List UInt8) (hs : s.length ≤ 1000000000) : PureC Tryd.prog 22 [.d (.str s)] (.d (.str (bareB s))) := by
  have hlow := rLower_ok (trimLB cutS (trimRB cutS s)) (Nat.le_trans (trimLB_le _ _) (Nat.le_trans (trimRB_le _ _) (Nat.le_trans hs (by decide))))
  have hle := trimLB_le cutS s
  unfold bareB
  rw [← trim_comm] at hlow ⊢
  refine PureC.of rfl rfl (fn_okTE Tryd.wf Tryd.tab_ok Tryd.func22 (by decide +kernel) rfl rfl ?_)
  refine E.seq (E.of Tryd.wf Tryd.tab_ok ?_)
  refine midT Tryd.wf Tryd.tab_ok (fun s' σ => s' = [(0, .d (.str (trimLB cutS s)))] ∧ σ = ⟨0, []⟩) ?_ ?_
  · refine loopT Tryd.wf Tryd.tab_ok (fun n s' σ => ∃ r : List UInt8, n = r.length ∧ r.length ≤ s.length ∧ trimLB cutS s = trimLB cutS r ∧ s' = [(0, .d (.str r))] ∧ σ = ⟨0, []⟩)
      ⟨s, rfl, Nat.le_refl _, rfl, rfl, rfl⟩ (Mv.of [] rfl rfl rfl trivial ⟨rfl, trivial⟩) ?_
    rintro _ _ _ ⟨r, rfl, hr, he, rfl, rfl⟩
    cases r with
    | nil =>
      repeat' (first | refine PureC.use hc1 ?_ | refine PureC.use hc2 ?_ |                      refine ⟨fun _ => ?_, fun h => absurd h (by decide)⟩ | refine ⟨fun h => absurd h (by decide), fun _ => ?_⟩ | (refine ⟨fun h => ?_, fun h => ?_⟩ <;> (try simp only [decide_eq_true_eq, decide_eq_false_iff_not, Bool.not_eq_true', Bool.not_eq_false', Bool.not_eq_true, Bool.not_eq_false, not_true_eq_false, beq_iff_eq, beq_eq_false_iff_ne, ne_eq, decide_eq_decide, true_iff, false_iff, iff_true, iff_false, true_and, and_true, false_or, or_false, Bool.and_true, Bool.and_eq_true, Bool.and_eq_false_iff, Bool.or_eq_true, Bool.or_eq_false_iff, List.length_cons, List.length_nil] at h) <;> (try (exfalso; first | omega | exact h rfl | (cases h; done) | exact absurd h (by assumption) | exact h (by assumption) | (simp at h; done)))) | refine ⟨⟨by (first | omega | (simp only [lenS]; omega)), by (first | omega | (simp only [lenS]; omega))⟩, _, by assumption, by rfl, ?_⟩ | refine .inl ⟨⟨by (first | omega | (simp only [lenS]; omega)), by (first | omega | (simp only [lenS]; omega))⟩, ?_⟩ | refine ⟨⟨by (first | omega | (simp only [lenS]; omega)), by (first | omega | (simp only [lenS]; omega))⟩, ?_⟩ | refine ⟨⟨by (first | omega | (simp only [lenS]; omega)), by (first | omega | (simp only [lenS]; omega)), by (first | omega | (simp only [lenS]; omega))⟩, ?_⟩ | refine ⟨.inl rfl, ?_⟩ | refine ⟨.inr (.inl (by (first | omega | (simp only [lenS]; omega)))), ?_⟩ | refine ⟨_, rfl, rfl, by (first | exact Nat.le_refl _ | exact Nat.le_of_ble_eq_true rfl | decide), ?_⟩ | refine ⟨_, rfl, by (first | exact Nat.le_refl _ | exact Nat.le_of_ble_eq_true rfl | decide), ?_⟩ | refine ⟨by (first | exact Nat.le_refl _ | exact Nat.le_of_ble_eq_true rfl | decide | exact rfl), ?_⟩ | refine ⟨show _ ≤ (9223372036854775807 : Nat) by (first | omega | (simp only [lenS]; omega)), ?_⟩ | refine ⟨show _ ≠ (0 : Int) by (first | omega | (simp only [lenS]; omega)), ?_⟩ | refine ⟨_, rfl, _, rfl, ?_⟩ | refine ⟨_, by assumption, Nat.le_of_ble_eq_true rfl, ?_⟩ | refine ⟨_, by assumption, _, rfl, ?_⟩ | refine ⟨_, rfl, ?_⟩ | fail)
      exact ⟨_, _, ⟨rfl, rfl⟩, Mv.of [] rfl rfl rfl trivial ⟨congrArg D.str he, trivial⟩⟩
    | cons c r =>
      have hc1 := blank_ok c
      have hl : (c :: r).length = r.length + 1 := by simp
      rw [trimLB_cons] at he
      by_cases hm : c ∈ cutS
      · rw [decide_eq_true hm] at hc1
        rw [if_pos hm] at he
        repeat' (first | refine PureC.use hc1 ?_ | refine PureC.use hc2 ?_ |                      refine ⟨fun _ => ?_, fun h => absurd h (by decide)⟩ | refine ⟨fun h => absurd h (by decide), fun _ => ?_⟩ | (refine ⟨fun h => ?_, fun h => ?_⟩ <;> (try simp only [decide_eq_true_eq, decide_eq_false_iff_not, Bool.not_eq_true', Bool.not_eq_false', Bool.not_eq_true, Bool.not_eq_false, not_true_eq_false, beq_iff_eq, beq_eq_false_iff_ne, ne_eq, decide_eq_decide, true_iff, false_iff, iff_true, iff_false, true_and, and_true, false_or, or_false, Bool.and_true, Bool.and_eq_true, Bool.and_eq_false_iff, Bool.or_eq_true, Bool.or_eq_false_iff, List.length_cons, List.length_nil] at h) <;> (try (exfalso; first | omega | exact h rfl | (cases h; done) | exact absurd h (by assumption) | exact h (by assumption) | (simp at h; done)))) | refine ⟨⟨by (first | omega | (simp only [lenS]; omega)), by (first | omega | (simp only [lenS]; omega))⟩, _, by assumption, by rfl, ?_⟩ | refine .inl ⟨⟨by (first | omega | (simp only [lenS]; omega)), by (first | omega | (simp only [lenS]; omega))⟩, ?_⟩ | refine ⟨⟨by (first | omega | (simp only [lenS]; omega)), by (first | omega | (simp only [lenS]; omega))⟩, ?_⟩ | refine ⟨⟨by (first | omega | (simp only [lenS]; omega)), by (first | omega | (simp only [lenS]; omega)), by (first | omega | (simp only [lenS]; omega))⟩, ?_⟩ | refine ⟨.inl rfl, ?_⟩ | refine ⟨.inr (.inl (by (first | omega | (simp only [lenS]; omega)))), ?_⟩ | refine ⟨_, rfl, rfl, by (first | exact Nat.le_refl _ | exact Nat.le_of_ble_eq_true rfl | decide), ?_⟩ | refine ⟨_, rfl, by (first | exact Nat.le_refl _ | exact Nat.le_of_ble_eq_true rfl | decide), ?_⟩ | refine ⟨by (first | exact Nat.le_refl _ | exact Nat.le_of_ble_eq_true rfl | decide | exact rfl), ?_⟩ | refine ⟨show _ ≤ (9223372036854775807 : Nat) by (first | omega | (simp only [lenS]; omega)), ?_⟩ | refine ⟨show _ ≠ (0 : Int) by (first | omega | (simp only [lenS]; omega)), ?_⟩ | refine ⟨_, rfl, _, rfl, ?_⟩ | refine ⟨_, by assumption, Nat.le_of_ble_eq_true rfl, ?_⟩ | refine ⟨_, by assumption, _, rfl, ?_⟩ | refine ⟨_, rfl, ?_⟩ | fail)
        exact ⟨_, _, _, ⟨r, rfl, by omega, he, rfl, rfl⟩, by omega, Mv.of [] rfl rfl rfl trivial ⟨congrArg D.str (by rw [Int.toNat_natCast, List.take_length]; rfl), trivial⟩⟩
      · rw [decide_eq_false hm] at hc1
        rw [if_neg hm] at he
        repeat' (first | refine PureC.use hc1 ?_ | refine PureC.use hc2 ?_ |                      refine ⟨fun _ => ?_, fun h => absurd h (by decide)⟩ | refine ⟨fun h => absurd h (by decide), fun _ => ?_⟩ | (refine ⟨fun h => ?_, fun h => ?_⟩ <;> (try simp only [decide_eq_true_eq, decide_eq_false_iff_not, Bool.not_eq_true', Bool.not_eq_false', Bool.not_eq_true, Bool.not_eq_false, not_true_eq_false, beq_iff_eq, beq_eq_false_iff_ne, ne_eq, decide_eq_decide, true_iff, false_iff, iff_true, iff_false, true_and, and_true, false_or, or_false, Bool.and_true, Bool.and_eq_true, Bool.and_eq_false_iff, Bool.or_eq_true, Bool.or_eq_false_iff, List.length_cons, List.length_nil] at h) <;> (try (exfalso; first | omega | exact h rfl | (cases h; done) | exact absurd h (by assumption) | exact h (by assumption) | (simp at h; done)))) | refine ⟨⟨by (first | omega | (simp only [lenS]; omega)), by (first | omega | (simp only [lenS]; omega))⟩, _, by assumption, by rfl, ?_⟩ | refine .inl ⟨⟨by (first | omega | (simp only [lenS]; omega)), by (first | omega | (simp only [lenS]; omega))⟩, ?_⟩ | refine ⟨⟨by (first | omega | (simp only [lenS]; omega)), by (first | omega | (simp only [lenS]; omega))⟩, ?_⟩ | refine ⟨⟨by (first | omega | (simp only [lenS]; omega)), by (first | omega | (simp only [lenS]; omega)), by (first | omega | (simp only [lenS]; omega))⟩, ?_⟩ | refine ⟨.inl rfl, ?_⟩ | refine ⟨.inr (.inl (by (first | omega | (simp only [lenS]; omega)))), ?_⟩ | refine ⟨_, rfl, rfl, by (first | exact Nat.le_refl _ | exact Nat.le_of_ble_eq_true rfl | decide), ?_⟩ | refine ⟨_, rfl, by (first | exact Nat.le_refl _ | exact Nat.le_of_ble_eq_true rfl | decide), ?_⟩ | refine ⟨by (first | exact Nat.le_refl _ | exact Nat.le_of_ble_eq_true rfl | decide | exact rfl), ?_⟩ | refine ⟨show _ ≤ (9223372036854775807 : Nat) by (first | omega | (simp only [lenS]; omega)), ?_⟩ | refine ⟨show _ ≠ (0 : Int) by (first | omega | (simp only [lenS]; omega)), ?_⟩ | refine ⟨_, rfl, _, rfl, ?_⟩ | refine ⟨_, by assumption, Nat.le_of_ble_eq_true rfl, ?_⟩ | refine ⟨_, by assumption, _, rfl, ?_⟩ | refine ⟨_, rfl, ?_⟩ | fail)
        exact ⟨_, _, ⟨rfl, rfl⟩, Mv.of [] rfl rfl rfl trivial ⟨congrArg D.str he, trivial⟩⟩
  · rintro _ _ ⟨rfl, rfl⟩
    generalize trimLB cutS s = u at *
    refine E.of Tryd.wf Tryd.tab_ok ?_
    refine loopT Tryd.wf Tryd.tab_ok (fun n s' σ => ∃ r : List UInt8, n = r.length ∧ r.length ≤ u.length ∧ trimRB cutS u = trimRB cutS r ∧ s' = [(0, .d (.str r))] ∧ σ = ⟨0, []⟩)
      ⟨u, rfl, Nat.le_refl _, rfl, rfl, rfl⟩ (Mv.of [] rfl rfl rfl trivial ⟨rfl, trivial⟩) ?_
    rintro _ _ _ ⟨r, rfl, hr, he, rfl, rfl⟩
    rcases List.eq_nil_or_concat r with rfl | ⟨r, c, rfl⟩
    · rw [he] at hlow ⊢
      have hc2 := hlow
      repeat' (first | refine PureC.use hc1 ?_ | refine PureC.use hc2 ?_ |                      refine ⟨fun _ => ?_, fun h => absurd h (by decide)⟩ | refine ⟨fun h => absurd h (by decide), fun _ => ?_⟩ | (refine ⟨fun h => ?_, fun h => ?_⟩ <;> (try simp only [decide_eq_true_eq, decide_eq_false_iff_not, Bool.not_eq_true', Bool.not_eq_false', Bool.not_eq_true, Bool.not_eq_false, not_true_eq_false, beq_iff_eq, beq_eq_false_iff_ne, ne_eq, decide_eq_decide, true_iff, false_iff, iff_true, iff_false, true_and, and_true, false_or, or_false, Bool.and_true, Bool.and_eq_true, Bool.and_eq_false_iff, Bool.or_eq_true, Bool.or_eq_false_iff, List.length_cons, List.length_nil] at h) <;> (try (exfalso; first | omega | exact h rfl | (cases h; done) | exact absurd h (by assumption) | exact h (by assumption) | (simp at h; done)))) | refine ⟨⟨by (first | omega | (simp only [lenS]; omega)), by (first | omega | (simp only [lenS]; omega))⟩, _, by assumption, by rfl, ?_⟩ | refine .inl ⟨⟨by (first | omega | (simp only [lenS]; omega)), by (first | omega | (simp only [lenS]; omega))⟩, ?_⟩ | refine ⟨⟨by (first | omega | (simp only [lenS]; omega)), by (first | omega | (simp only [lenS]; omega))⟩, ?_⟩ | refine ⟨⟨by (first | omega | (simp only [lenS]; omega)), by (first | omega | (simp only [lenS]; omega)), by (first | omega | (simp only [lenS]; omega))⟩, ?_⟩ | refine ⟨.inl rfl, ?_⟩ | refine ⟨.inr (.inl (by (first | omega | (simp only [lenS]; omega)))), ?_⟩ | refine ⟨_, rfl, rfl, by (first | exact Nat.le_refl _ | exact Nat.le_of_ble_eq_true rfl | decide), ?_⟩ | refine ⟨_, rfl, by (first | exact Nat.le_refl _ | exact Nat.le_of_ble_eq_true rfl | decide), ?_⟩ | refine ⟨by (first | exact Nat.le_refl _ | exact Nat.le_of_ble_eq_true rfl | decide | exact rfl), ?_⟩ | refine ⟨show _ ≤ (9223372036854775807 : Nat) by (first | omega | (simp only [lenS]; omega)), ?_⟩ | refine ⟨show _ ≠ (0 : Int) by (first | omega | (simp only [lenS]; omega)), ?_⟩ | refine ⟨_, rfl, _, rfl, ?_⟩ | refine ⟨_, by assumption, Nat.le_of_ble_eq_true rfl, ?_⟩ | refine ⟨_, by assumption, _, rfl, ?_⟩ | refine ⟨_, rfl, ?_⟩ | fail)
      exact ⟨_, _, fin_out rfl, rfl, rfl⟩
    · rw [List.concat_eq_append] at *
      have hgd := getD_last r c
      have hc1 : PureC Tryd.prog 31 [.d (.int .u8 ((r ++ [c]).getD (((r ++ [c]).length : Int) - 1).toNat 0).toNat)] (.d (.bool (decide (c ∈ cutS)))) := by
        rw [hgd]; exact blank_ok c
      have hl : (r ++ [c]).length = r.length + 1 := by simp
      rw [trimRB_snoc] at he
      by_cases hm : c ∈ cutS
      · rw [decide_eq_true hm] at hc1
        rw [if_pos hm] at he
        repeat' (first | refine PureC.use hc1 ?_ | refine PureC.use hc2 ?_ |                      refine ⟨fun _ => ?_, fun h => absurd h (by decide)⟩ | refine ⟨fun h => absurd h (by decide), fun _ => ?_⟩ | (refine ⟨fun h => ?_, fun h => ?_⟩ <;> (try simp only [decide_eq_true_eq, decide_eq_false_iff_not, Bool.not_eq_true', Bool.not_eq_false', Bool.not_eq_true, Bool.not_eq_false, not_true_eq_false, beq_iff_eq, beq_eq_false_iff_ne, ne_eq, decide_eq_decide, true_iff, false_iff, iff_true, iff_false, true_and, and_true, false_or, or_false, Bool.and_true, Bool.and_eq_true, Bool.and_eq_false_iff, Bool.or_eq_true, Bool.or_eq_false_iff, List.length_cons, List.length_nil] at h) <;> (try (exfalso; first | omega | exact h rfl | (cases h; done) | exact absurd h (by assumption) | exact h (by assumption) | (simp at h; done)))) | refine ⟨⟨by (first | omega | (simp only [lenS]; omega)), by (first | omega | (simp only [lenS]; omega))⟩, _, by assumption, by rfl, ?_⟩ | refine .inl ⟨⟨by (first | omega | (simp only [lenS]; omega)), by (first | omega | (simp only [lenS]; omega))⟩, ?_⟩ | refine ⟨⟨by (first | omega | (simp only [lenS]; omega)), by (first | omega | (simp only [lenS]; omega))⟩, ?_⟩ | refine ⟨⟨by (first | omega | (simp only [lenS]; omega)), by (first | omega | (simp only [lenS]; omega)), by (first | omega | (simp only [lenS]; omega))⟩, ?_⟩ | refine ⟨.inl rfl, ?_⟩ | refine ⟨.inr (.inl (by (first | omega | (simp only [lenS]; omega)))), ?_⟩ | refine ⟨_, rfl, rfl, by (first | exact Nat.le_refl _ | exact Nat.le_of_ble_eq_true rfl | decide), ?_⟩ | refine ⟨_, rfl, by (first | exact Nat.le_refl _ | exact Nat.le_of_ble_eq_true rfl | decide), ?_⟩ | refine ⟨by (first | exact Nat.le_refl _ | exact Nat.le_of_ble_eq_true rfl | decide | exact rfl), ?_⟩ | refine ⟨show _ ≤ (9223372036854775807 : Nat) by (first | omega | (simp only [lenS]; omega)), ?_⟩ | refine ⟨show _ ≠ (0 : Int) by (first | omega | (simp only [lenS]; omega)), ?_⟩ | refine ⟨_, rfl, _, rfl, ?_⟩ | refine ⟨_, by assumption, Nat.le_of_ble_eq_true rfl, ?_⟩ | refine ⟨_, by assumption, _, rfl, ?_⟩ | refine ⟨_, rfl, ?_⟩ | fail)
        exact ⟨_, _, _, ⟨r, rfl, by omega, he, rfl, rfl⟩, by omega, Mv.of [] rfl rfl rfl trivial ⟨congrArg D.str (take_last r c), trivial⟩⟩
      · rw [decide_eq_false hm] at hc1
        rw [if_neg hm] at he
        rw [he] at hlow ⊢
        have hc2 := hlow
        repeat' (first | refine PureC.use hc1 ?_ | refine PureC.use hc2 ?_ |                      refine ⟨fun _ => ?_, fun h => absurd h (by decide)⟩ | refine ⟨fun h => absurd h (by decide), fun _ => ?_⟩ | (refine ⟨fun h => ?_, fun h => ?_⟩ <;> (try simp only [decide_eq_true_eq, decide_eq_false_iff_not, Bool.not_eq_true', Bool.not_eq_false', Bool.not_eq_true, Bool.not_eq_false, not_true_eq_false, beq_iff_eq, beq_eq_false_iff_ne, ne_eq, decide_eq_decide, true_iff, false_iff, iff_true, iff_false, true_and, and_true, false_or, or_false, Bool.and_true, Bool.and_eq_true, Bool.and_eq_false_iff, Bool.or_eq_true, Bool.or_eq_false_iff, List.length_cons, List.length_nil] at h) <;> (try (exfalso; first | omega | exact h rfl | (cases h; done) | exact absurd h (by assumption) | exact h (by assumption) | (simp at h; done)))) | refine ⟨⟨by (first | omega | (simp only [lenS]; omega)), by (first | omega | (simp only [lenS]; omega))⟩, _, by assumption, by rfl, ?_⟩ | refine .inl ⟨⟨by (first | omega | (simp only [lenS]; omega)), by (first | omega | (simp only [lenS]; omega))⟩, ?_⟩ | refine ⟨⟨by (first | omega | (simp only [lenS]; omega)), by (first | omega | (simp only [lenS]; omega))⟩, ?_⟩ | refine ⟨⟨by (first | omega | (simp only [lenS]; omega)), by (first | omega | (simp only [lenS]; omega)), by (first | omega | (simp only [lenS]; omega))⟩, ?_⟩ | refine ⟨.inl rfl, ?_⟩ | refine ⟨.inr (.inl (by (first | omega | (simp only [lenS]; omega)))), ?_⟩ | refine ⟨_, rfl, rfl, by (first | exact Nat.le_refl _ | exact Nat.le_of_ble_eq_true rfl | decide), ?_⟩ | refine ⟨_, rfl, by (first | exact Nat.le_refl _ | exact Nat.le_of_ble_eq_true rfl | decide), ?_⟩ | refine ⟨by (first | exact Nat.le_refl _ | exact Nat.le_of_ble_eq_true rfl | decide | exact rfl), ?_⟩ | refine ⟨show _ ≤ (9223372036854775807 : Nat) by (first | omega | (simp only [lenS]; omega)), ?_⟩ | refine ⟨show _ ≠ (0 : Int) by (first | omega | (simp only [lenS]; omega)), ?_⟩ | refine ⟨_, rfl, _, rfl, ?_⟩ | refine ⟨_, by assumption, Nat.le_of_ble_eq_true rfl, ?_⟩ | refine ⟨_, by assumption, _, rfl, ?_⟩ | refine ⟨_, rfl, ?_⟩ | fail)
        exact ⟨_, _, fin_out rfl, rfl, rfl⟩
end Go.Proofs.YtkgdplfcanonhaaDoor

namespace Go.Proofs.YtkgdplfcanonhaaDoor
open Go.Aw
set_option maxHeartbeats 1600000
set_option linter.unusedSimpArgs false
set_option linter.unusedVariables false
/-- Of each name the last. -/
def lastsL : List Pair → List Pair
  | [] => []
  | p :: r => if p.1 ∈ r.map Prod.fst then lastsL r else p :: lastsL r
def keptL (props : List (List UInt8)) (l : List (List UInt8)) : List Pair := (l.filterMap partB).filter (keepB props)
theorem addRs_eq (props : List (List UInt8)) : ∀ (l : List Pair) (q : List Pair), l.foldl (addR props) q = (l.filter (keepB props)).reverse ++ q
  | [], q => rfl
  | p :: r, q => by
    rw [List.foldl_cons, addRs_eq props r]
    unfold addR
    by_cases h : keepB props p = true
    · rw [if_pos h, List.filter_cons_of_pos h, List.reverse_cons, List.append_assoc]; rfl
    · rw [if_neg h, List.filter_cons_of_neg h]
theorem keptR_eq (props : List (List UInt8)) (l : List (List UInt8)) : keptR props l = (keptL props l).reverse := by
  unfold keptR keptL
  rw [addRs_eq, List.append_nil]
theorem idxR_app (x : List UInt8) (B : List Pair) : ∀ A : List Pair, (x ∈ A.map Prod.fst → B.length < idxR x (A ++ B)) ∧ (x ∉ A.map Prod.fst → idxR x (A ++ B) = idxR x B)
  | [] => ⟨fun h => by simp at h, fun _ => rfl⟩
  | p :: A => by
    obtain ⟨h1, h2⟩ := idxR_app x B A
    rw [List.cons_append, idxR, List.map_cons]
    by_cases hx : x = p.1
    · rw [if_pos hx, List.length_append]
      exact ⟨fun _ => by omega, fun h => absurd (by rw [hx]; exact List.mem_cons_self) h⟩
    · rw [if_neg hx]
      refine ⟨fun h => h1 ?_, fun h => h2 fun h3 => h (List.mem_cons_of_mem _ h3)⟩
      rcases List.mem_cons.1 h with h | h
      · exact absurd h hx
      · exact h
theorem steps_lasts (props : List (List UInt8)) (Q : List Pair) : ∀ (l pre : List Pair) (out : List Pair), Q = (pre ++ l.filter (keepB props)).reverse → l.foldl (stepB props Q) (pre.length, out) = ((pre ++ l.filter (keepB props)).length, out ++ lastsL (l.filter (keepB props)))
  | [], pre, out, _ => by simp [lastsL]
  | p :: r, pre, out, hQ => by
    rw [List.foldl_cons]
    unfold stepB
    by_cases h : keepB props p = true
    · rw [if_pos h]
      rw [List.filter_cons_of_pos h] at hQ ⊢
      have hQ2 : Q = ((pre ++ [p]) ++ r.filter (keepB props)).reverse := by rw [hQ]; simp
      have hq : Q = (r.filter (keepB props)).reverse ++ (p :: pre.reverse) := by rw [hQ]; simp
      have hidx := idxR_app p.1 (p :: pre.reverse) (r.filter (keepB props)).reverse
      rw [← hq] at hidx
      have hme : p.1 ∈ (r.filter (keepB props)).reverse.map Prod.fst ↔ p.1 ∈ (r.filter (keepB props)).map Prod.fst := by simp
      rw [hme] at hidx
      have hself : idxR p.1 (p :: pre.reverse) = pre.length + 1 := by rw [idxR, if_pos rfl, List.length_reverse]
      dsimp only
      have ih := fun o => steps_lasts props Q r (pre ++ [p]) o hQ2
      rw [List.length_append] at ih
      rw [lastsL]
      by_cases hm : p.1 ∈ (r.filter (keepB props)).map Prod.fst
      · have h1 := hidx.1 hm
        rw [List.length_cons, List.length_reverse] at h1
        rw [if_neg (by omega), if_pos hm]
        exact (ih out).trans (by simp)
      · rw [if_pos ((hidx.2 hm).trans hself), if_neg hm]
        exact (ih (out ++ [p])).trans (by simp)
    · rw [if_neg h]
      rw [List.filter_cons_of_neg h] at hQ ⊢
      exact steps_lasts props Q r pre out hQ
theorem outR_eq (props : List (List UInt8)) (l : List (List UInt8)) : (outR props (keptR props l) l).2 = lastsL (keptL props l) := by
  unfold outR
  have h := steps_lasts props (keptR props l) (l.filterMap partB) [] [] (by rw [keptR_eq]; rfl)
  rw [show (0, []) = (([] : List Pair).length, ([] : List Pair)) from rfl, h]
  rfl
theorem filterB_eq (props : List (List UInt8)) (s : List UInt8) : filterB props s = joinB [59, 32] ((lastsL (keptL props (splitB 59 s))).map txtB) := by
  unfold filterB; rw [outR_eq]
theorem keptL_none (props : List (List UInt8)) (l : List (List UInt8)) (k : Nat) (h : k < l.length) (hc : cutAt 58 l[k] = none) : keptL props (l.take (k + 1)) = keptL props (l.take k) := by
  unfold keptL
  rw [List.take_succ_eq_append_getElem h, List.filterMap_append, show [l[k]].filterMap partB = [] from by simp [partB, hc], List.append_nil]
theorem keptL_some (props : List (List UInt8)) (l : List (List UInt8)) (k : Nat) (h : k < l.length) {x y : List UInt8} (hc : cutAt 58 l[k] = some (x, y)) : keptL props (l.take (k + 1)) = keptL props (l.take k) ++ (if keepB props (bareB x, bareB y) = true then [(bareB x, bareB y)] else []) := by
  unfold keptL
  rw [List.take_succ_eq_append_getElem h, List.filterMap_append, show [l[k]].filterMap partB = [(bareB x, bareB y)] from by simp [partB, hc], List.filter_append]
  congr 1
  by_cases hk : keepB props (bareB x, bareB y) = true
  · rw [if_pos hk, List.filter_cons_of_pos hk]; rfl
  · rw [if_neg hk, List.filter_cons_of_neg hk]; rfl
theorem keptL_len (props : List (List UInt8)) (l : List (List UInt8)) : (keptL props l).length ≤ l.length :=
  Nat.le_trans (List.length_filter_le _ _) (List.length_filterMap_le _ _)
/-- What the reference has written when so many have been seen. -/
def sumB (out : List UInt8) : List Pair → List UInt8
  | [] => out
  | p :: r => if p.1 ∈ r.map Prod.fst then sumB out r else sumB ((if out = [] then [] else out ++ [59, 32]) ++ txtB p) r
theorem txtB_ne (p : Pair) : txtB p ≠ [] := fun h => by
  have := congrArg List.length h
  simp [txtB] at this
theorem sumB_more : ∀ (l : List Pair) (out : List UInt8), out ≠ [] → sumB out l = out ++ moreB [59, 32] ((lastsL l).map txtB)
  | [], out, _ => by simp [sumB, lastsL, moreB]
  | p :: r, out, h => by
    rw [sumB, lastsL]
    by_cases hm : p.1 ∈ r.map Prod.fst
    · rw [if_pos hm, if_pos hm]; exact sumB_more r out h
    · rw [if_neg hm, if_neg hm, if_neg h, sumB_more r _ (by simp)]
      simp [moreB]
theorem sumB_join : ∀ (l : List Pair), sumB [] l = joinB [59, 32] ((lastsL l).map txtB)
  | [] => rfl
  | p :: r => by
    rw [sumB, lastsL]
    by_cases hm : p.1 ∈ r.map Prod.fst
    · rw [if_pos hm, if_pos hm]; exact sumB_join r
    · rw [if_neg hm, if_neg hm, if_pos rfl, List.map_cons, joinB_more, List.nil_append, sumB_more r _ (txtB_ne p)]
end Go.Proofs.YtkgdplfcanonhaaDoor

namespace Go.Proofs.YtkgdplfcanonhaaDoor
open Go.Aw
set_option maxHeartbeats 1600000
set_option linter.unusedSimpArgs false
set_option linter.unusedVariables false
def two (N V : List (List UInt8)) : Store := ⟨2, [(1, .rows (1, 9) (strsA V)), (0, .rows (1, 9) (strsA N))]⟩
theorem cut_take {c : UInt8} {s : List UInt8} {j : Nat} (hj : j < s.length) (hc : s[j] = c) (hn : c ∉ s.take j) : cutAt c s = some (s.take j, s.drop (j + 1)) := by
  have h := cutAt_some (b := s.drop (j + 1)) hn
  rw [← hc, ← List.drop_eq_getElem_cons hj, List.take_append_drop, hc] at h
  exact h
theorem kept_len (props : List (List UInt8)) (s : List UInt8) : ∀ p ∈ keptL props (splitB 59 s), p.1.length + p.2.length ≤ s.length := fun p h => by
  obtain ⟨x, hx, hp⟩ := List.mem_filterMap.1 (List.mem_filter.1 h).1
  have h1 := splitB_bound 59 s x hx
  have h2 := part_len hp
  omega
theorem pairD_get (f : Pair → List UInt8) (K : List Pair) (i : Nat) (h : i < K.length) : (strsD (K.map f))[((i : Nat) : Int).toNat]? = some [.str (f K[i])] := by
  rw [strsD_get _ i (by rw [List.length_map]; exact h), List.getElem_map]
theorem two_data (N V : List (List UInt8)) (L : Nat) (h1 : N.length = L) (h2 : V.length = L) : FinMove (two N V) (.tup [.own 0 0 L, .own 1 0 L]) (two N V) (.tup [.d (.sl (strsD N)), .d (.sl (strsD V))]) ⟨2, [(1, .dead), (0, .dead), (1, .rows (1, 9) (strsA V)), (0, .rows (1, 9) (strsA N))]⟩ := by
  have e1 : ((strsD N).drop 0).take L = strsD N := by rw [List.drop_zero, ← h1, ← strsD_len N, List.take_length]
  have e2 : ((strsD V).drop 0).take L = strsD V := by rw [List.drop_zero, ← h2, ← strsD_len V, List.take_length]
  have f1 := fin_freeze (σ0 := two N V) (σ := two N V) (r := .tup [.own 0 0 L, .own 1 0 L]) 0 rfl (rowsD_d (strsD N)) ⟨fun _ => by show 0 + L ≤ (strsA N).length; rw [strsA_len]; omega, fun h => (by cases h), trivial⟩
  have f2 := fin_freeze (σ0 := two N V) (σ := (two N V).set 0 .dead) (r := .tup [.d (.sl (((strsD N).drop 0).take L)), .own 1 0 L]) 1 rfl (rowsD_d (strsD V)) ⟨trivial, fun _ => by show 0 + L ≤ (strsA V).length; rw [strsA_len]; omega, trivial⟩
  have f3 := f1.trans f2
  have e3 : frz 1 (strsD V) (.tup [.d (.sl (((strsD N).drop 0).take L)), .own 1 0 L]) = .tup [.d (.sl (strsD N)), .d (.sl (strsD V))] := by
    show AV.tup [.d (.sl (((strsD N).drop 0).take L)), .d (.sl (((strsD V).drop 0).take L))] = _
    rw [e1, e2]
  rw [e3] at f3
  exact f3
set_option maxRecDepth 100000 in
set_option maxHeartbeats 4000000 in
theorem rFilter_ok (props : List (List UInt8)) (s : List UInt8) (hp : props.length ≤ 1000000) (hs : s.length ≤ 100000) : PureC Tryd.prog 11 [.d (.str s), .d (.sl (strsD props))] (.d (.str (filterB props s))) := by
  have hparts := parts_ok 59 s (by omega)
  rw [filterB_eq]
  have hn := strsD_len (splitB 59 s)
  have hb := splitB_bound 59 s
  have hcnt := splitB_len 59 s
  have hcl := List.count_le_length (a := 59) (l := s)
  have hKb := kept_len props s
  generalize splitB 59 s = ps at *
  have hpn := strsD_len props
  refine PureC.of rfl rfl (fn_okTE Tryd.wf Tryd.tab_ok Tryd.func11 (by decide +kernel) rfl rfl ?_)
  refine E.seq (E.of Tryd.wf Tryd.tab_ok ?_)
  refine E.seq (E.of Tryd.wf Tryd.tab_ok ?_)
  refine E.seq (E.of Tryd.wf Tryd.tab_ok ?_)
  refine E.seq (E.of Tryd.wf Tryd.tab_ok ?_)
  refine PureC.use hparts ?_
  refine midT Tryd.wf Tryd.tab_ok (fun s' σ => s' = [(5, .own 0 0 (keptL props ps).length), (6, .own 1 0 (keptL props ps).length)] ∧ σ = two ((keptL props ps).map Prod.fst) ((keptL props ps).map Prod.snd)) ?_ ?_
  · refine loopT Tryd.wf Tryd.tab_ok (fun n s' σ => ∃ k : Nat, n = ps.length - k ∧ k ≤ ps.length ∧ s' = [(1, .d (.sl (strsD props))), (5, .own 0 0 (keptL props (ps.take k)).length), (6, .own 1 0 (keptL props (ps.take k)).length), (7, .d (.sl (strsD ps))), (8, .d (.int .i64 k))] ∧ σ = two ((keptL props (ps.take k)).map Prod.fst) ((keptL props (ps.take k)).map Prod.snd))
      ⟨0, rfl, Nat.zero_le _, rfl, rfl⟩ (Mv.of [.phan 1, .phan 1] rfl rfl rfl ⟨rfl, rfl, trivial⟩ ⟨rfl, ⟨rfl, rfl, rfl⟩, ⟨rfl, rfl, rfl⟩, rfl, rfl, trivial⟩) ?_
    rintro _ _ _ ⟨k, rfl, hk, rfl, rfl⟩
    by_cases hlt : k < ps.length
    · have hg := strsD_get ps k hlt
      have hpb := hb ps[k] (List.getElem_mem hlt)
      have hkn := keptL_none props ps k hlt
      have hks := @keptL_some props ps k hlt
      have hkl := keptL_len props (ps.take k)
      rw [List.length_take] at hkl
      generalize ps[k] = p at *
      generalize keptL props (ps.take k) = Q at *
      have hlN : (strsA (Q.map Prod.fst)).length = Q.length := by rw [strsA_len, List.length_map]
      have hlV : (strsA (Q.map Prod.snd)).length = Q.length := by rw [strsA_len, List.length_map]
      repeat' (first | refine PureC.use hc1 ?_ | refine PureC.use hc2 ?_ | refine PureC.use hc3 ?_ |                     refine ⟨fun _ => ?_, fun h => absurd h (by decide)⟩ | refine ⟨fun h => absurd h (by decide), fun _ => ?_⟩ | (refine ⟨fun h => ?_, fun h => ?_⟩ <;> (try simp only [decide_eq_true_eq, decide_eq_false_iff_not, Bool.not_eq_true', Bool.not_eq_false', Bool.not_eq_true, Bool.not_eq_false, not_true_eq_false, beq_iff_eq, beq_eq_false_iff_ne, ne_eq, decide_eq_decide, true_iff, false_iff, iff_true, iff_false, true_and, and_true, false_or, or_false, Bool.and_true, Bool.and_eq_true, Bool.and_eq_false_iff, Bool.or_eq_true, Bool.or_eq_false_iff, List.length_cons, List.length_nil] at h) <;> (try (exfalso; first | omega | exact h rfl | (cases h; done) | exact absurd h (by assumption) | exact h (by assumption) | (simp at h; done)))) | refine ⟨⟨by (first | omega | (simp only [lenS]; omega)), by (first | omega | (simp only [lenS]; omega))⟩, _, by assumption, by rfl, ?_⟩ | refine .inl ⟨⟨by (first | omega | (simp only [lenS]; omega)), by (first | omega | (simp only [lenS]; omega))⟩, ?_⟩ | refine ⟨⟨by (first | omega | (simp only [lenS]; omega)), by (first | omega | (simp only [lenS]; omega))⟩, ?_⟩ | refine ⟨⟨by (first | omega | (simp only [lenS]; omega)), by (first | omega | (simp only [lenS]; omega)), by (first | omega | (simp only [lenS]; omega))⟩, ?_⟩ | refine ⟨.inl rfl, ?_⟩ | refine ⟨.inr (.inl (by (first | omega | (simp only [lenS]; omega)))), ?_⟩ | refine ⟨_, rfl, rfl, by (first | exact Nat.le_refl _ | exact Nat.le_of_ble_eq_true rfl | decide), ?_⟩ | refine ⟨_, rfl, by (first | exact Nat.le_refl _ | exact Nat.le_of_ble_eq_true rfl | decide), ?_⟩ | refine ⟨by (first | exact Nat.le_refl _ | exact Nat.le_of_ble_eq_true rfl | decide | exact rfl), ?_⟩ | refine ⟨show _ ≤ (9223372036854775807 : Nat) by (first | omega | (simp only [lenS]; omega)), ?_⟩ | refine ⟨show _ ≠ (0 : Int) by (first | omega | (simp only [lenS]; omega)), ?_⟩ | refine ⟨_, rfl, _, rfl, ?_⟩ | refine ⟨_, by assumption, Nat.le_of_ble_eq_true rfl, ?_⟩ | refine ⟨_, by assumption, _, rfl, ?_⟩ | refine ⟨_, rfl, ?_⟩ | fail)
      refine loopT Tryd.wf Tryd.tab_ok (fun n s' σ => ∃ j : Nat, n = p.length - j ∧ j ≤ p.length ∧ 58 ∉ p.take j ∧ s' = [(1, .d (.sl (strsD props))), (5, .own 0 0 Q.length), (6, .own 1 0 Q.length), (7, .d (.sl (strsD ps))), (8, .d (.int .i64 k)), (9, .d (.int .i64 j))] ∧ σ = two (Q.map Prod.fst) (Q.map Prod.snd))
        ⟨0, rfl, Nat.zero_le _, by simp, rfl, rfl⟩ (Mv.of [.old 0, .old 1] rfl rfl rfl ⟨⟨rfl, .inl ⟨rfl, strsA_pure _⟩⟩, ⟨rfl, .inl ⟨rfl, strsA_pure _⟩⟩, trivial⟩ ⟨rfl, ⟨rfl, rfl, rfl⟩, ⟨rfl, rfl, rfl⟩, rfl, rfl, rfl, trivial⟩) ?_
      rintro _ _ _ ⟨j, rfl, hj, hno, rfl, rfl⟩
      by_cases hjl : j < p.length
      · have hgj := getD_at p j hjl
        by_cases hch : p[j] = 58
        · have hcut := cut_take hjl hch hno
          have hkk := hks hcut
          have hgc : ((p.getD ((j : Nat) : Int).toNat 0).toNat : Int) = 58 := by rw [hgj, hch]; rfl
          have hc1 : PureC Tryd.prog 22 [.d (.str ((p.take ((j : Nat) : Int).toNat).drop (0 : Int).toNat))] (.d (.str (bareB (p.take j)))) := rbare_ok (p.take j) (by rw [List.length_take]; omega)
          have hc2 : PureC Tryd.prog 22 [.d (.str ((p.take ((p.length : Nat) : Int).toNat).drop (((j : Nat) : Int) + 1).toNat))] (.d (.str (bareB (p.drop (j + 1))))) := by
            rw [Int.toNat_natCast, List.take_length, show (((j : Nat) : Int) + 1).toNat = j + 1 from by omega]
            exact rbare_ok (p.drop (j + 1)) (by rw [List.length_drop]; omega)
          have hbl := bareB_len (p.drop (j + 1))
          rw [List.length_drop] at hbl
          have hst1 := strsA_snoc (Q.map Prod.fst) (bareB (p.take j))
          have hst2 := strsA_snoc (Q.map Prod.snd) (bareB (p.drop (j + 1)))
          generalize bareB (p.take j) = a at *
          generalize bareB (p.drop (j + 1)) = b at *
          clear hks hkn hcut hno
          repeat' (first | refine PureC.use hc1 ?_ | refine PureC.use hc2 ?_ | refine PureC.use hc3 ?_ |                     refine ⟨fun _ => ?_, fun h => absurd h (by decide)⟩ | refine ⟨fun h => absurd h (by decide), fun _ => ?_⟩ | (refine ⟨fun h => ?_, fun h => ?_⟩ <;> (try simp only [decide_eq_true_eq, decide_eq_false_iff_not, Bool.not_eq_true', Bool.not_eq_false', Bool.not_eq_true, Bool.not_eq_false, not_true_eq_false, beq_iff_eq, beq_eq_false_iff_ne, ne_eq, decide_eq_decide, true_iff, false_iff, iff_true, iff_false, true_and, and_true, false_or, or_false, Bool.and_true, Bool.and_eq_true, Bool.and_eq_false_iff, Bool.or_eq_true, Bool.or_eq_false_iff, List.length_cons, List.length_nil] at h) <;> (try (exfalso; first | omega | exact h rfl | (cases h; done) | exact absurd h (by assumption) | exact h (by assumption) | (simp at h; done)))) | refine ⟨⟨by (first | omega | (simp only [lenS]; omega)), by (first | omega | (simp only [lenS]; omega))⟩, _, by assumption, by rfl, ?_⟩ | refine .inl ⟨⟨by (first | omega | (simp only [lenS]; omega)), by (first | omega | (simp only [lenS]; omega))⟩, ?_⟩ | refine ⟨⟨by (first | omega | (simp only [lenS]; omega)), by (first | omega | (simp only [lenS]; omega))⟩, ?_⟩ | refine ⟨⟨by (first | omega | (simp only [lenS]; omega)), by (first | omega | (simp only [lenS]; omega)), by (first | omega | (simp only [lenS]; omega))⟩, ?_⟩ | refine ⟨.inl rfl, ?_⟩ | refine ⟨.inr (.inl (by (first | omega | (simp only [lenS]; omega)))), ?_⟩ | refine ⟨_, rfl, rfl, by (first | exact Nat.le_refl _ | exact Nat.le_of_ble_eq_true rfl | decide), ?_⟩ | refine ⟨_, rfl, by (first | exact Nat.le_refl _ | exact Nat.le_of_ble_eq_true rfl | decide), ?_⟩ | refine ⟨by (first | exact Nat.le_refl _ | exact Nat.le_of_ble_eq_true rfl | decide | exact rfl), ?_⟩ | refine ⟨show _ ≤ (9223372036854775807 : Nat) by (first | omega | (simp only [lenS]; omega)), ?_⟩ | refine ⟨show _ ≠ (0 : Int) by (first | omega | (simp only [lenS]; omega)), ?_⟩ | refine ⟨_, rfl, _, rfl, ?_⟩ | refine ⟨_, by assumption, Nat.le_of_ble_eq_true rfl, ?_⟩ | refine ⟨_, by assumption, _, rfl, ?_⟩ | refine ⟨_, rfl, ?_⟩ | fail)
          refine loopT Tryd.wf Tryd.tab_ok (fun n s' σ => ∃ m : Nat, n = props.length - m ∧ m ≤ props.length ∧ s' = [(1, .d (.sl (strsD props))), (5, .own 0 0 Q.length), (6, .own 1 0 Q.length), (7, .d (.sl (strsD ps))), (8, .d (.int .i64 k)), (10, .d (.str a)), (11, .d (.str b)), (12, .d (.bool (decide (a ∈ props.take m)))), (13, .d (.int .i64 m))] ∧ σ = two (Q.map Prod.fst) (Q.map Prod.snd))
            ⟨0, rfl, Nat.zero_le _, rfl, rfl⟩ (Mv.of [.old 0, .old 1] rfl rfl rfl ⟨⟨rfl, .inl ⟨rfl, strsA_pure _⟩⟩, ⟨rfl, .inl ⟨rfl, strsA_pure _⟩⟩, trivial⟩ ⟨rfl, ⟨rfl, rfl, rfl⟩, ⟨rfl, rfl, rfl⟩, rfl, rfl, rfl, rfl, congrArg D.bool (by simp), rfl, trivial⟩) ?_
          rintro _ _ _ ⟨m, rfl, hm, rfl, rfl⟩
          by_cases hml : m < props.length
          · have hgm := strsD_get props m hml
            have hmem : a ∈ props.take (m + 1) ↔ a ∈ props.take m ∨ props[m] = a := by
              rw [List.take_succ_eq_append_getElem hml, List.mem_append, List.mem_singleton]
              exact ⟨fun h => h.imp id Eq.symm, fun h => h.imp id Eq.symm⟩
            by_cases hin : a ∈ props.take m
            · rw [decide_eq_true hin]
              repeat' (first | refine PureC.use hc1 ?_ | refine PureC.use hc2 ?_ | refine PureC.use hc3 ?_ |                     refine ⟨fun _ => ?_, fun h => absurd h (by decide)⟩ | refine ⟨fun h => absurd h (by decide), fun _ => ?_⟩ | (refine ⟨fun h => ?_, fun h => ?_⟩ <;> (try simp only [decide_eq_true_eq, decide_eq_false_iff_not, Bool.not_eq_true', Bool.not_eq_false', Bool.not_eq_true, Bool.not_eq_false, not_true_eq_false, beq_iff_eq, beq_eq_false_iff_ne, ne_eq, decide_eq_decide, true_iff, false_iff, iff_true, iff_false, true_and, and_true, false_or, or_false, Bool.and_true, Bool.and_eq_true, Bool.and_eq_false_iff, Bool.or_eq_true, Bool.or_eq_false_iff, List.length_cons, List.length_nil] at h) <;> (try (exfalso; first | omega | exact h rfl | (cases h; done) | exact absurd h (by assumption) | exact h (by assumption) | (simp at h; done)))) | refine ⟨⟨by (first | omega | (simp only [lenS]; omega)), by (first | omega | (simp only [lenS]; omega))⟩, _, by assumption, by rfl, ?_⟩ | refine .inl ⟨⟨by (first | omega | (simp only [lenS]; omega)), by (first | omega | (simp only [lenS]; omega))⟩, ?_⟩ | refine ⟨⟨by (first | omega | (simp only [lenS]; omega)), by (first | omega | (simp only [lenS]; omega))⟩, ?_⟩ | refine ⟨⟨by (first | omega | (simp only [lenS]; omega)), by (first | omega | (simp only [lenS]; omega)), by (first | omega | (simp only [lenS]; omega))⟩, ?_⟩ | refine ⟨.inl rfl, ?_⟩ | refine ⟨.inr (.inl (by (first | omega | (simp only [lenS]; omega)))), ?_⟩ | refine ⟨_, rfl, rfl, by (first | exact Nat.le_refl _ | exact Nat.le_of_ble_eq_true rfl | decide), ?_⟩ | refine ⟨_, rfl, by (first | exact Nat.le_refl _ | exact Nat.le_of_ble_eq_true rfl | decide), ?_⟩ | refine ⟨by (first | exact Nat.le_refl _ | exact Nat.le_of_ble_eq_true rfl | decide | exact rfl), ?_⟩ | refine ⟨show _ ≤ (9223372036854775807 : Nat) by (first | omega | (simp only [lenS]; omega)), ?_⟩ | refine ⟨show _ ≠ (0 : Int) by (first | omega | (simp only [lenS]; omega)), ?_⟩ | refine ⟨_, rfl, _, rfl, ?_⟩ | refine ⟨_, by assumption, Nat.le_of_ble_eq_true rfl, ?_⟩ | refine ⟨_, by assumption, _, rfl, ?_⟩ | refine ⟨_, rfl, ?_⟩ | fail)
              exact ⟨_, _, _, ⟨m + 1, rfl, hml, rfl, rfl⟩, by omega, Mv.of [.old 0, .old 1] rfl rfl rfl ⟨⟨rfl, .inl ⟨rfl, strsA_pure _⟩⟩, ⟨rfl, .inl ⟨rfl, strsA_pure _⟩⟩, trivial⟩ ⟨rfl, ⟨rfl, rfl, rfl⟩, ⟨rfl, rfl, rfl⟩, rfl, rfl, rfl, rfl, congrArg D.bool (decide_eq_true (hmem.2 (.inl hin))), rfl, trivial⟩⟩
            · rw [decide_eq_false hin]
              repeat' (first | refine PureC.use hc1 ?_ | refine PureC.use hc2 ?_ | refine PureC.use hc3 ?_ |                     refine ⟨fun _ => ?_, fun h => absurd h (by decide)⟩ | refine ⟨fun h => absurd h (by decide), fun _ => ?_⟩ | (refine ⟨fun h => ?_, fun h => ?_⟩ <;> (try simp only [decide_eq_true_eq, decide_eq_false_iff_not, Bool.not_eq_true', Bool.not_eq_false', Bool.not_eq_true, Bool.not_eq_false, not_true_eq_false, beq_iff_eq, beq_eq_false_iff_ne, ne_eq, decide_eq_decide, true_iff, false_iff, iff_true, iff_false, true_and, and_true, false_or, or_false, Bool.and_true, Bool.and_eq_true, Bool.and_eq_false_iff, Bool.or_eq_true, Bool.or_eq_false_iff, List.length_cons, List.length_nil] at h) <;> (try (exfalso; first | omega | exact h rfl | (cases h; done) | exact absurd h (by assumption) | exact h (by assumption) | (simp at h; done)))) | refine ⟨⟨by (first | omega | (simp only [lenS]; omega)), by (first | omega | (simp only [lenS]; omega))⟩, _, by assumption, by rfl, ?_⟩ | refine .inl ⟨⟨by (first | omega | (simp only [lenS]; omega)), by (first | omega | (simp only [lenS]; omega))⟩, ?_⟩ | refine ⟨⟨by (first | omega | (simp only [lenS]; omega)), by (first | omega | (simp only [lenS]; omega))⟩, ?_⟩ | refine ⟨⟨by (first | omega | (simp only [lenS]; omega)), by (first | omega | (simp only [lenS]; omega)), by (first | omega | (simp only [lenS]; omega))⟩, ?_⟩ | refine ⟨.inl rfl, ?_⟩ | refine ⟨.inr (.inl (by (first | omega | (simp only [lenS]; omega)))), ?_⟩ | refine ⟨_, rfl, rfl, by (first | exact Nat.le_refl _ | exact Nat.le_of_ble_eq_true rfl | decide), ?_⟩ | refine ⟨_, rfl, by (first | exact Nat.le_refl _ | exact Nat.le_of_ble_eq_true rfl | decide), ?_⟩ | refine ⟨by (first | exact Nat.le_refl _ | exact Nat.le_of_ble_eq_true rfl | decide | exact rfl), ?_⟩ | refine ⟨show _ ≤ (9223372036854775807 : Nat) by (first | omega | (simp only [lenS]; omega)), ?_⟩ | refine ⟨show _ ≠ (0 : Int) by (first | omega | (simp only [lenS]; omega)), ?_⟩ | refine ⟨_, rfl, _, rfl, ?_⟩ | refine ⟨_, by assumption, Nat.le_of_ble_eq_true rfl, ?_⟩ | refine ⟨_, by assumption, _, rfl, ?_⟩ | refine ⟨_, rfl, ?_⟩ | fail)
              exact ⟨_, _, _, ⟨m + 1, rfl, hml, rfl, rfl⟩, by omega, Mv.of [.old 0, .old 1] rfl rfl rfl ⟨⟨rfl, .inl ⟨rfl, strsA_pure _⟩⟩, ⟨rfl, .inl ⟨rfl, strsA_pure _⟩⟩, trivial⟩ ⟨rfl, ⟨rfl, rfl, rfl⟩, ⟨rfl, rfl, rfl⟩, rfl, rfl, rfl, rfl, congrArg D.bool (decide_eq_decide.2 (hmem.trans (or_iff_right hin))), rfl, trivial⟩⟩
          · have hm' : m = props.length := by omega
            subst hm'
            rw [List.take_length]
            have hc3 := rValue_ok b (by omega)
            unfold keepB at hkk
            dsimp only at hkk
            by_cases hin : a ∈ props
            · rw [decide_eq_true hin] at hkk ⊢
              rw [Bool.true_and] at hkk
              cases hv : valB b with
              | true =>
                rw [hv] at hc3
                rw [if_pos hv] at hkk
                repeat' (first | refine PureC.use hc1 ?_ | refine PureC.use hc2 ?_ | refine PureC.use hc3 ?_ |                     refine ⟨fun _ => ?_, fun h => absurd h (by decide)⟩ | refine ⟨fun h => absurd h (by decide), fun _ => ?_⟩ | (refine ⟨fun h => ?_, fun h => ?_⟩ <;> (try simp only [decide_eq_true_eq, decide_eq_false_iff_not, Bool.not_eq_true', Bool.not_eq_false', Bool.not_eq_true, Bool.not_eq_false, not_true_eq_false, beq_iff_eq, beq_eq_false_iff_ne, ne_eq, decide_eq_decide, true_iff, false_iff, iff_true, iff_false, true_and, and_true, false_or, or_false, Bool.and_true, Bool.and_eq_true, Bool.and_eq_false_iff, Bool.or_eq_true, Bool.or_eq_false_iff, List.length_cons, List.length_nil] at h) <;> (try (exfalso; first | omega | exact h rfl | (cases h; done) | exact absurd h (by assumption) | exact h (by assumption) | (simp at h; done)))) | refine ⟨⟨by (first | omega | (simp only [lenS]; omega)), by (first | omega | (simp only [lenS]; omega))⟩, _, by assumption, by rfl, ?_⟩ | refine .inl ⟨⟨by (first | omega | (simp only [lenS]; omega)), by (first | omega | (simp only [lenS]; omega))⟩, ?_⟩ | refine ⟨⟨by (first | omega | (simp only [lenS]; omega)), by (first | omega | (simp only [lenS]; omega))⟩, ?_⟩ | refine ⟨⟨by (first | omega | (simp only [lenS]; omega)), by (first | omega | (simp only [lenS]; omega)), by (first | omega | (simp only [lenS]; omega))⟩, ?_⟩ | refine ⟨.inl rfl, ?_⟩ | refine ⟨.inr (.inl (by (first | omega | (simp only [lenS]; omega)))), ?_⟩ | refine ⟨_, rfl, rfl, by (first | exact Nat.le_refl _ | exact Nat.le_of_ble_eq_true rfl | decide), ?_⟩ | refine ⟨_, rfl, by (first | exact Nat.le_refl _ | exact Nat.le_of_ble_eq_true rfl | decide), ?_⟩ | refine ⟨by (first | exact Nat.le_refl _ | exact Nat.le_of_ble_eq_true rfl | decide | exact rfl), ?_⟩ | refine ⟨show _ ≤ (9223372036854775807 : Nat) by (first | omega | (simp only [lenS]; omega)), ?_⟩ | refine ⟨show _ ≠ (0 : Int) by (first | omega | (simp only [lenS]; omega)), ?_⟩ | refine ⟨_, rfl, _, rfl, ?_⟩ | refine ⟨_, by assumption, Nat.le_of_ble_eq_true rfl, ?_⟩ | refine ⟨_, by assumption, _, rfl, ?_⟩ | refine ⟨_, rfl, ?_⟩ | fail)
                refine ⟨strsA (Q.map Prod.fst), [_], congrArg some (takeAll hlN), rfl, (show srcLen (.own 0 0 Q.length) _ from hlN), rfl, (by rw [hlN]; show (Q.length + 1) * 16 ≤ 140737488355328; omega), Nat.le_of_ble_eq_true rfl, Nat.le_of_ble_eq_true rfl, rfl, rfl, strsA_rows _, rowsOne rfl rfl, ?_⟩
                repeat' (first | refine PureC.use hc1 ?_ | refine PureC.use hc2 ?_ | refine PureC.use hc3 ?_ |                     refine ⟨fun _ => ?_, fun h => absurd h (by decide)⟩ | refine ⟨fun h => absurd h (by decide), fun _ => ?_⟩ | (refine ⟨fun h => ?_, fun h => ?_⟩ <;> (try simp only [decide_eq_true_eq, decide_eq_false_iff_not, Bool.not_eq_true', Bool.not_eq_false', Bool.not_eq_true, Bool.not_eq_false, not_true_eq_false, beq_iff_eq, beq_eq_false_iff_ne, ne_eq, decide_eq_decide, true_iff, false_iff, iff_true, iff_false, true_and, and_true, false_or, or_false, Bool.and_true, Bool.and_eq_true, Bool.and_eq_false_iff, Bool.or_eq_true, Bool.or_eq_false_iff, List.length_cons, List.length_nil] at h) <;> (try (exfalso; first | omega | exact h rfl | (cases h; done) | exact absurd h (by assumption) | exact h (by assumption) | (simp at h; done)))) | refine ⟨⟨by (first | omega | (simp only [lenS]; omega)), by (first | omega | (simp only [lenS]; omega))⟩, _, by assumption, by rfl, ?_⟩ | refine .inl ⟨⟨by (first | omega | (simp only [lenS]; omega)), by (first | omega | (simp only [lenS]; omega))⟩, ?_⟩ | refine ⟨⟨by (first | omega | (simp only [lenS]; omega)), by (first | omega | (simp only [lenS]; omega))⟩, ?_⟩ | refine ⟨⟨by (first | omega | (simp only [lenS]; omega)), by (first | omega | (simp only [lenS]; omega)), by (first | omega | (simp only [lenS]; omega))⟩, ?_⟩ | refine ⟨.inl rfl, ?_⟩ | refine ⟨.inr (.inl (by (first | omega | (simp only [lenS]; omega)))), ?_⟩ | refine ⟨_, rfl, rfl, by (first | exact Nat.le_refl _ | exact Nat.le_of_ble_eq_true rfl | decide), ?_⟩ | refine ⟨_, rfl, by (first | exact Nat.le_refl _ | exact Nat.le_of_ble_eq_true rfl | decide), ?_⟩ | refine ⟨by (first | exact Nat.le_refl _ | exact Nat.le_of_ble_eq_true rfl | decide | exact rfl), ?_⟩ | refine ⟨show _ ≤ (9223372036854775807 : Nat) by (first | omega | (simp only [lenS]; omega)), ?_⟩ | refine ⟨show _ ≠ (0 : Int) by (first | omega | (simp only [lenS]; omega)), ?_⟩ | refine ⟨_, rfl, _, rfl, ?_⟩ | refine ⟨_, by assumption, Nat.le_of_ble_eq_true rfl, ?_⟩ | refine ⟨_, by assumption, _, rfl, ?_⟩ | refine ⟨_, rfl, ?_⟩ | fail)
                refine ⟨strsA (Q.map Prod.snd), [_], congrArg some (takeAll hlV), rfl, (show srcLen (.own 1 0 Q.length) _ from hlV), rfl, (by rw [hlV]; show (Q.length + 1) * 16 ≤ 140737488355328; omega), Nat.le_of_ble_eq_true rfl, Nat.le_of_ble_eq_true rfl, rfl, rfl, strsA_rows _, rowsOne rfl rfl, ?_⟩
                repeat' (first | refine PureC.use hc1 ?_ | refine PureC.use hc2 ?_ | refine PureC.use hc3 ?_ |                     refine ⟨fun _ => ?_, fun h => absurd h (by decide)⟩ | refine ⟨fun h => absurd h (by decide), fun _ => ?_⟩ | (refine ⟨fun h => ?_, fun h => ?_⟩ <;> (try simp only [decide_eq_true_eq, decide_eq_false_iff_not, Bool.not_eq_true', Bool.not_eq_false', Bool.not_eq_true, Bool.not_eq_false, not_true_eq_false, beq_iff_eq, beq_eq_false_iff_ne, ne_eq, decide_eq_decide, true_iff, false_iff, iff_true, iff_false, true_and, and_true, false_or, or_false, Bool.and_true, Bool.and_eq_true, Bool.and_eq_false_iff, Bool.or_eq_true, Bool.or_eq_false_iff, List.length_cons, List.length_nil] at h) <;> (try (exfalso; first | omega | exact h rfl | (cases h; done) | exact absurd h (by assumption) | exact h (by assumption) | (simp at h; done)))) | refine ⟨⟨by (first | omega | (simp only [lenS]; omega)), by (first | omega | (simp only [lenS]; omega))⟩, _, by assumption, by rfl, ?_⟩ | refine .inl ⟨⟨by (first | omega | (simp only [lenS]; omega)), by (first | omega | (simp only [lenS]; omega))⟩, ?_⟩ | refine ⟨⟨by (first | omega | (simp only [lenS]; omega)), by (first | omega | (simp only [lenS]; omega))⟩, ?_⟩ | refine ⟨⟨by (first | omega | (simp only [lenS]; omega)), by (first | omega | (simp only [lenS]; omega)), by (first | omega | (simp only [lenS]; omega))⟩, ?_⟩ | refine ⟨.inl rfl, ?_⟩ | refine ⟨.inr (.inl (by (first | omega | (simp only [lenS]; omega)))), ?_⟩ | refine ⟨_, rfl, rfl, by (first | exact Nat.le_refl _ | exact Nat.le_of_ble_eq_true rfl | decide), ?_⟩ | refine ⟨_, rfl, by (first | exact Nat.le_refl _ | exact Nat.le_of_ble_eq_true rfl | decide), ?_⟩ | refine ⟨by (first | exact Nat.le_refl _ | exact Nat.le_of_ble_eq_true rfl | decide | exact rfl), ?_⟩ | refine ⟨show _ ≤ (9223372036854775807 : Nat) by (first | omega | (simp only [lenS]; omega)), ?_⟩ | refine ⟨show _ ≠ (0 : Int) by (first | omega | (simp only [lenS]; omega)), ?_⟩ | refine ⟨_, rfl, _, rfl, ?_⟩ | refine ⟨_, by assumption, Nat.le_of_ble_eq_true rfl, ?_⟩ | refine ⟨_, by assumption, _, rfl, ?_⟩ | refine ⟨_, rfl, ?_⟩ | fail)
                exact ⟨_, _, _, ⟨k + 1, rfl, hlt, rfl, rfl⟩, by omega, Mv.of [.old 3, .old 5] rfl rfl rfl (by rw [hkk, List.map_append, List.map_append]; exact ⟨⟨rfl, .inl ⟨hst2, strsA_pure _⟩⟩, ⟨rfl, .inl ⟨hst1, strsA_pure _⟩⟩, trivial⟩) (by rw [hkk]; exact ⟨rfl, ⟨rfl, rfl, by simp [strsA_len]⟩, ⟨rfl, rfl, by simp [strsA_len]⟩, rfl, rfl, trivial⟩)⟩
              | false =>
                rw [hv] at hc3
                rw [if_neg (by rw [hv]; exact Bool.false_ne_true), List.append_nil] at hkk
                repeat' (first | refine PureC.use hc1 ?_ | refine PureC.use hc2 ?_ | refine PureC.use hc3 ?_ |                     refine ⟨fun _ => ?_, fun h => absurd h (by decide)⟩ | refine ⟨fun h => absurd h (by decide), fun _ => ?_⟩ | (refine ⟨fun h => ?_, fun h => ?_⟩ <;> (try simp only [decide_eq_true_eq, decide_eq_false_iff_not, Bool.not_eq_true', Bool.not_eq_false', Bool.not_eq_true, Bool.not_eq_false, not_true_eq_false, beq_iff_eq, beq_eq_false_iff_ne, ne_eq, decide_eq_decide, true_iff, false_iff, iff_true, iff_false, true_and, and_true, false_or, or_false, Bool.and_true, Bool.and_eq_true, Bool.and_eq_false_iff, Bool.or_eq_true, Bool.or_eq_false_iff, List.length_cons, List.length_nil] at h) <;> (try (exfalso; first | omega | exact h rfl | (cases h; done) | exact absurd h (by assumption) | exact h (by assumption) | (simp at h; done)))) | refine ⟨⟨by (first | omega | (simp only [lenS]; omega)), by (first | omega | (simp only [lenS]; omega))⟩, _, by assumption, by rfl, ?_⟩ | refine .inl ⟨⟨by (first | omega | (simp only [lenS]; omega)), by (first | omega | (simp only [lenS]; omega))⟩, ?_⟩ | refine ⟨⟨by (first | omega | (simp only [lenS]; omega)), by (first | omega | (simp only [lenS]; omega))⟩, ?_⟩ | refine ⟨⟨by (first | omega | (simp only [lenS]; omega)), by (first | omega | (simp only [lenS]; omega)), by (first | omega | (simp only [lenS]; omega))⟩, ?_⟩ | refine ⟨.inl rfl, ?_⟩ | refine ⟨.inr (.inl (by (first | omega | (simp only [lenS]; omega)))), ?_⟩ | refine ⟨_, rfl, rfl, by (first | exact Nat.le_refl _ | exact Nat.le_of_ble_eq_true rfl | decide), ?_⟩ | refine ⟨_, rfl, by (first | exact Nat.le_refl _ | exact Nat.le_of_ble_eq_true rfl | decide), ?_⟩ | refine ⟨by (first | exact Nat.le_refl _ | exact Nat.le_of_ble_eq_true rfl | decide | exact rfl), ?_⟩ | refine ⟨show _ ≤ (9223372036854775807 : Nat) by (first | omega | (simp only [lenS]; omega)), ?_⟩ | refine ⟨show _ ≠ (0 : Int) by (first | omega | (simp only [lenS]; omega)), ?_⟩ | refine ⟨_, rfl, _, rfl, ?_⟩ | refine ⟨_, by assumption, Nat.le_of_ble_eq_true rfl, ?_⟩ | refine ⟨_, by assumption, _, rfl, ?_⟩ | refine ⟨_, rfl, ?_⟩ | fail)
                exact ⟨_, _, _, ⟨k + 1, rfl, hlt, rfl, rfl⟩, by omega, Mv.of [.old 0, .old 1] rfl rfl rfl (by rw [hkk]; exact ⟨⟨rfl, .inl ⟨rfl, strsA_pure _⟩⟩, ⟨rfl, .inl ⟨rfl, strsA_pure _⟩⟩, trivial⟩) (by rw [hkk]; exact ⟨rfl, ⟨rfl, rfl, rfl⟩, ⟨rfl, rfl, rfl⟩, rfl, rfl, trivial⟩)⟩
            · rw [decide_eq_false hin] at hkk ⊢
              rw [Bool.false_and, if_neg Bool.false_ne_true, List.append_nil] at hkk
              repeat' (first | refine PureC.use hc1 ?_ | refine PureC.use hc2 ?_ | refine PureC.use hc3 ?_ |                     refine ⟨fun _ => ?_, fun h => absurd h (by decide)⟩ | refine ⟨fun h => absurd h (by decide), fun _ => ?_⟩ | (refine ⟨fun h => ?_, fun h => ?_⟩ <;> (try simp only [decide_eq_true_eq, decide_eq_false_iff_not, Bool.not_eq_true', Bool.not_eq_false', Bool.not_eq_true, Bool.not_eq_false, not_true_eq_false, beq_iff_eq, beq_eq_false_iff_ne, ne_eq, decide_eq_decide, true_iff, false_iff, iff_true, iff_false, true_and, and_true, false_or, or_false, Bool.and_true, Bool.and_eq_true, Bool.and_eq_false_iff, Bool.or_eq_true, Bool.or_eq_false_iff, List.length_cons, List.length_nil] at h) <;> (try (exfalso; first | omega | exact h rfl | (cases h; done) | exact absurd h (by assumption) | exact h (by assumption) | (simp at h; done)))) | refine ⟨⟨by (first | omega | (simp only [lenS]; omega)), by (first | omega | (simp only [lenS]; omega))⟩, _, by assumption, by rfl, ?_⟩ | refine .inl ⟨⟨by (first | omega | (simp only [lenS]; omega)), by (first | omega | (simp only [lenS]; omega))⟩, ?_⟩ | refine ⟨⟨by (first | omega | (simp only [lenS]; omega)), by (first | omega | (simp only [lenS]; omega))⟩, ?_⟩ | refine ⟨⟨by (first | omega | (simp only [lenS]; omega)), by (first | omega | (simp only [lenS]; omega)), by (first | omega | (simp only [lenS]; omega))⟩, ?_⟩ | refine ⟨.inl rfl, ?_⟩ | refine ⟨.inr (.inl (by (first | omega | (simp only [lenS]; omega)))), ?_⟩ | refine ⟨_, rfl, rfl, by (first | exact Nat.le_refl _ | exact Nat.le_of_ble_eq_true rfl | decide), ?_⟩ | refine ⟨_, rfl, by (first | exact Nat.le_refl _ | exact Nat.le_of_ble_eq_true rfl | decide), ?_⟩ | refine ⟨by (first | exact Nat.le_refl _ | exact Nat.le_of_ble_eq_true rfl | decide | exact rfl), ?_⟩ | refine ⟨show _ ≤ (9223372036854775807 : Nat) by (first | omega | (simp only [lenS]; omega)), ?_⟩ | refine ⟨show _ ≠ (0 : Int) by (first | omega | (simp only [lenS]; omega)), ?_⟩ | refine ⟨_, rfl, _, rfl, ?_⟩ | refine ⟨_, by assumption, Nat.le_of_ble_eq_true rfl, ?_⟩ | refine ⟨_, by assumption, _, rfl, ?_⟩ | refine ⟨_, rfl, ?_⟩ | fail)
              exact ⟨_, _, _, ⟨k + 1, rfl, hlt, rfl, rfl⟩, by omega, Mv.of [.old 0, .old 1] rfl rfl rfl (by rw [hkk]; exact ⟨⟨rfl, .inl ⟨rfl, strsA_pure _⟩⟩, ⟨rfl, .inl ⟨rfl, strsA_pure _⟩⟩, trivial⟩) (by rw [hkk]; exact ⟨rfl, ⟨rfl, rfl, rfl⟩, ⟨rfl, rfl, rfl⟩, rfl, rfl, trivial⟩)⟩
        · have hgc : ¬ ((p.getD ((j : Nat) : Int).toNat 0).toNat : Int) = 58 := fun e => hch (by rw [hgj] at e; exact UInt8.toNat_inj.1 (by have : (58 : UInt8).toNat = 58 := rfl; omega))
          have hno2 : (58 : UInt8) ∉ p.take (j + 1) := by
            rw [List.take_succ_eq_append_getElem hjl, List.mem_append, List.mem_singleton]
            exact fun h => h.elim hno (fun e => hch e.symm)
          repeat' (first | refine PureC.use hc1 ?_ | refine PureC.use hc2 ?_ | refine PureC.use hc3 ?_ |                     refine ⟨fun _ => ?_, fun h => absurd h (by decide)⟩ | refine ⟨fun h => absurd h (by decide), fun _ => ?_⟩ | (refine ⟨fun h => ?_, fun h => ?_⟩ <;> (try simp only [decide_eq_true_eq, decide_eq_false_iff_not, Bool.not_eq_true', Bool.not_eq_false', Bool.not_eq_true, Bool.not_eq_false, not_true_eq_false, beq_iff_eq, beq_eq_false_iff_ne, ne_eq, decide_eq_decide, true_iff, false_iff, iff_true, iff_false, true_and, and_true, false_or, or_false, Bool.and_true, Bool.and_eq_true, Bool.and_eq_false_iff, Bool.or_eq_true, Bool.or_eq_false_iff, List.length_cons, List.length_nil] at h) <;> (try (exfalso; first | omega | exact h rfl | (cases h; done) | exact absurd h (by assumption) | exact h (by assumption) | (simp at h; done)))) | refine ⟨⟨by (first | omega | (simp only [lenS]; omega)), by (first | omega | (simp only [lenS]; omega))⟩, _, by assumption, by rfl, ?_⟩ | refine .inl ⟨⟨by (first | omega | (simp only [lenS]; omega)), by (first | omega | (simp only [lenS]; omega))⟩, ?_⟩ | refine ⟨⟨by (first | omega | (simp only [lenS]; omega)), by (first | omega | (simp only [lenS]; omega))⟩, ?_⟩ | refine ⟨⟨by (first | omega | (simp only [lenS]; omega)), by (first | omega | (simp only [lenS]; omega)), by (first | omega | (simp only [lenS]; omega))⟩, ?_⟩ | refine ⟨.inl rfl, ?_⟩ | refine ⟨.inr (.inl (by (first | omega | (simp only [lenS]; omega)))), ?_⟩ | refine ⟨_, rfl, rfl, by (first | exact Nat.le_refl _ | exact Nat.le_of_ble_eq_true rfl | decide), ?_⟩ | refine ⟨_, rfl, by (first | exact Nat.le_refl _ | exact Nat.le_of_ble_eq_true rfl | decide), ?_⟩ | refine ⟨by (first | exact Nat.le_refl _ | exact Nat.le_of_ble_eq_true rfl | decide | exact rfl), ?_⟩ | refine ⟨show _ ≤ (9223372036854775807 : Nat) by (first | omega | (simp only [lenS]; omega)), ?_⟩ | refine ⟨show _ ≠ (0 : Int) by (first | omega | (simp only [lenS]; omega)), ?_⟩ | refine ⟨_, rfl, _, rfl, ?_⟩ | refine ⟨_, by assumption, Nat.le_of_ble_eq_true rfl, ?_⟩ | refine ⟨_, by assumption, _, rfl, ?_⟩ | refine ⟨_, rfl, ?_⟩ | fail)
          exact ⟨_, _, _, ⟨j + 1, rfl, hjl, hno2, rfl, rfl⟩, by omega, Mv.of [.old 0, .old 1] rfl rfl rfl ⟨⟨rfl, .inl ⟨rfl, strsA_pure _⟩⟩, ⟨rfl, .inl ⟨rfl, strsA_pure _⟩⟩, trivial⟩ ⟨rfl, ⟨rfl, rfl, rfl⟩, ⟨rfl, rfl, rfl⟩, rfl, rfl, rfl, trivial⟩⟩
      · have hj' : j = p.length := by omega
        subst hj'
        rw [List.take_length] at hno
        have hkk := hkn (cutAt_none hno)
        repeat' (first | refine PureC.use hc1 ?_ | refine PureC.use hc2 ?_ | refine PureC.use hc3 ?_ |                     refine ⟨fun _ => ?_, fun h => absurd h (by decide)⟩ | refine ⟨fun h => absurd h (by decide), fun _ => ?_⟩ | (refine ⟨fun h => ?_, fun h => ?_⟩ <;> (try simp only [decide_eq_true_eq, decide_eq_false_iff_not, Bool.not_eq_true', Bool.not_eq_false', Bool.not_eq_true, Bool.not_eq_false, not_true_eq_false, beq_iff_eq, beq_eq_false_iff_ne, ne_eq, decide_eq_decide, true_iff, false_iff, iff_true, iff_false, true_and, and_true, false_or, or_false, Bool.and_true, Bool.and_eq_true, Bool.and_eq_false_iff, Bool.or_eq_true, Bool.or_eq_false_iff, List.length_cons, List.length_nil] at h) <;> (try (exfalso; first | omega | exact h rfl | (cases h; done) | exact absurd h (by assumption) | exact h (by assumption) | (simp at h; done)))) | refine ⟨⟨by (first | omega | (simp only [lenS]; omega)), by (first | omega | (simp only [lenS]; omega))⟩, _, by assumption, by rfl, ?_⟩ | refine .inl ⟨⟨by (first | omega | (simp only [lenS]; omega)), by (first | omega | (simp only [lenS]; omega))⟩, ?_⟩ | refine ⟨⟨by (first | omega | (simp only [lenS]; omega)), by (first | omega | (simp only [lenS]; omega))⟩, ?_⟩ | refine ⟨⟨by (first | omega | (simp only [lenS]; omega)), by (first | omega | (simp only [lenS]; omega)), by (first | omega | (simp only [lenS]; omega))⟩, ?_⟩ | refine ⟨.inl rfl, ?_⟩ | refine ⟨.inr (.inl (by (first | omega | (simp only [lenS]; omega)))), ?_⟩ | refine ⟨_, rfl, rfl, by (first | exact Nat.le_refl _ | exact Nat.le_of_ble_eq_true rfl | decide), ?_⟩ | refine ⟨_, rfl, by (first | exact Nat.le_refl _ | exact Nat.le_of_ble_eq_true rfl | decide), ?_⟩ | refine ⟨by (first | exact Nat.le_refl _ | exact Nat.le_of_ble_eq_true rfl | decide | exact rfl), ?_⟩ | refine ⟨show _ ≤ (9223372036854775807 : Nat) by (first | omega | (simp only [lenS]; omega)), ?_⟩ | refine ⟨show _ ≠ (0 : Int) by (first | omega | (simp only [lenS]; omega)), ?_⟩ | refine ⟨_, rfl, _, rfl, ?_⟩ | refine ⟨_, by assumption, Nat.le_of_ble_eq_true rfl, ?_⟩ | refine ⟨_, by assumption, _, rfl, ?_⟩ | refine ⟨_, rfl, ?_⟩ | fail)
        exact ⟨_, _, _, ⟨k + 1, rfl, hlt, rfl, rfl⟩, by omega, Mv.of [.old 0, .old 1] rfl rfl rfl (by rw [hkk]; exact ⟨⟨rfl, .inl ⟨rfl, strsA_pure _⟩⟩, ⟨rfl, .inl ⟨rfl, strsA_pure _⟩⟩, trivial⟩) (by rw [hkk]; exact ⟨rfl, ⟨rfl, rfl, rfl⟩, ⟨rfl, rfl, rfl⟩, rfl, rfl, trivial⟩)⟩
    · have hk' : k = ps.length := by omega
      subst hk'
      rw [List.take_length]
      repeat' (first | refine PureC.use hc1 ?_ | refine PureC.use hc2 ?_ | refine PureC.use hc3 ?_ |                     refine ⟨fun _ => ?_, fun h => absurd h (by decide)⟩ | refine ⟨fun h => absurd h (by decide), fun _ => ?_⟩ | (refine ⟨fun h => ?_, fun h => ?_⟩ <;> (try simp only [decide_eq_true_eq, decide_eq_false_iff_not, Bool.not_eq_true', Bool.not_eq_false', Bool.not_eq_true, Bool.not_eq_false, not_true_eq_false, beq_iff_eq, beq_eq_false_iff_ne, ne_eq, decide_eq_decide, true_iff, false_iff, iff_true, iff_false, true_and, and_true, false_or, or_false, Bool.and_true, Bool.and_eq_true, Bool.and_eq_false_iff, Bool.or_eq_true, Bool.or_eq_false_iff, List.length_cons, List.length_nil] at h) <;> (try (exfalso; first | omega | exact h rfl | (cases h; done) | exact absurd h (by assumption) | exact h (by assumption) | (simp at h; done)))) | refine ⟨⟨by (first | omega | (simp only [lenS]; omega)), by (first | omega | (simp only [lenS]; omega))⟩, _, by assumption, by rfl, ?_⟩ | refine .inl ⟨⟨by (first | omega | (simp only [lenS]; omega)), by (first | omega | (simp only [lenS]; omega))⟩, ?_⟩ | refine ⟨⟨by (first | omega | (simp only [lenS]; omega)), by (first | omega | (simp only [lenS]; omega))⟩, ?_⟩ | refine ⟨⟨by (first | omega | (simp only [lenS]; omega)), by (first | omega | (simp only [lenS]; omega)), by (first | omega | (simp only [lenS]; omega))⟩, ?_⟩ | refine ⟨.inl rfl, ?_⟩ | refine ⟨.inr (.inl (by (first | omega | (simp only [lenS]; omega)))), ?_⟩ | refine ⟨_, rfl, rfl, by (first | exact Nat.le_refl _ | exact Nat.le_of_ble_eq_true rfl | decide), ?_⟩ | refine ⟨_, rfl, by (first | exact Nat.le_refl _ | exact Nat.le_of_ble_eq_true rfl | decide), ?_⟩ | refine ⟨by (first | exact Nat.le_refl _ | exact Nat.le_of_ble_eq_true rfl | decide | exact rfl), ?_⟩ | refine ⟨show _ ≤ (9223372036854775807 : Nat) by (first | omega | (simp only [lenS]; omega)), ?_⟩ | refine ⟨show _ ≠ (0 : Int) by (first | omega | (simp only [lenS]; omega)), ?_⟩ | refine ⟨_, rfl, _, rfl, ?_⟩ | refine ⟨_, by assumption, Nat.le_of_ble_eq_true rfl, ?_⟩ | refine ⟨_, by assumption, _, rfl, ?_⟩ | refine ⟨_, rfl, ?_⟩ | fail)
      exact ⟨_, _, ⟨rfl, rfl⟩, Mv.of [.old 0, .old 1] rfl rfl rfl ⟨⟨rfl, .inl ⟨rfl, strsA_pure _⟩⟩, ⟨rfl, .inl ⟨rfl, strsA_pure _⟩⟩, trivial⟩ ⟨⟨rfl, rfl, rfl⟩, ⟨rfl, rfl, rfl⟩, trivial⟩⟩
  · rintro _ _ ⟨rfl, rfl⟩
    have hKl := keptL_len props ps
    rw [← sumB_join]
    generalize keptL props ps = K at *
    refine E.fm (s' := [(5, .d (.sl (strsD (K.map Prod.fst)))), (6, .d (.sl (strsD (K.map Prod.snd))))]) (σ' := ⟨2, [(1, .dead), (0, .dead), (1, .rows (1, 9) (strsA (K.map Prod.snd))), (0, .rows (1, 9) (strsA (K.map Prod.fst)))]⟩) (two_data (K.map Prod.fst) (K.map Prod.snd) K.length (by rw [List.length_map]) (by rw [List.length_map])) ?_
    refine E.seq (E.of Tryd.wf Tryd.tab_ok ?_)
    refine midT Tryd.wf Tryd.tab_ok (fun s' σ => s' = [(14, .d (.str (sumB [] K)))] ∧ σ = ⟨0, []⟩) ?_ ?_
    · have hnN : (strsD (K.map Prod.fst)).length = K.length := by rw [strsD_len, List.length_map]
      have hnV : (strsD (K.map Prod.snd)).length = K.length := by rw [strsD_len, List.length_map]
      refine loopT Tryd.wf Tryd.tab_ok (fun n s' σ => ∃ (i : Nat) (out : List UInt8), n = K.length - i ∧ i ≤ K.length ∧ out.length ≤ i * (s.length + 4) ∧ sumB out (K.drop i) = sumB [] K ∧ s' = [(5, .d (.sl (strsD (K.map Prod.fst)))), (6, .d (.sl (strsD (K.map Prod.snd)))), (14, .d (.str out)), (15, .d (.int .i64 i))] ∧ σ = ⟨0, []⟩)
        ⟨0, [], rfl, Nat.zero_le _, Nat.zero_le _, rfl, rfl, rfl⟩ (Mv.of [] rfl rfl rfl trivial ⟨rfl, rfl, rfl, rfl, trivial⟩) ?_
      rintro _ _ _ ⟨i, out, rfl, hi, hob, hI, rfl, rfl⟩
      by_cases hlt : i < K.length
      · have hgN := pairD_get Prod.fst K i hlt
        have hgV := pairD_get Prod.snd K i hlt
        have hdr := List.drop_eq_getElem_cons hlt
        have hKi := hKb K[i] (List.getElem_mem hlt)
        have hbig : i * (s.length + 4) ≤ 100002 * 100004 := Nat.mul_le_mul (by omega) (by omega)
        have hnx : (i + 1) * (s.length + 4) = i * (s.length + 4) + (s.length + 4) := Nat.succ_mul _ _
        have htx : (txtB K[i]).length = K[i].1.length + 2 + K[i].2.length := by simp [txtB]; omega
        rw [hdr, sumB] at hI
        repeat' (first | refine PureC.use hc1 ?_ | refine PureC.use hc2 ?_ | refine PureC.use hc3 ?_ |                     refine ⟨fun _ => ?_, fun h => absurd h (by decide)⟩ | refine ⟨fun h => absurd h (by decide), fun _ => ?_⟩ | (refine ⟨fun h => ?_, fun h => ?_⟩ <;> (try simp only [decide_eq_true_eq, decide_eq_false_iff_not, Bool.not_eq_true', Bool.not_eq_false', Bool.not_eq_true, Bool.not_eq_false, not_true_eq_false, beq_iff_eq, beq_eq_false_iff_ne, ne_eq, decide_eq_decide, true_iff, false_iff, iff_true, iff_false, true_and, and_true, false_or, or_false, Bool.and_true, Bool.and_eq_true, Bool.and_eq_false_iff, Bool.or_eq_true, Bool.or_eq_false_iff, List.length_cons, List.length_nil] at h) <;> (try (exfalso; first | omega | exact h rfl | (cases h; done) | exact absurd h (by assumption) | exact h (by assumption) | (simp at h; done)))) | refine ⟨⟨by (first | omega | (simp only [lenS]; omega)), by (first | omega | (simp only [lenS]; omega))⟩, _, by assumption, by rfl, ?_⟩ | refine .inl ⟨⟨by (first | omega | (simp only [lenS]; omega)), by (first | omega | (simp only [lenS]; omega))⟩, ?_⟩ | refine ⟨⟨by (first | omega | (simp only [lenS]; omega)), by (first | omega | (simp only [lenS]; omega))⟩, ?_⟩ | refine ⟨⟨by (first | omega | (simp only [lenS]; omega)), by (first | omega | (simp only [lenS]; omega)), by (first | omega | (simp only [lenS]; omega))⟩, ?_⟩ | refine ⟨.inl rfl, ?_⟩ | refine ⟨.inr (.inl (by (first | omega | (simp only [lenS]; omega)))), ?_⟩ | refine ⟨_, rfl, rfl, by (first | exact Nat.le_refl _ | exact Nat.le_of_ble_eq_true rfl | decide), ?_⟩ | refine ⟨_, rfl, by (first | exact Nat.le_refl _ | exact Nat.le_of_ble_eq_true rfl | decide), ?_⟩ | refine ⟨by (first | exact Nat.le_refl _ | exact Nat.le_of_ble_eq_true rfl | decide | exact rfl), ?_⟩ | refine ⟨show _ ≤ (9223372036854775807 : Nat) by (first | omega | (simp only [lenS]; omega)), ?_⟩ | refine ⟨show _ ≠ (0 : Int) by (first | omega | (simp only [lenS]; omega)), ?_⟩ | refine ⟨_, rfl, _, rfl, ?_⟩ | refine ⟨_, by assumption, Nat.le_of_ble_eq_true rfl, ?_⟩ | refine ⟨_, by assumption, _, rfl, ?_⟩ | refine ⟨_, rfl, ?_⟩ | fail)
        refine loopT Tryd.wf Tryd.tab_ok (fun n s' σ => ∃ j : Nat, n = K.length - j ∧ i + 1 ≤ j ∧ j ≤ K.length ∧ s' = [(5, .d (.sl (strsD (K.map Prod.fst)))), (6, .d (.sl (strsD (K.map Prod.snd)))), (14, .d (.str out)), (15, .d (.int .i64 i)), (16, .d (.bool (!decide (K[i].1 ∈ ((K.take j).drop (i + 1)).map Prod.fst)))), (17, .d (.int .i64 j))] ∧ σ = ⟨0, []⟩)
          (s0 := [(5, .d (.sl (strsD (K.map Prod.fst)))), (6, .d (.sl (strsD (K.map Prod.snd)))), (14, .d (.str out)), (15, .d (.int .i64 i)), (16, .d (.bool (!decide (K[i].1 ∈ ((K.take (i + 1)).drop (i + 1)).map Prod.fst)))), (17, .d (.int .i64 ((i + 1 : Nat) : Int)))]) (σ0 := ⟨0, []⟩)
          ⟨i + 1, rfl, Nat.le_refl _, hlt, rfl, rfl⟩ (Mv.of [] rfl rfl rfl trivial ⟨rfl, rfl, rfl, rfl, congrArg D.bool (by simp), rfl, trivial⟩) ?_
        rintro _ _ _ ⟨j, rfl, hij, hj, rfl, rfl⟩
        by_cases hjl : j < K.length
        · have hgj := pairD_get Prod.fst K j hjl
          have hmem : K[i].1 ∈ ((K.take (j + 1)).drop (i + 1)).map Prod.fst ↔ K[i].1 ∈ ((K.take j).drop (i + 1)).map Prod.fst ∨ K[j].1 = K[i].1 := by
            rw [List.take_succ_eq_append_getElem hjl, List.drop_append_of_le_length (by rw [List.length_take]; omega), List.map_append, List.mem_append]
            simp only [List.map_cons, List.map_nil, List.mem_singleton]
            exact ⟨fun h => h.imp id Eq.symm, fun h => h.imp id Eq.symm⟩
          by_cases hin : K[i].1 ∈ ((K.take j).drop (i + 1)).map Prod.fst
          · rw [decide_eq_true hin, Bool.not_true]
            repeat' (first | refine PureC.use hc1 ?_ | refine PureC.use hc2 ?_ | refine PureC.use hc3 ?_ |                     refine ⟨fun _ => ?_, fun h => absurd h (by decide)⟩ | refine ⟨fun h => absurd h (by decide), fun _ => ?_⟩ | (refine ⟨fun h => ?_, fun h => ?_⟩ <;> (try simp only [decide_eq_true_eq, decide_eq_false_iff_not, Bool.not_eq_true', Bool.not_eq_false', Bool.not_eq_true, Bool.not_eq_false, not_true_eq_false, beq_iff_eq, beq_eq_false_iff_ne, ne_eq, decide_eq_decide, true_iff, false_iff, iff_true, iff_false, true_and, and_true, false_or, or_false, Bool.and_true, Bool.and_eq_true, Bool.and_eq_false_iff, Bool.or_eq_true, Bool.or_eq_false_iff, List.length_cons, List.length_nil] at h) <;> (try (exfalso; first | omega | exact h rfl | (cases h; done) | exact absurd h (by assumption) | exact h (by assumption) | (simp at h; done)))) | refine ⟨⟨by (first | omega | (simp only [lenS]; omega)), by (first | omega | (simp only [lenS]; omega))⟩, _, by assumption, by rfl, ?_⟩ | refine .inl ⟨⟨by (first | omega | (simp only [lenS]; omega)), by (first | omega | (simp only [lenS]; omega))⟩, ?_⟩ | refine ⟨⟨by (first | omega | (simp only [lenS]; omega)), by (first | omega | (simp only [lenS]; omega))⟩, ?_⟩ | refine ⟨⟨by (first | omega | (simp only [lenS]; omega)), by (first | omega | (simp only [lenS]; omega)), by (first | omega | (simp only [lenS]; omega))⟩, ?_⟩ | refine ⟨.inl rfl, ?_⟩ | refine ⟨.inr (.inl (by (first | omega | (simp only [lenS]; omega)))), ?_⟩ | refine ⟨_, rfl, rfl, by (first | exact Nat.le_refl _ | exact Nat.le_of_ble_eq_true rfl | decide), ?_⟩ | refine ⟨_, rfl, by (first | exact Nat.le_refl _ | exact Nat.le_of_ble_eq_true rfl | decide), ?_⟩ | refine ⟨by (first | exact Nat.le_refl _ | exact Nat.le_of_ble_eq_true rfl | decide | exact rfl), ?_⟩ | refine ⟨show _ ≤ (9223372036854775807 : Nat) by (first | omega | (simp only [lenS]; omega)), ?_⟩ | refine ⟨show _ ≠ (0 : Int) by (first | omega | (simp only [lenS]; omega)), ?_⟩ | refine ⟨_, rfl, _, rfl, ?_⟩ | refine ⟨_, by assumption, Nat.le_of_ble_eq_true rfl, ?_⟩ | refine ⟨_, by assumption, _, rfl, ?_⟩ | refine ⟨_, rfl, ?_⟩ | fail)
            refine drawnT Tryd.wf Tryd.tab_ok Tryd.mixed (by decide +kernel) ?_; repeat' (first |       refine qskip rfl rfl ?_ | refine qstep (r := .d (.bool true)) rfl rfl (fin_eq (congrArg (fun b => AV.d (.bool b)) (decide_eq_true (by omega)))) ?_ | refine qstep (r := .d (.bool false)) rfl rfl (fin_eq (congrArg (fun b => AV.d (.bool b)) (decide_eq_false (by omega)))) ?_ | refine qstep rfl rfl ⟨fun _ => FinMove.refl _ _ _, fun h => absurd h (by decide)⟩ ?_ | refine qstep rfl rfl ⟨fun h => absurd h (by decide), fun _ => FinMove.refl _ _ _⟩ ?_ | refine qstep rfl rfl (FinMove.refl _ _ _) ?_ |     refine qstep rfl rfl (PureC.use hc1 (FinMove.refl _ _ _)) ?_ | refine qstep rfl rfl (PureC.use hc2 (FinMove.refl _ _ _)) ?_ | refine qstep rfl rfl (PureC.use hc3 (FinMove.refl _ _ _)) ?_ |      refine qstep rfl rfl ⟨⟨by (first | omega | (simp only [lenS]; omega)), by (first | omega | (simp only [lenS]; omega))⟩, _, by assumption, by rfl, FinMove.refl _ _ _⟩ ?_ | refine qstep rfl rfl (.inl ⟨⟨by (first | omega | (simp only [lenS]; omega)), by (first | omega | (simp only [lenS]; omega))⟩, FinMove.refl _ _ _⟩) ?_ | refine qstep rfl rfl ⟨⟨by (first | omega | (simp only [lenS]; omega)), by (first | omega | (simp only [lenS]; omega))⟩, FinMove.refl _ _ _⟩ ?_ | refine qstep rfl rfl ⟨⟨by (first | omega | (simp only [lenS]; omega)), by (first | omega | (simp only [lenS]; omega)), by (first | omega | (simp only [lenS]; omega))⟩, FinMove.refl _ _ _⟩ ?_ | refine qstep rfl rfl ⟨⟨by (first | omega | (simp only [lenS]; omega)), by (first | omega | (simp only [lenS]; omega)), by (first | omega | (simp only [lenS]; omega))⟩, .inl rfl, FinMove.refl _ _ _⟩ ?_ | refine qstep rfl rfl ⟨_, rfl, _, rfl, FinMove.refl _ _ _⟩ ?_ | refine qstep rfl rfl ⟨_, rfl, FinMove.refl _ _ _⟩ ?_ | refine qstep rfl rfl ⟨_, rfl, Nat.le_refl _, FinMove.refl _ _ _⟩ ?_ | refine qstep rfl rfl ⟨Nat.le_refl _, FinMove.refl _ _ _⟩ ?_ | refine qstep rfl rfl ⟨by decide, FinMove.refl _ _ _⟩ ?_ | refine qstep rfl rfl ⟨show _ ≤ (9223372036854775807 : Nat) by (first | omega | (simp only [lenS]; omega)), FinMove.refl _ _ _⟩ ?_ | fail)
            repeat' (first | refine PureC.use hc1 ?_ | refine PureC.use hc2 ?_ | refine PureC.use hc3 ?_ |                     refine ⟨fun _ => ?_, fun h => absurd h (by decide)⟩ | refine ⟨fun h => absurd h (by decide), fun _ => ?_⟩ | (refine ⟨fun h => ?_, fun h => ?_⟩ <;> (try simp only [decide_eq_true_eq, decide_eq_false_iff_not, Bool.not_eq_true', Bool.not_eq_false', Bool.not_eq_true, Bool.not_eq_false, not_true_eq_false, beq_iff_eq, beq_eq_false_iff_ne, ne_eq, decide_eq_decide, true_iff, false_iff, iff_true, iff_false, true_and, and_true, false_or, or_false, Bool.and_true, Bool.and_eq_true, Bool.and_eq_false_iff, Bool.or_eq_true, Bool.or_eq_false_iff, List.length_cons, List.length_nil] at h) <;> (try (exfalso; first | omega | exact h rfl | (cases h; done) | exact absurd h (by assumption) | exact h (by assumption) | (simp at h; done)))) | refine ⟨⟨by (first | omega | (simp only [lenS]; omega)), by (first | omega | (simp only [lenS]; omega))⟩, _, by assumption, by rfl, ?_⟩ | refine .inl ⟨⟨by (first | omega | (simp only [lenS]; omega)), by (first | omega | (simp only [lenS]; omega))⟩, ?_⟩ | refine ⟨⟨by (first | omega | (simp only [lenS]; omega)), by (first | omega | (simp only [lenS]; omega))⟩, ?_⟩ | refine ⟨⟨by (first | omega | (simp only [lenS]; omega)), by (first | omega | (simp only [lenS]; omega)), by (first | omega | (simp only [lenS]; omega))⟩, ?_⟩ | refine ⟨.inl rfl, ?_⟩ | refine ⟨.inr (.inl (by (first | omega | (simp only [lenS]; omega)))), ?_⟩ | refine ⟨_, rfl, rfl, by (first | exact Nat.le_refl _ | exact Nat.le_of_ble_eq_true rfl | decide), ?_⟩ | refine ⟨_, rfl, by (first | exact Nat.le_refl _ | exact Nat.le_of_ble_eq_true rfl | decide), ?_⟩ | refine ⟨by (first | exact Nat.le_refl _ | exact Nat.le_of_ble_eq_true rfl | decide | exact rfl), ?_⟩ | refine ⟨show _ ≤ (9223372036854775807 : Nat) by (first | omega | (simp only [lenS]; omega)), ?_⟩ | refine ⟨show _ ≠ (0 : Int) by (first | omega | (simp only [lenS]; omega)), ?_⟩ | refine ⟨_, rfl, _, rfl, ?_⟩ | refine ⟨_, by assumption, Nat.le_of_ble_eq_true rfl, ?_⟩ | refine ⟨_, by assumption, _, rfl, ?_⟩ | refine ⟨_, rfl, ?_⟩ | fail)
            exact ⟨_, _, _, ⟨j + 1, rfl, by omega, hjl, rfl, rfl⟩, by omega, Mv.of [] rfl rfl rfl trivial ⟨rfl, rfl, rfl, rfl, congrArg D.bool (by rw [decide_eq_true (hmem.2 (.inl hin))]; rfl), rfl, trivial⟩⟩
          · rw [decide_eq_false hin, Bool.not_false]
            repeat' (first | refine PureC.use hc1 ?_ | refine PureC.use hc2 ?_ | refine PureC.use hc3 ?_ |                     refine ⟨fun _ => ?_, fun h => absurd h (by decide)⟩ | refine ⟨fun h => absurd h (by decide), fun _ => ?_⟩ | (refine ⟨fun h => ?_, fun h => ?_⟩ <;> (try simp only [decide_eq_true_eq, decide_eq_false_iff_not, Bool.not_eq_true', Bool.not_eq_false', Bool.not_eq_true, Bool.not_eq_false, not_true_eq_false, beq_iff_eq, beq_eq_false_iff_ne, ne_eq, decide_eq_decide, true_iff, false_iff, iff_true, iff_false, true_and, and_true, false_or, or_false, Bool.and_true, Bool.and_eq_true, Bool.and_eq_false_iff, Bool.or_eq_true, Bool.or_eq_false_iff, List.length_cons, List.length_nil] at h) <;> (try (exfalso; first | omega | exact h rfl | (cases h; done) | exact absurd h (by assumption) | exact h (by assumption) | (simp at h; done)))) | refine ⟨⟨by (first | omega | (simp only [lenS]; omega)), by (first | omega | (simp only [lenS]; omega))⟩, _, by assumption, by rfl, ?_⟩ | refine .inl ⟨⟨by (first | omega | (simp only [lenS]; omega)), by (first | omega | (simp only [lenS]; omega))⟩, ?_⟩ | refine ⟨⟨by (first | omega | (simp only [lenS]; omega)), by (first | omega | (simp only [lenS]; omega))⟩, ?_⟩ | refine ⟨⟨by (first | omega | (simp only [lenS]; omega)), by (first | omega | (simp only [lenS]; omega)), by (first | omega | (simp only [lenS]; omega))⟩, ?_⟩ | refine ⟨.inl rfl, ?_⟩ | refine ⟨.inr (.inl (by (first | omega | (simp only [lenS]; omega)))), ?_⟩ | refine ⟨_, rfl, rfl, by (first | exact Nat.le_refl _ | exact Nat.le_of_ble_eq_true rfl | decide), ?_⟩ | refine ⟨_, rfl, by (first | exact Nat.le_refl _ | exact Nat.le_of_ble_eq_true rfl | decide), ?_⟩ | refine ⟨by (first | exact Nat.le_refl _ | exact Nat.le_of_ble_eq_true rfl | decide | exact rfl), ?_⟩ | refine ⟨show _ ≤ (9223372036854775807 : Nat) by (first | omega | (simp only [lenS]; omega)), ?_⟩ | refine ⟨show _ ≠ (0 : Int) by (first | omega | (simp only [lenS]; omega)), ?_⟩ | refine ⟨_, rfl, _, rfl, ?_⟩ | refine ⟨_, by assumption, Nat.le_of_ble_eq_true rfl, ?_⟩ | refine ⟨_, by assumption, _, rfl, ?_⟩ | refine ⟨_, rfl, ?_⟩ | fail)
            refine drawnT Tryd.wf Tryd.tab_ok Tryd.mixed (by decide +kernel) ?_; repeat' (first |       refine qskip rfl rfl ?_ | refine qstep (r := .d (.bool true)) rfl rfl (fin_eq (congrArg (fun b => AV.d (.bool b)) (decide_eq_true (by omega)))) ?_ | refine qstep (r := .d (.bool false)) rfl rfl (fin_eq (congrArg (fun b => AV.d (.bool b)) (decide_eq_false (by omega)))) ?_ | refine qstep rfl rfl ⟨fun _ => FinMove.refl _ _ _, fun h => absurd h (by decide)⟩ ?_ | refine qstep rfl rfl ⟨fun h => absurd h (by decide), fun _ => FinMove.refl _ _ _⟩ ?_ | refine qstep rfl rfl (FinMove.refl _ _ _) ?_ |     refine qstep rfl rfl (PureC.use hc1 (FinMove.refl _ _ _)) ?_ | refine qstep rfl rfl (PureC.use hc2 (FinMove.refl _ _ _)) ?_ | refine qstep rfl rfl (PureC.use hc3 (FinMove.refl _ _ _)) ?_ |      refine qstep rfl rfl ⟨⟨by (first | omega | (simp only [lenS]; omega)), by (first | omega | (simp only [lenS]; omega))⟩, _, by assumption, by rfl, FinMove.refl _ _ _⟩ ?_ | refine qstep rfl rfl (.inl ⟨⟨by (first | omega | (simp only [lenS]; omega)), by (first | omega | (simp only [lenS]; omega))⟩, FinMove.refl _ _ _⟩) ?_ | refine qstep rfl rfl ⟨⟨by (first | omega | (simp only [lenS]; omega)), by (first | omega | (simp only [lenS]; omega))⟩, FinMove.refl _ _ _⟩ ?_ | refine qstep rfl rfl ⟨⟨by (first | omega | (simp only [lenS]; omega)), by (first | omega | (simp only [lenS]; omega)), by (first | omega | (simp only [lenS]; omega))⟩, FinMove.refl _ _ _⟩ ?_ | refine qstep rfl rfl ⟨⟨by (first | omega | (simp only [lenS]; omega)), by (first | omega | (simp only [lenS]; omega)), by (first | omega | (simp only [lenS]; omega))⟩, .inl rfl, FinMove.refl _ _ _⟩ ?_ | refine qstep rfl rfl ⟨_, rfl, _, rfl, FinMove.refl _ _ _⟩ ?_ | refine qstep rfl rfl ⟨_, rfl, FinMove.refl _ _ _⟩ ?_ | refine qstep rfl rfl ⟨_, rfl, Nat.le_refl _, FinMove.refl _ _ _⟩ ?_ | refine qstep rfl rfl ⟨Nat.le_refl _, FinMove.refl _ _ _⟩ ?_ | refine qstep rfl rfl ⟨by decide, FinMove.refl _ _ _⟩ ?_ | refine qstep rfl rfl ⟨show _ ≤ (9223372036854775807 : Nat) by (first | omega | (simp only [lenS]; omega)), FinMove.refl _ _ _⟩ ?_ | fail)
            repeat' (first | refine PureC.use hc1 ?_ | refine PureC.use hc2 ?_ | refine PureC.use hc3 ?_ |                     refine ⟨fun _ => ?_, fun h => absurd h (by decide)⟩ | refine ⟨fun h => absurd h (by decide), fun _ => ?_⟩ | (refine ⟨fun h => ?_, fun h => ?_⟩ <;> (try simp only [decide_eq_true_eq, decide_eq_false_iff_not, Bool.not_eq_true', Bool.not_eq_false', Bool.not_eq_true, Bool.not_eq_false, not_true_eq_false, beq_iff_eq, beq_eq_false_iff_ne, ne_eq, decide_eq_decide, true_iff, false_iff, iff_true, iff_false, true_and, and_true, false_or, or_false, Bool.and_true, Bool.and_eq_true, Bool.and_eq_false_iff, Bool.or_eq_true, Bool.or_eq_false_iff, List.length_cons, List.length_nil] at h) <;> (try (exfalso; first | omega | exact h rfl | (cases h; done) | exact absurd h (by assumption) | exact h (by assumption) | (simp at h; done)))) | refine ⟨⟨by (first | omega | (simp only [lenS]; omega)), by (first | omega | (simp only [lenS]; omega))⟩, _, by assumption, by rfl, ?_⟩ | refine .inl ⟨⟨by (first | omega | (simp only [lenS]; omega)), by (first | omega | (simp only [lenS]; omega))⟩, ?_⟩ | refine ⟨⟨by (first | omega | (simp only [lenS]; omega)), by (first | omega | (simp only [lenS]; omega))⟩, ?_⟩ | refine ⟨⟨by (first | omega | (simp only [lenS]; omega)), by (first | omega | (simp only [lenS]; omega)), by (first | omega | (simp only [lenS]; omega))⟩, ?_⟩ | refine ⟨.inl rfl, ?_⟩ | refine ⟨.inr (.inl (by (first | omega | (simp only [lenS]; omega)))), ?_⟩ | refine ⟨_, rfl, rfl, by (first | exact Nat.le_refl _ | exact Nat.le_of_ble_eq_true rfl | decide), ?_⟩ | refine ⟨_, rfl, by (first | exact Nat.le_refl _ | exact Nat.le_of_ble_eq_true rfl | decide), ?_⟩ | refine ⟨by (first | exact Nat.le_refl _ | exact Nat.le_of_ble_eq_true rfl | decide | exact rfl), ?_⟩ | refine ⟨show _ ≤ (9223372036854775807 : Nat) by (first | omega | (simp only [lenS]; omega)), ?_⟩ | refine ⟨show _ ≠ (0 : Int) by (first | omega | (simp only [lenS]; omega)), ?_⟩ | refine ⟨_, rfl, _, rfl, ?_⟩ | refine ⟨_, by assumption, Nat.le_of_ble_eq_true rfl, ?_⟩ | refine ⟨_, by assumption, _, rfl, ?_⟩ | refine ⟨_, rfl, ?_⟩ | fail)
            exact ⟨_, _, _, ⟨j + 1, rfl, by omega, hjl, rfl, rfl⟩, by omega, Mv.of [] rfl rfl rfl trivial ⟨rfl, rfl, rfl, rfl, congrArg D.bool (by rw [decide_eq_decide.2 (hmem.trans (or_iff_right hin))]), rfl, trivial⟩⟩
        · have hj' : j = K.length := by omega
          subst hj'
          rw [List.take_length]
          by_cases hm : K[i].1 ∈ (K.drop (i + 1)).map Prod.fst
          · rw [if_pos hm] at hI
            rw [decide_eq_true hm, Bool.not_true]
            repeat' (first | refine PureC.use hc1 ?_ | refine PureC.use hc2 ?_ | refine PureC.use hc3 ?_ |                     refine ⟨fun _ => ?_, fun h => absurd h (by decide)⟩ | refine ⟨fun h => absurd h (by decide), fun _ => ?_⟩ | (refine ⟨fun h => ?_, fun h => ?_⟩ <;> (try simp only [decide_eq_true_eq, decide_eq_false_iff_not, Bool.not_eq_true', Bool.not_eq_false', Bool.not_eq_true, Bool.not_eq_false, not_true_eq_false, beq_iff_eq, beq_eq_false_iff_ne, ne_eq, decide_eq_decide, true_iff, false_iff, iff_true, iff_false, true_and, and_true, false_or, or_false, Bool.and_true, Bool.and_eq_true, Bool.and_eq_false_iff, Bool.or_eq_true, Bool.or_eq_false_iff, List.length_cons, List.length_nil] at h) <;> (try (exfalso; first | omega | exact h rfl | (cases h; done) | exact absurd h (by assumption) | exact h (by assumption) | (simp at h; done)))) | refine ⟨⟨by (first | omega | (simp only [lenS]; omega)), by (first | omega | (simp only [lenS]; omega))⟩, _, by assumption, by rfl, ?_⟩ | refine .inl ⟨⟨by (first | omega | (simp only [lenS]; omega)), by (first | omega | (simp only [lenS]; omega))⟩, ?_⟩ | refine ⟨⟨by (first | omega | (simp only [lenS]; omega)), by (first | omega | (simp only [lenS]; omega))⟩, ?_⟩ | refine ⟨⟨by (first | omega | (simp only [lenS]; omega)), by (first | omega | (simp only [lenS]; omega)), by (first | omega | (simp only [lenS]; omega))⟩, ?_⟩ | refine ⟨.inl rfl, ?_⟩ | refine ⟨.inr (.inl (by (first | omega | (simp only [lenS]; omega)))), ?_⟩ | refine ⟨_, rfl, rfl, by (first | exact Nat.le_refl _ | exact Nat.le_of_ble_eq_true rfl | decide), ?_⟩ | refine ⟨_, rfl, by (first | exact Nat.le_refl _ | exact Nat.le_of_ble_eq_true rfl | decide), ?_⟩ | refine ⟨by (first | exact Nat.le_refl _ | exact Nat.le_of_ble_eq_true rfl | decide | exact rfl), ?_⟩ | refine ⟨show _ ≤ (9223372036854775807 : Nat) by (first | omega | (simp only [lenS]; omega)), ?_⟩ | refine ⟨show _ ≠ (0 : Int) by (first | omega | (simp only [lenS]; omega)), ?_⟩ | refine ⟨_, rfl, _, rfl, ?_⟩ | refine ⟨_, by assumption, Nat.le_of_ble_eq_true rfl, ?_⟩ | refine ⟨_, by assumption, _, rfl, ?_⟩ | refine ⟨_, rfl, ?_⟩ | fail)
            exact ⟨_, _, _, ⟨i + 1, out, rfl, hlt, by omega, hI, rfl, rfl⟩, by omega, Mv.of [] rfl rfl rfl trivial ⟨rfl, rfl, rfl, rfl, trivial⟩⟩
          · rw [if_neg hm] at hI
            rw [decide_eq_false hm, Bool.not_false]
            by_cases ho : out = []
            · subst ho
              rw [if_pos rfl] at hI
              repeat' (first | refine PureC.use hc1 ?_ | refine PureC.use hc2 ?_ | refine PureC.use hc3 ?_ |                     refine ⟨fun _ => ?_, fun h => absurd h (by decide)⟩ | refine ⟨fun h => absurd h (by decide), fun _ => ?_⟩ | (refine ⟨fun h => ?_, fun h => ?_⟩ <;> (try simp only [decide_eq_true_eq, decide_eq_false_iff_not, Bool.not_eq_true', Bool.not_eq_false', Bool.not_eq_true, Bool.not_eq_false, not_true_eq_false, beq_iff_eq, beq_eq_false_iff_ne, ne_eq, decide_eq_decide, true_iff, false_iff, iff_true, iff_false, true_and, and_true, false_or, or_false, Bool.and_true, Bool.and_eq_true, Bool.and_eq_false_iff, Bool.or_eq_true, Bool.or_eq_false_iff, List.length_cons, List.length_nil] at h) <;> (try (exfalso; first | omega | exact h rfl | (cases h; done) | exact absurd h (by assumption) | exact h (by assumption) | (simp at h; done)))) | refine ⟨⟨by (first | omega | (simp only [lenS]; omega)), by (first | omega | (simp only [lenS]; omega))⟩, _, by assumption, by rfl, ?_⟩ | refine .inl ⟨⟨by (first | omega | (simp only [lenS]; omega)), by (first | omega | (simp only [lenS]; omega))⟩, ?_⟩ | refine ⟨⟨by (first | omega | (simp only [lenS]; omega)), by (first | omega | (simp only [lenS]; omega))⟩, ?_⟩ | refine ⟨⟨by (first | omega | (simp only [lenS]; omega)), by (first | omega | (simp only [lenS]; omega)), by (first | omega | (simp only [lenS]; omega))⟩, ?_⟩ | refine ⟨.inl rfl, ?_⟩ | refine ⟨.inr (.inl (by (first | omega | (simp only [lenS]; omega)))), ?_⟩ | refine ⟨_, rfl, rfl, by (first | exact Nat.le_refl _ | exact Nat.le_of_ble_eq_true rfl | decide), ?_⟩ | refine ⟨_, rfl, by (first | exact Nat.le_refl _ | exact Nat.le_of_ble_eq_true rfl | decide), ?_⟩ | refine ⟨by (first | exact Nat.le_refl _ | exact Nat.le_of_ble_eq_true rfl | decide | exact rfl), ?_⟩ | refine ⟨show _ ≤ (9223372036854775807 : Nat) by (first | omega | (simp only [lenS]; omega)), ?_⟩ | refine ⟨show _ ≠ (0 : Int) by (first | omega | (simp only [lenS]; omega)), ?_⟩ | refine ⟨_, rfl, _, rfl, ?_⟩ | refine ⟨_, by assumption, Nat.le_of_ble_eq_true rfl, ?_⟩ | refine ⟨_, by assumption, _, rfl, ?_⟩ | refine ⟨_, rfl, ?_⟩ | fail)
              refine drawnT Tryd.wf Tryd.tab_ok Tryd.mixed (by decide +kernel) ?_; repeat' (first |       refine qskip rfl rfl ?_ | refine qstep (r := .d (.bool true)) rfl rfl (fin_eq (congrArg (fun b => AV.d (.bool b)) (decide_eq_true (by omega)))) ?_ | refine qstep (r := .d (.bool false)) rfl rfl (fin_eq (congrArg (fun b => AV.d (.bool b)) (decide_eq_false (by omega)))) ?_ | refine qstep rfl rfl ⟨fun _ => FinMove.refl _ _ _, fun h => absurd h (by decide)⟩ ?_ | refine qstep rfl rfl ⟨fun h => absurd h (by decide), fun _ => FinMove.refl _ _ _⟩ ?_ | refine qstep rfl rfl (FinMove.refl _ _ _) ?_ |     refine qstep rfl rfl (PureC.use hc1 (FinMove.refl _ _ _)) ?_ | refine qstep rfl rfl (PureC.use hc2 (FinMove.refl _ _ _)) ?_ | refine qstep rfl rfl (PureC.use hc3 (FinMove.refl _ _ _)) ?_ |      refine qstep rfl rfl ⟨⟨by (first | omega | (simp only [lenS]; omega)), by (first | omega | (simp only [lenS]; omega))⟩, _, by assumption, by rfl, FinMove.refl _ _ _⟩ ?_ | refine qstep rfl rfl (.inl ⟨⟨by (first | omega | (simp only [lenS]; omega)), by (first | omega | (simp only [lenS]; omega))⟩, FinMove.refl _ _ _⟩) ?_ | refine qstep rfl rfl ⟨⟨by (first | omega | (simp only [lenS]; omega)), by (first | omega | (simp only [lenS]; omega))⟩, FinMove.refl _ _ _⟩ ?_ | refine qstep rfl rfl ⟨⟨by (first | omega | (simp only [lenS]; omega)), by (first | omega | (simp only [lenS]; omega)), by (first | omega | (simp only [lenS]; omega))⟩, FinMove.refl _ _ _⟩ ?_ | refine qstep rfl rfl ⟨⟨by (first | omega | (simp only [lenS]; omega)), by (first | omega | (simp only [lenS]; omega)), by (first | omega | (simp only [lenS]; omega))⟩, .inl rfl, FinMove.refl _ _ _⟩ ?_ | refine qstep rfl rfl ⟨_, rfl, _, rfl, FinMove.refl _ _ _⟩ ?_ | refine qstep rfl rfl ⟨_, rfl, FinMove.refl _ _ _⟩ ?_ | refine qstep rfl rfl ⟨_, rfl, Nat.le_refl _, FinMove.refl _ _ _⟩ ?_ | refine qstep rfl rfl ⟨Nat.le_refl _, FinMove.refl _ _ _⟩ ?_ | refine qstep rfl rfl ⟨by decide, FinMove.refl _ _ _⟩ ?_ | refine qstep rfl rfl ⟨show _ ≤ (9223372036854775807 : Nat) by (first | omega | (simp only [lenS]; omega)), FinMove.refl _ _ _⟩ ?_ | fail)
              repeat' (first | refine PureC.use hc1 ?_ | refine PureC.use hc2 ?_ | refine PureC.use hc3 ?_ |                     refine ⟨fun _ => ?_, fun h => absurd h (by decide)⟩ | refine ⟨fun h => absurd h (by decide), fun _ => ?_⟩ | (refine ⟨fun h => ?_, fun h => ?_⟩ <;> (try simp only [decide_eq_true_eq, decide_eq_false_iff_not, Bool.not_eq_true', Bool.not_eq_false', Bool.not_eq_true, Bool.not_eq_false, not_true_eq_false, beq_iff_eq, beq_eq_false_iff_ne, ne_eq, decide_eq_decide, true_iff, false_iff, iff_true, iff_false, true_and, and_true, false_or, or_false, Bool.and_true, Bool.and_eq_true, Bool.and_eq_false_iff, Bool.or_eq_true, Bool.or_eq_false_iff, List.length_cons, List.length_nil] at h) <;> (try (exfalso; first | omega | exact h rfl | (cases h; done) | exact absurd h (by assumption) | exact h (by assumption) | (simp at h; done)))) | refine ⟨⟨by (first | omega | (simp only [lenS]; omega)), by (first | omega | (simp only [lenS]; omega))⟩, _, by assumption, by rfl, ?_⟩ | refine .inl ⟨⟨by (first | omega | (simp only [lenS]; omega)), by (first | omega | (simp only [lenS]; omega))⟩, ?_⟩ | refine ⟨⟨by (first | omega | (simp only [lenS]; omega)), by (first | omega | (simp only [lenS]; omega))⟩, ?_⟩ | refine ⟨⟨by (first | omega | (simp only [lenS]; omega)), by (first | omega | (simp only [lenS]; omega)), by (first | omega | (simp only [lenS]; omega))⟩, ?_⟩ | refine ⟨.inl rfl, ?_⟩ | refine ⟨.inr (.inl (by (first | omega | (simp only [lenS]; omega)))), ?_⟩ | refine ⟨_, rfl, rfl, by (first | exact Nat.le_refl _ | exact Nat.le_of_ble_eq_true rfl | decide), ?_⟩ | refine ⟨_, rfl, by (first | exact Nat.le_refl _ | exact Nat.le_of_ble_eq_true rfl | decide), ?_⟩ | refine ⟨by (first | exact Nat.le_refl _ | exact Nat.le_of_ble_eq_true rfl | decide | exact rfl), ?_⟩ | refine ⟨show _ ≤ (9223372036854775807 : Nat) by (first | omega | (simp only [lenS]; omega)), ?_⟩ | refine ⟨show _ ≠ (0 : Int) by (first | omega | (simp only [lenS]; omega)), ?_⟩ | refine ⟨_, rfl, _, rfl, ?_⟩ | refine ⟨_, by assumption, Nat.le_of_ble_eq_true rfl, ?_⟩ | refine ⟨_, by assumption, _, rfl, ?_⟩ | refine ⟨_, rfl, ?_⟩ | fail)
              exact ⟨_, _, _, ⟨i + 1, [] ++ txtB K[i], rfl, hlt, by rw [List.nil_append]; omega, hI, rfl, rfl⟩, by omega, Mv.of [] rfl rfl rfl trivial ⟨rfl, rfl, congrArg D.str (by simp [txtB]), rfl, trivial⟩⟩
            · rw [if_neg ho] at hI
              have hol : (out ++ [59, 32]).length = out.length + 2 := by simp
              repeat' (first | refine PureC.use hc1 ?_ | refine PureC.use hc2 ?_ | refine PureC.use hc3 ?_ |                     refine ⟨fun _ => ?_, fun h => absurd h (by decide)⟩ | refine ⟨fun h => absurd h (by decide), fun _ => ?_⟩ | (refine ⟨fun h => ?_, fun h => ?_⟩ <;> (try simp only [decide_eq_true_eq, decide_eq_false_iff_not, Bool.not_eq_true', Bool.not_eq_false', Bool.not_eq_true, Bool.not_eq_false, not_true_eq_false, beq_iff_eq, beq_eq_false_iff_ne, ne_eq, decide_eq_decide, true_iff, false_iff, iff_true, iff_false, true_and, and_true, false_or, or_false, Bool.and_true, Bool.and_eq_true, Bool.and_eq_false_iff, Bool.or_eq_true, Bool.or_eq_false_iff, List.length_cons, List.length_nil] at h) <;> (try (exfalso; first | omega | exact h rfl | (cases h; done) | exact absurd h (by assumption) | exact h (by assumption) | (simp at h; done)))) | refine ⟨⟨by (first | omega | (simp only [lenS]; omega)), by (first | omega | (simp only [lenS]; omega))⟩, _, by assumption, by rfl, ?_⟩ | refine .inl ⟨⟨by (first | omega | (simp only [lenS]; omega)), by (first | omega | (simp only [lenS]; omega))⟩, ?_⟩ | refine ⟨⟨by (first | omega | (simp only [lenS]; omega)), by (first | omega | (simp only [lenS]; omega))⟩, ?_⟩ | refine ⟨⟨by (first | omega | (simp only [lenS]; omega)), by (first | omega | (simp only [lenS]; omega)), by (first | omega | (simp only [lenS]; omega))⟩, ?_⟩ | refine ⟨.inl rfl, ?_⟩ | refine ⟨.inr (.inl (by (first | omega | (simp only [lenS]; omega)))), ?_⟩ | refine ⟨_, rfl, rfl, by (first | exact Nat.le_refl _ | exact Nat.le_of_ble_eq_true rfl | decide), ?_⟩ | refine ⟨_, rfl, by (first | exact Nat.le_refl _ | exact Nat.le_of_ble_eq_true rfl | decide), ?_⟩ | refine ⟨by (first | exact Nat.le_refl _ | exact Nat.le_of_ble_eq_true rfl | decide | exact rfl), ?_⟩ | refine ⟨show _ ≤ (9223372036854775807 : Nat) by (first | omega | (simp only [lenS]; omega)), ?_⟩ | refine ⟨show _ ≠ (0 : Int) by (first | omega | (simp only [lenS]; omega)), ?_⟩ | refine ⟨_, rfl, _, rfl, ?_⟩ | refine ⟨_, by assumption, Nat.le_of_ble_eq_true rfl, ?_⟩ | refine ⟨_, by assumption, _, rfl, ?_⟩ | refine ⟨_, rfl, ?_⟩ | fail)
              refine drawnT Tryd.wf Tryd.tab_ok Tryd.mixed (by decide +kernel) ?_; repeat' (first |       refine qskip rfl rfl ?_ | refine qstep (r := .d (.bool true)) rfl rfl (fin_eq (congrArg (fun b => AV.d (.bool b)) (decide_eq_true (by omega)))) ?_ | refine qstep (r := .d (.bool false)) rfl rfl (fin_eq (congrArg (fun b => AV.d (.bool b)) (decide_eq_false (by omega)))) ?_ | refine qstep rfl rfl ⟨fun _ => FinMove.refl _ _ _, fun h => absurd h (by decide)⟩ ?_ | refine qstep rfl rfl ⟨fun h => absurd h (by decide), fun _ => FinMove.refl _ _ _⟩ ?_ | refine qstep rfl rfl (FinMove.refl _ _ _) ?_ |     refine qstep rfl rfl (PureC.use hc1 (FinMove.refl _ _ _)) ?_ | refine qstep rfl rfl (PureC.use hc2 (FinMove.refl _ _ _)) ?_ | refine qstep rfl rfl (PureC.use hc3 (FinMove.refl _ _ _)) ?_ |      refine qstep rfl rfl ⟨⟨by (first | omega | (simp only [lenS]; omega)), by (first | omega | (simp only [lenS]; omega))⟩, _, by assumption, by rfl, FinMove.refl _ _ _⟩ ?_ | refine qstep rfl rfl (.inl ⟨⟨by (first | omega | (simp only [lenS]; omega)), by (first | omega | (simp only [lenS]; omega))⟩, FinMove.refl _ _ _⟩) ?_ | refine qstep rfl rfl ⟨⟨by (first | omega | (simp only [lenS]; omega)), by (first | omega | (simp only [lenS]; omega))⟩, FinMove.refl _ _ _⟩ ?_ | refine qstep rfl rfl ⟨⟨by (first | omega | (simp only [lenS]; omega)), by (first | omega | (simp only [lenS]; omega)), by (first | omega | (simp only [lenS]; omega))⟩, FinMove.refl _ _ _⟩ ?_ | refine qstep rfl rfl ⟨⟨by (first | omega | (simp only [lenS]; omega)), by (first | omega | (simp only [lenS]; omega)), by (first | omega | (simp only [lenS]; omega))⟩, .inl rfl, FinMove.refl _ _ _⟩ ?_ | refine qstep rfl rfl ⟨_, rfl, _, rfl, FinMove.refl _ _ _⟩ ?_ | refine qstep rfl rfl ⟨_, rfl, FinMove.refl _ _ _⟩ ?_ | refine qstep rfl rfl ⟨_, rfl, Nat.le_refl _, FinMove.refl _ _ _⟩ ?_ | refine qstep rfl rfl ⟨Nat.le_refl _, FinMove.refl _ _ _⟩ ?_ | refine qstep rfl rfl ⟨by decide, FinMove.refl _ _ _⟩ ?_ | refine qstep rfl rfl ⟨show _ ≤ (9223372036854775807 : Nat) by (first | omega | (simp only [lenS]; omega)), FinMove.refl _ _ _⟩ ?_ | fail)
              repeat' (first | refine PureC.use hc1 ?_ | refine PureC.use hc2 ?_ | refine PureC.use hc3 ?_ |                     refine ⟨fun _ => ?_, fun h => absurd h (by decide)⟩ | refine ⟨fun h => absurd h (by decide), fun _ => ?_⟩ | (refine ⟨fun h => ?_, fun h => ?_⟩ <;> (try simp only [decide_eq_true_eq, decide_eq_false_iff_not, Bool.not_eq_true', Bool.not_eq_false', Bool.not_eq_true, Bool.not_eq_false, not_true_eq_false, beq_iff_eq, beq_eq_false_iff_ne, ne_eq, decide_eq_decide, true_iff, false_iff, iff_true, iff_false, true_and, and_true, false_or, or_false, Bool.and_true, Bool.and_eq_true, Bool.and_eq_false_iff, Bool.or_eq_true, Bool.or_eq_false_iff, List.length_cons, List.length_nil] at h) <;> (try (exfalso; first | omega | exact h rfl | (cases h; done) | exact absurd h (by assumption) | exact h (by assumption) | (simp at h; done)))) | refine ⟨⟨by (first | omega | (simp only [lenS]; omega)), by (first | omega | (simp only [lenS]; omega))⟩, _, by assumption, by rfl, ?_⟩ | refine .inl ⟨⟨by (first | omega | (simp only [lenS]; omega)), by (first | omega | (simp only [lenS]; omega))⟩, ?_⟩ | refine ⟨⟨by (first | omega | (simp only [lenS]; omega)), by (first | omega | (simp only [lenS]; omega))⟩, ?_⟩ | refine ⟨⟨by (first | omega | (simp only [lenS]; omega)), by (first | omega | (simp only [lenS]; omega)), by (first | omega | (simp only [lenS]; omega))⟩, ?_⟩ | refine ⟨.inl rfl, ?_⟩ | refine ⟨.inr (.inl (by (first | omega | (simp only [lenS]; omega)))), ?_⟩ | refine ⟨_, rfl, rfl, by (first | exact Nat.le_refl _ | exact Nat.le_of_ble_eq_true rfl | decide), ?_⟩ | refine ⟨_, rfl, by (first | exact Nat.le_refl _ | exact Nat.le_of_ble_eq_true rfl | decide), ?_⟩ | refine ⟨by (first | exact Nat.le_refl _ | exact Nat.le_of_ble_eq_true rfl | decide | exact rfl), ?_⟩ | refine ⟨show _ ≤ (9223372036854775807 : Nat) by (first | omega | (simp only [lenS]; omega)), ?_⟩ | refine ⟨show _ ≠ (0 : Int) by (first | omega | (simp only [lenS]; omega)), ?_⟩ | refine ⟨_, rfl, _, rfl, ?_⟩ | refine ⟨_, by assumption, Nat.le_of_ble_eq_true rfl, ?_⟩ | refine ⟨_, by assumption, _, rfl, ?_⟩ | refine ⟨_, rfl, ?_⟩ | fail)
              exact ⟨_, _, _, ⟨i + 1, out ++ [59, 32] ++ txtB K[i], rfl, hlt, by rw [List.length_append]; omega, hI, rfl, rfl⟩, by omega, Mv.of [] rfl rfl rfl trivial ⟨rfl, rfl, congrArg D.str (by simp [txtB]), rfl, trivial⟩⟩
      · have hi' : i = K.length := by omega
        subst hi'
        rw [List.drop_length] at hI
        repeat' (first | refine PureC.use hc1 ?_ | refine PureC.use hc2 ?_ | refine PureC.use hc3 ?_ |                     refine ⟨fun _ => ?_, fun h => absurd h (by decide)⟩ | refine ⟨fun h => absurd h (by decide), fun _ => ?_⟩ | (refine ⟨fun h => ?_, fun h => ?_⟩ <;> (try simp only [decide_eq_true_eq, decide_eq_false_iff_not, Bool.not_eq_true', Bool.not_eq_false', Bool.not_eq_true, Bool.not_eq_false, not_true_eq_false, beq_iff_eq, beq_eq_false_iff_ne, ne_eq, decide_eq_decide, true_iff, false_iff, iff_true, iff_false, true_and, and_true, false_or, or_false, Bool.and_true, Bool.and_eq_true, Bool.and_eq_false_iff, Bool.or_eq_true, Bool.or_eq_false_iff, List.length_cons, List.length_nil] at h) <;> (try (exfalso; first | omega | exact h rfl | (cases h; done) | exact absurd h (by assumption) | exact h (by assumption) | (simp at h; done)))) | refine ⟨⟨by (first | omega | (simp only [lenS]; omega)), by (first | omega | (simp only [lenS]; omega))⟩, _, by assumption, by rfl, ?_⟩ | refine .inl ⟨⟨by (first | omega | (simp only [lenS]; omega)), by (first | omega | (simp only [lenS]; omega))⟩, ?_⟩ | refine ⟨⟨by (first | omega | (simp only [lenS]; omega)), by (first | omega | (simp only [lenS]; omega))⟩, ?_⟩ | refine ⟨⟨by (first | omega | (simp only [lenS]; omega)), by (first | omega | (simp only [lenS]; omega)), by (first | omega | (simp only [lenS]; omega))⟩, ?_⟩ | refine ⟨.inl rfl, ?_⟩ | refine ⟨.inr (.inl (by (first | omega | (simp only [lenS]; omega)))), ?_⟩ | refine ⟨_, rfl, rfl, by (first | exact Nat.le_refl _ | exact Nat.le_of_ble_eq_true rfl | decide), ?_⟩ | refine ⟨_, rfl, by (first | exact Nat.le_refl _ | exact Nat.le_of_ble_eq_true rfl | decide), ?_⟩ | refine ⟨by (first | exact Nat.le_refl _ | exact Nat.le_of_ble_eq_true rfl | decide | exact rfl), ?_⟩ | refine ⟨show _ ≤ (9223372036854775807 : Nat) by (first | omega | (simp only [lenS]; omega)), ?_⟩ | refine ⟨show _ ≠ (0 : Int) by (first | omega | (simp only [lenS]; omega)), ?_⟩ | refine ⟨_, rfl, _, rfl, ?_⟩ | refine ⟨_, by assumption, Nat.le_of_ble_eq_true rfl, ?_⟩ | refine ⟨_, by assumption, _, rfl, ?_⟩ | refine ⟨_, rfl, ?_⟩ | fail)
        exact ⟨_, _, ⟨rfl, rfl⟩, Mv.of [] rfl rfl rfl trivial ⟨congrArg D.str hI.symm, trivial⟩⟩
    · rintro _ _ ⟨rfl, rfl⟩
      refine E.of Tryd.wf Tryd.tab_ok ?_
      exact ⟨_, _, fin_out rfl, rfl, rfl⟩
end Go.Proofs.YtkgdplfcanonhaaDoor

namespace Go.Proofs.YtkgdplfcanonhaaDoor
open Go.Aw
set_option maxHeartbeats 1600000
set_option linter.unusedSimpArgs false
set_option linter.unusedVariables false
theorem agg_str : isAggB Tryd.prog 9 = false := by kernel_rfl
theorem agg_int : isAggB Tryd.prog 3 = false := by kernel_rfl
theorem agg_strs : isAggB Tryd.prog 22 = false := by kernel_rfl
theorem arg_str (s : List UInt8) : argAV Tryd.prog 9 [.str s] = .d (.str s) := by rw [argAV, agg_str]; rfl
theorem arg_int (n : Int) : argAV Tryd.prog 3 [.int .i64 n] = .d (.int .i64 n) := by rw [argAV, agg_int]; rfl
theorem arg_strs (r : List (List D)) : argAV Tryd.prog 22 [.sl r] = .d (.sl r) := by rw [argAV, agg_strs]; rfl
theorem dok_str {n : Nat} {row : List D} (h : DOk Tryd.prog n 9 row) : ∃ s, row = [.str s] ∧ s.length ≤ 140737488351232 := by
  cases n with
  | zero => exact h.elim
  | succ n => simp only [DOk, Tryd.underlying9] at h; exact h
theorem dok_int {n : Nat} {row : List D} (h : DOk Tryd.prog n 3 row) : ∃ x, row = [.int .i64 x] ∧ -9223372036854775808 ≤ x ∧ x ≤ 9223372036854775807 := by
  cases n with
  | zero => exact h.elim
  | succ n => simp only [DOk, Tryd.underlying3] at h; exact h
theorem bytes_str : Tryd.prog.bytesOf 9 = 16 := by kernel_rfl
theorem dok_strs {n : Nat} {row : List D} (h : DOk Tryd.prog n 22 row) : ∃ l : List (List UInt8), row = [.sl (strsD l)] ∧ l.length * 16 ≤ 140737488351232 ∧ ∀ s ∈ l, s.length ≤ 140737488351232 := by
  cases n with
  | zero => exact h.elim
  | succ n =>
    simp only [DOk, Tryd.underlying22] at h
    obtain ⟨rows, rfl, h1, h2⟩ := h
    rw [bytes_str] at h1
    have : ∃ l : List (List UInt8), rows = strsD l ∧ ∀ s ∈ l, s.length ≤ 140737488351232 := by
      clear h1
      induction rows with
      | nil => exact ⟨[], rfl, by simp⟩
      | cons r rs ih =>
        obtain ⟨s, rfl, hs⟩ := dok_str (h2 r (by simp))
        obtain ⟨l, rfl, hl⟩ := ih (fun q hq => h2 q (by simp [hq]))
        exact ⟨s :: l, rfl, by simpa using ⟨hs, hl⟩⟩
    obtain ⟨l, rfl, hl⟩ := this
    exact ⟨l, rfl, by simpa [strsD] using h1, hl⟩
end Go.Proofs.YtkgdplfcanonhaaDoor

namespace Go.Proofs.YtkgdplfcanonhaaDoor
open Go.Aw
set_option maxHeartbeats 1600000
set_option linter.unusedSimpArgs false
set_option linter.unusedVariables false
def awS : List UInt8 := [67, 111, 108, 111, 114, 32, 58, 32, 82, 69, 68, 59, 32, 119, 105, 100, 116, 104, 58, 49, 112, 120, 59, 59, 120, 59, 32, 99, 111, 108, 111, 114, 58, 32, 98, 108, 117, 101]
def colW : List (List UInt8) := [[99, 111, 108, 111, 114], [119, 105, 100, 116, 104]]
def awR : List UInt8 := [119, 105, 100, 116, 104, 58, 32, 49, 112, 120, 59, 32, 99, 111, 108, 111, 114, 58, 32, 98, 108, 117, 101]
theorem aw_filter : filterB colW awS = awR := by decide +kernel
theorem aw_vals : valB [49, 112, 120] = true ∧ valB [117, 114, 108, 40, 120, 41] = false := by decide +kernel
set_option maxRecDepth 100000 in
theorem awake_ok : PureC Tryd.prog 9 [] (.d (.bool true)) := by
  have hf := Filter_ok colW awS (by decide) (by decide)
  rw [aw_filter] at hf
  have hc1 := Value_ok [49, 112, 120] (by decide)
  have hc2 := Value_ok [117, 114, 108, 40, 120, 41] (by decide)
  rw [aw_vals.1] at hc1
  rw [aw_vals.2] at hc2
  refine pure_okT Tryd.wf Tryd.tab_ok Tryd.func9 (by decide +kernel) rfl rfl rfl rfl ?_
  refine CallsAbs.freezeTo (ds := strsD colW) (args' := [.d (.str awS), .d (.sl (strsD colW))]) 0 rfl rfl ⟨trivial, fun _ => Nat.le_refl _, trivial⟩ rfl (PureC.use hf ?_)
  repeat' (first | refine PureC.use hc1 ?_ | refine PureC.use hc2 ?_ |                      refine ⟨fun _ => ?_, fun h => absurd h (by decide)⟩ | refine ⟨fun h => absurd h (by decide), fun _ => ?_⟩ | (refine ⟨fun h => ?_, fun h => ?_⟩ <;> (try simp only [decide_eq_true_eq, decide_eq_false_iff_not, Bool.not_eq_true', Bool.not_eq_false', Bool.not_eq_true, Bool.not_eq_false, not_true_eq_false, beq_iff_eq, beq_eq_false_iff_ne, ne_eq, decide_eq_decide, true_iff, false_iff, iff_true, iff_false, true_and, and_true, false_or, or_false, Bool.and_true, Bool.and_eq_true, Bool.and_eq_false_iff, Bool.or_eq_true, Bool.or_eq_false_iff, List.length_cons, List.length_nil] at h) <;> (try (exfalso; first | omega | exact h rfl | (cases h; done) | exact absurd h (by assumption) | exact h (by assumption) | (simp at h; done)))) | refine ⟨⟨by (first | omega | (simp only [lenS]; omega)), by (first | omega | (simp only [lenS]; omega))⟩, _, by assumption, by rfl, ?_⟩ | refine .inl ⟨⟨by (first | omega | (simp only [lenS]; omega)), by (first | omega | (simp only [lenS]; omega))⟩, ?_⟩ | refine ⟨⟨by (first | omega | (simp only [lenS]; omega)), by (first | omega | (simp only [lenS]; omega))⟩, ?_⟩ | refine ⟨⟨by (first | omega | (simp only [lenS]; omega)), by (first | omega | (simp only [lenS]; omega)), by (first | omega | (simp only [lenS]; omega))⟩, ?_⟩ | refine ⟨.inl rfl, ?_⟩ | refine ⟨.inr (.inl (by (first | omega | (simp only [lenS]; omega)))), ?_⟩ | refine ⟨_, rfl, rfl, by (first | exact Nat.le_refl _ | exact Nat.le_of_ble_eq_true rfl | decide), ?_⟩ | refine ⟨_, rfl, by (first | exact Nat.le_refl _ | exact Nat.le_of_ble_eq_true rfl | decide), ?_⟩ | refine ⟨by (first | exact Nat.le_refl _ | exact Nat.le_of_ble_eq_true rfl | decide | exact rfl), ?_⟩ | refine ⟨show _ ≤ (9223372036854775807 : Nat) by (first | omega | (simp only [lenS]; omega)), ?_⟩ | refine ⟨show _ ≠ (0 : Int) by (first | omega | (simp only [lenS]; omega)), ?_⟩ | refine ⟨_, rfl, _, rfl, ?_⟩ | refine ⟨_, by assumption, Nat.le_of_ble_eq_true rfl, ?_⟩ | refine ⟨_, by assumption, _, rfl, ?_⟩ | refine ⟨_, rfl, ?_⟩ | fail)
  exact ⟨_, _, fin_out rfl, rfl⟩
set_option maxRecDepth 100000 in
theorem StyleFilters_ok (s : List UInt8) (props : List (List UInt8)) : PureC Tryd.prog 3 [.d (.str s), .d (.sl (strsD props))] (.d (.bool true)) := by
  have hc1 := awake_ok
  have hn := strsD_len props
  by_cases hl : s.length ≤ 2000 ∧ props.length ≤ 50
  · have hc2 := Filter_ok props s (by omega) (by omega)
    have hc3 := rFilter_ok props s (by omega) (by omega)
    refine pure_okT Tryd.wf Tryd.tab_ok Tryd.func3 (by decide +kernel) rfl rfl rfl rfl ?_
    repeat' (first | refine PureC.use hc1 ?_ | refine PureC.use hc2 ?_ | refine PureC.use hc3 ?_ |                     refine ⟨fun _ => ?_, fun h => absurd h (by decide)⟩ | refine ⟨fun h => absurd h (by decide), fun _ => ?_⟩ | (refine ⟨fun h => ?_, fun h => ?_⟩ <;> (try simp only [decide_eq_true_eq, decide_eq_false_iff_not, Bool.not_eq_true', Bool.not_eq_false', Bool.not_eq_true, Bool.not_eq_false, not_true_eq_false, beq_iff_eq, beq_eq_false_iff_ne, ne_eq, decide_eq_decide, true_iff, false_iff, iff_true, iff_false, true_and, and_true, false_or, or_false, Bool.and_true, Bool.and_eq_true, Bool.and_eq_false_iff, Bool.or_eq_true, Bool.or_eq_false_iff, List.length_cons, List.length_nil] at h) <;> (try (exfalso; first | omega | exact h rfl | (cases h; done) | exact absurd h (by assumption) | exact h (by assumption) | (simp at h; done)))) | refine ⟨⟨by (first | omega | (simp only [lenS]; omega)), by (first | omega | (simp only [lenS]; omega))⟩, _, by assumption, by rfl, ?_⟩ | refine .inl ⟨⟨by (first | omega | (simp only [lenS]; omega)), by (first | omega | (simp only [lenS]; omega))⟩, ?_⟩ | refine ⟨⟨by (first | omega | (simp only [lenS]; omega)), by (first | omega | (simp only [lenS]; omega))⟩, ?_⟩ | refine ⟨⟨by (first | omega | (simp only [lenS]; omega)), by (first | omega | (simp only [lenS]; omega)), by (first | omega | (simp only [lenS]; omega))⟩, ?_⟩ | refine ⟨.inl rfl, ?_⟩ | refine ⟨.inr (.inl (by (first | omega | (simp only [lenS]; omega)))), ?_⟩ | refine ⟨_, rfl, rfl, by (first | exact Nat.le_refl _ | exact Nat.le_of_ble_eq_true rfl | decide), ?_⟩ | refine ⟨_, rfl, by (first | exact Nat.le_refl _ | exact Nat.le_of_ble_eq_true rfl | decide), ?_⟩ | refine ⟨by (first | exact Nat.le_refl _ | exact Nat.le_of_ble_eq_true rfl | decide | exact rfl), ?_⟩ | refine ⟨show _ ≤ (9223372036854775807 : Nat) by (first | omega | (simp only [lenS]; omega)), ?_⟩ | refine ⟨show _ ≠ (0 : Int) by (first | omega | (simp only [lenS]; omega)), ?_⟩ | refine ⟨_, rfl, _, rfl, ?_⟩ | refine ⟨_, by assumption, Nat.le_of_ble_eq_true rfl, ?_⟩ | refine ⟨_, by assumption, _, rfl, ?_⟩ | refine ⟨_, rfl, ?_⟩ | fail)
    exact ⟨_, _, fin_out rfl, congrArg (fun b => AV.d (.bool b)) (by simp)⟩
  · refine pure_okT Tryd.wf Tryd.tab_ok Tryd.func3 (by decide +kernel) rfl rfl rfl rfl ?_
    repeat' (first | refine PureC.use hc1 ?_ | refine PureC.use hc2 ?_ | refine PureC.use hc3 ?_ |                     refine ⟨fun _ => ?_, fun h => absurd h (by decide)⟩ | refine ⟨fun h => absurd h (by decide), fun _ => ?_⟩ | (refine ⟨fun h => ?_, fun h => ?_⟩ <;> (try simp only [decide_eq_true_eq, decide_eq_false_iff_not, Bool.not_eq_true', Bool.not_eq_false', Bool.not_eq_true, Bool.not_eq_false, not_true_eq_false, beq_iff_eq, beq_eq_false_iff_ne, ne_eq, decide_eq_decide, true_iff, false_iff, iff_true, iff_false, true_and, and_true, false_or, or_false, Bool.and_true, Bool.and_eq_true, Bool.and_eq_false_iff, Bool.or_eq_true, Bool.or_eq_false_iff, List.length_cons, List.length_nil] at h) <;> (try (exfalso; first | omega | exact h rfl | (cases h; done) | exact absurd h (by assumption) | exact h (by assumption) | (simp at h; done)))) | refine ⟨⟨by (first | omega | (simp only [lenS]; omega)), by (first | omega | (simp only [lenS]; omega))⟩, _, by assumption, by rfl, ?_⟩ | refine .inl ⟨⟨by (first | omega | (simp only [lenS]; omega)), by (first | omega | (simp only [lenS]; omega))⟩, ?_⟩ | refine ⟨⟨by (first | omega | (simp only [lenS]; omega)), by (first | omega | (simp only [lenS]; omega))⟩, ?_⟩ | refine ⟨⟨by (first | omega | (simp only [lenS]; omega)), by (first | omega | (simp only [lenS]; omega)), by (first | omega | (simp only [lenS]; omega))⟩, ?_⟩ | refine ⟨.inl rfl, ?_⟩ | refine ⟨.inr (.inl (by (first | omega | (simp only [lenS]; omega)))), ?_⟩ | refine ⟨_, rfl, rfl, by (first | exact Nat.le_refl _ | exact Nat.le_of_ble_eq_true rfl | decide), ?_⟩ | refine ⟨_, rfl, by (first | exact Nat.le_refl _ | exact Nat.le_of_ble_eq_true rfl | decide), ?_⟩ | refine ⟨by (first | exact Nat.le_refl _ | exact Nat.le_of_ble_eq_true rfl | decide | exact rfl), ?_⟩ | refine ⟨show _ ≤ (9223372036854775807 : Nat) by (first | omega | (simp only [lenS]; omega)), ?_⟩ | refine ⟨show _ ≠ (0 : Int) by (first | omega | (simp only [lenS]; omega)), ?_⟩ | refine ⟨_, rfl, _, rfl, ?_⟩ | refine ⟨_, by assumption, Nat.le_of_ble_eq_true rfl, ?_⟩ | refine ⟨_, by assumption, _, rfl, ?_⟩ | refine ⟨_, rfl, ?_⟩ | fail)
    all_goals exact ⟨_, _, fin_out rfl, rfl⟩
theorem StyleFilters_law {n n' : Nat} {r r' : List D} (h : DOk Tryd.prog n 9 r) (h' : DOk Tryd.prog n' 22 r') : PureC Tryd.prog 3 [argAV Tryd.prog 9 r, argAV Tryd.prog 22 r'] (.d (.bool true)) := by
  obtain ⟨s, rfl, _⟩ := dok_str h
  obtain ⟨l, rfl, _⟩ := dok_strs h'
  rw [arg_str, arg_strs]; exact StyleFilters_ok s l
end Go.Proofs.YtkgdplfcanonhaaDoor

namespace Go.Proofs.YtkgdplfcanonhaaDoor
open Go.Aw
set_option maxHeartbeats 1600000
set_option linter.unusedSimpArgs false
set_option linter.unusedVariables false
def letL (c : UInt8) : Bool := decide (97 ≤ c.toNat) && decide (c.toNat ≤ 122)
/-- The first so many bytes of a name. -/
def nmTo (p : List UInt8) : Nat → Bool
  | 0 => true
  | k + 1 => nmTo p k && (letL (p.getD k 0) || (decide (0 < k) && decide ((p.getD k 0).toNat = 45)))
def nameOk (p : List UInt8) : Bool := nmTo p p.length && !decide (p = [])
theorem nmTo_bad (p : List UInt8) {k : Nat} : ∀ m, nmTo p k = false → nmTo p (k + m) = false
  | 0, h => h
  | m + 1, h => by rw [← Nat.add_assoc, nmTo, nmTo_bad p m h]; rfl
theorem nmTo_at {p : List UInt8} {n k : Nat} (h : nmTo p n = true) (hk : k < n) : letL (p.getD k 0) = true ∨ (p.getD k 0).toNat = 45 := by
  have h1 : nmTo p (k + 1) = true := by
    cases h2 : nmTo p (k + 1) with
    | true => rfl
    | false => rw [show n = k + 1 + (n - (k + 1)) from by omega, nmTo_bad p _ h2] at h; cases h
  rw [nmTo, Bool.and_eq_true, Bool.or_eq_true, Bool.and_eq_true, decide_eq_true_eq, decide_eq_true_eq] at h1
  exact h1.2.imp id (fun h => h.2)
/-- The bytes of a name. -/
def nmC (c : UInt8) : Prop := (97 ≤ c.toNat ∧ c.toNat ≤ 122) ∨ c.toNat = 45
theorem name_all {p : List UInt8} (h : nameOk p = true) : p ≠ [] ∧ ∀ c ∈ p, nmC c := by
  unfold nameOk at h
  rw [Bool.and_eq_true, Bool.not_eq_true', decide_eq_false_iff_not] at h
  refine ⟨h.2, fun c hc => ?_⟩
  obtain ⟨k, hk, rfl⟩ := List.mem_iff_getElem.1 hc
  have := nmTo_at h.1 hk
  rw [List.getD_eq_getElem?_getD, List.getElem?_eq_getElem hk, Option.getD_some] at this
  unfold letL at this
  rw [Bool.and_eq_true, decide_eq_true_eq, decide_eq_true_eq] at this
  exact this
theorem val_all {v : List UInt8} (h : valB v = true) : v ≠ [] ∧ v.length ≤ 100 ∧ v.getD 0 0 ≠ 32 ∧ v.getD (v.length - 1) 0 ≠ 32 ∧ ∀ c ∈ v, okB c = true := by
  unfold valB at h
  simp only [Bool.and_eq_true, decide_eq_true_eq, Bool.not_eq_true', decide_eq_false_iff_not, List.all_eq_true] at h
  obtain ⟨⟨⟨⟨h1, h2⟩, h3⟩, h4⟩, h5⟩ := h
  exact ⟨fun e => by rw [e] at h1; simp at h1, h2, h3, h4, h5⟩
theorem okB_cases {c : UInt8} (h : okB c = true) : (97 ≤ c.toNat ∧ c.toNat ≤ 122) ∨ (48 ≤ c.toNat ∧ c.toNat ≤ 57) ∨ c.toNat = 32 ∨ c.toNat = 35 ∨ c.toNat = 37 ∨ c.toNat = 46 ∨ c.toNat = 44 ∨ c.toNat = 45 := by
  unfold okB at h
  simp only [Bool.or_eq_true, Bool.and_eq_true, decide_eq_true_eq, mem_mark] at h
  omega
theorem lower_id {s : List UInt8} (h : ∀ c ∈ s, ¬ (65 ≤ c.toNat ∧ c.toNat ≤ 90)) : lower s = s := by
  unfold lower
  conv => rhs; rw [← List.map_id s]
  refine List.map_congr_left fun c hc => ?_
  have := h c hc
  unfold lowB
  first | rw [if_neg this]; rfl | (split; exact absurd (by assumption) this; rfl) | (simp; omega)
theorem trimLB_pre (cs : List UInt8) : ∀ (a s : List UInt8), (∀ c ∈ a, c ∈ cs) → trimLB cs (a ++ s) = trimLB cs s
  | [], s, _ => rfl
  | x :: a, s, h => by
    rw [List.cons_append, trimLB_cons, if_pos (h x (by simp))]
    exact trimLB_pre cs a s (fun c hc => h c (by simp [hc]))
theorem trimLB_id {cs s : List UInt8} (hne : s ≠ []) (h : s.getD 0 0 ∉ cs) : trimLB cs s = s := by
  cases s with
  | nil => exact absurd rfl hne
  | cons x r => rw [trimLB_cons, if_neg (show x ∉ cs from h)]
theorem trimRB_suf (cs : List UInt8) : ∀ (b s : List UInt8), (∀ c ∈ b, c ∈ cs) → trimRB cs (s ++ b) = trimRB cs s := fun b s h => by
  unfold trimRB
  rw [List.reverse_append]
  have := trimLB_pre cs b.reverse s.reverse (fun c hc => h c (by simpa using hc))
  unfold trimLB at this
  rw [this]
theorem trimRB_id {cs s : List UInt8} (hne : s ≠ []) (h : s.getD (s.length - 1) 0 ∉ cs) : trimRB cs s = s := by
  rcases List.eq_nil_or_concat s with rfl | ⟨r, c, rfl⟩
  · exact absurd rfl hne
  · rw [List.concat_eq_append] at *
    rw [trimRB_snoc, if_neg]
    have e : (r ++ [c]).getD ((r ++ [c]).length - 1) 0 = c := by
      rw [List.getD_eq_getElem?_getD]; simp
    rw [e] at h; exact h
theorem bare_of {a s b : List UInt8} (ha : ∀ c ∈ a, c ∈ cutS) (hb : ∀ c ∈ b, c ∈ cutS) (hne : s ≠ []) (h0 : s.getD 0 0 ∉ cutS) (h1 : s.getD (s.length - 1) 0 ∉ cutS) (hl : ∀ c ∈ s, ¬ (65 ≤ c.toNat ∧ c.toNat ≤ 90)) : bareB (a ++ s ++ b) = s := by
  unfold bareB
  rw [trimRB_suf cutS b _ hb, ← trim_comm, trimLB_pre cutS a s ha, trim_comm, trimRB_id hne h1, trimLB_id hne h0, lower_id hl]
theorem getD_mem {s : List UInt8} {k : Nat} (h : k < s.length) : s.getD k 0 ∈ s := by
  rw [List.getD_eq_getElem?_getD, List.getElem?_eq_getElem h, Option.getD_some]; exact List.getElem_mem h
theorem pos_len {s : List UInt8} (h : s ≠ []) : 0 < s.length := List.length_pos_iff.2 h
theorem bare_name {a p b : List UInt8} (ha : ∀ c ∈ a, c ∈ cutS) (hb : ∀ c ∈ b, c ∈ cutS) (h : nameOk p = true) : bareB (a ++ p ++ b) = p := by
  obtain ⟨hne, hc⟩ := name_all h
  have hp := pos_len hne
  have no : ∀ c ∈ p, c ∉ cutS := fun c h1 h2 => by
    have := hc c h1; unfold nmC at this
    rw [blank_mem] at h2; omega
  exact bare_of ha hb hne (no _ (getD_mem hp)) (no _ (getD_mem (by omega))) (fun c h1 => by have := hc c h1; unfold nmC at this; omega)
theorem bare_val {a v b : List UInt8} (ha : ∀ c ∈ a, c ∈ cutS) (hb : ∀ c ∈ b, c ∈ cutS) (h : valB v = true) : bareB (a ++ v ++ b) = v := by
  obtain ⟨hne, _, h0, h1, hc⟩ := val_all h
  have hp := pos_len hne
  have no : ∀ c ∈ v, c ≠ 32 → c ∉ cutS := fun c h1 h3 h2 => by
    have := okB_cases (hc c h1)
    rw [blank_mem] at h2
    have : c.toNat ≠ 32 := fun e => h3 (UInt8.toNat_inj.1 e)
    omega
  exact bare_of ha hb hne (no _ (getD_mem hp) h0) (no _ (getD_mem (by omega)) h1) (fun c h1 => by have := okB_cases (hc c h1); omega)
theorem splitB_mid (c : UInt8) : ∀ (a b : List UInt8), splitB c (a ++ c :: b) = splitB c a ++ splitB c b
  | [], b => by show splitB c (c :: b) = [[]] ++ splitB c b; exact splitB_app (a := []) (by simp)
  | x :: a, b => by
    show splitB c (x :: (a ++ c :: b)) = splitB c (x :: a) ++ splitB c b
    rw [splitB, splitB, splitB_mid c a b]
    by_cases h : x = c
    · rw [if_pos h, if_pos h]; rfl
    · rw [if_neg h, if_neg h]
      cases hs : splitB c a with
      | nil => have := splitB_len c a; rw [hs] at this; simp at this
      | cons p ps => rfl
def goodP (p : Pair) : Prop := nameOk p.1 = true ∧ valB p.2 = true
theorem txt_no {p : Pair} (h : goodP p) : (59 : UInt8) ∉ txtB p := fun hm => by
  unfold txtB at hm
  simp only [List.mem_append, List.mem_cons, List.not_mem_nil, or_false] at hm
  rcases hm with (hm | hm | hm) | hm
  · have := (name_all h.1).2 _ hm; unfold nmC at this
    have e : (59 : UInt8).toNat = 59 := rfl
    omega
  · exact absurd hm (by decide)
  · exact absurd hm (by decide)
  · have := okB_cases ((val_all h.2).2.2.2.2 _ hm)
    have e : (59 : UInt8).toNat = 59 := rfl
    omega
theorem name_no {p : List UInt8} (h : nameOk p = true) : (58 : UInt8) ∉ p := fun hm => by
  have := (name_all h).2 _ hm; unfold nmC at this
  have e : (58 : UInt8).toNat = 58 := rfl
  omega
theorem part_txt {p : Pair} (h : goodP p) (a : List UInt8) (ha : ∀ c ∈ a, c ∈ cutS) : partB (a ++ txtB p) = some p := by
  have hno : (58 : UInt8) ∉ a ++ p.1 := fun hm => by
    rcases List.mem_append.1 hm with hm | hm
    · exact absurd (ha _ hm) (by decide)
    · exact name_no h.1 hm
  have e : a ++ txtB p = (a ++ p.1) ++ 58 :: ([32] ++ p.2) := by simp [txtB]
  have h1 := bare_name (b := []) ha (fun c hc => by cases hc) h.1
  have h2 := bare_val (a := [32]) (b := []) (by decide) (fun c hc => by cases hc) h.2
  rw [List.append_nil] at h1 h2
  unfold partB
  rw [e, cutAt_some hno, Option.map_some, h1, h2]
theorem pairs_more : ∀ (l : List Pair), (∀ p ∈ l, goodP p) → ∀ x : List UInt8, (59 : UInt8) ∉ x → pairsB (x ++ moreB [59, 32] (l.map txtB)) = (partB x).toList ++ l
  | [], _, x, hx => by
    unfold pairsB
    rw [List.map_nil, show moreB [59, 32] [] = [] from rfl, List.append_nil, splitB_none hx]
    cases h : partB x <;> simp [h]
  | p :: r, h, x, hx => by
    have hp := h p (by simp)
    have ih := pairs_more r (fun q hq => h q (by simp [hq])) ([32] ++ txtB p) (fun hm => by
      rcases List.mem_append.1 hm with hm | hm
      · exact absurd hm (by decide)
      · exact txt_no hp hm)
    have e : x ++ moreB [59, 32] ((p :: r).map txtB) = x ++ 59 :: ([32] ++ txtB p ++ moreB [59, 32] (r.map txtB)) := by simp [moreB]
    unfold pairsB at ih ⊢
    rw [e, splitB_app hx, List.filterMap_cons]
    rw [part_txt hp [32] (by decide)] at ih
    cases hpx : partB x with
    | none => dsimp only; rw [ih]; rfl
    | some q => dsimp only; rw [ih]; rfl
theorem pairs_join : ∀ (l : List Pair), (∀ p ∈ l, goodP p) → pairsB (joinB [59, 32] (l.map txtB)) = l
  | [], _ => by decide
  | p :: r, h => by
    have hp := h p (by simp)
    rw [List.map_cons, joinB_more, pairs_more r (fun q hq => h q (by simp [hq])) _ (txt_no hp)]
    have := part_txt hp [] (fun c hc => by cases hc)
    rw [List.nil_append] at this
    rw [this]; rfl
theorem lasts_mem : ∀ (l : List Pair), ∀ p ∈ lastsL l, p ∈ l
  | [], p, h => h
  | q :: r, p, h => by
    rw [lastsL] at h
    split at h
    · exact List.mem_cons_of_mem _ (lasts_mem r p h)
    · rcases List.mem_cons.1 h with rfl | h
      · simp
      · exact List.mem_cons_of_mem _ (lasts_mem r p h)
theorem lasts_names : ∀ (l : List Pair) (x : List UInt8), x ∈ (lastsL l).map Prod.fst ↔ x ∈ l.map Prod.fst
  | [], x => Iff.rfl
  | q :: r, x => by
    rw [lastsL]
    by_cases h : q.1 ∈ r.map Prod.fst
    · rw [if_pos h, lasts_names r x, List.map_cons, List.mem_cons]
      exact ⟨.inr, fun h2 => h2.elim (fun e => e ▸ h) id⟩
    · rw [if_neg h, List.map_cons, List.map_cons, List.mem_cons, List.mem_cons, lasts_names r x]
theorem lasts_idem : ∀ (l : List Pair), lastsL (lastsL l) = lastsL l
  | [] => rfl
  | q :: r => by
    rw [lastsL]
    by_cases h : q.1 ∈ r.map Prod.fst
    · rw [if_pos h]; exact lasts_idem r
    · rw [if_neg h, lastsL, if_neg (fun h2 => h ((lasts_names r q.1).1 h2)), lasts_idem r]
/-- A filter that looks at names alone may be put ahead. -/
theorem lasts_filter (f : List UInt8 → Bool) : ∀ (l : List Pair), (lastsL l).filter (fun p => f p.1) = lastsL (l.filter fun p => f p.1)
  | [] => rfl
  | q :: r => by
    rw [lastsL]
    by_cases hf : f q.1 = true
    · rw [List.filter_cons_of_pos (by exact hf), lastsL]
      have hm : q.1 ∈ (r.filter fun p => f p.1).map Prod.fst ↔ q.1 ∈ r.map Prod.fst := by
        simp only [List.mem_map, List.mem_filter]
        exact ⟨fun ⟨p, h1, h2⟩ => ⟨p, h1.1, h2⟩, fun ⟨p, h1, h2⟩ => ⟨p, ⟨h1, by rw [h2]; exact hf⟩, h2⟩⟩
      by_cases h : q.1 ∈ r.map Prod.fst
      · rw [if_pos h, if_pos (hm.2 h)]; exact lasts_filter f r
      · rw [if_neg h, if_neg (fun h2 => h (hm.1 h2)), List.filter_cons_of_pos (by exact hf), lasts_filter f r]
    · rw [List.filter_cons_of_neg (by exact hf)]
      split
      · exact lasts_filter f r
      · rw [List.filter_cons_of_neg (by exact hf)]; exact lasts_filter f r
def keptP (props : List (List UInt8)) (s : List UInt8) : List Pair := (pairsB s).filter (keepB props)
theorem filter_join (props : List (List UInt8)) (s : List UInt8) : filterB props s = joinB [59, 32] ((lastsL (keptP props s)).map txtB) := filterB_eq props s
theorem kept_good {props : List (List UInt8)} (hn : props.all nameOk = true) (s : List UInt8) : ∀ p ∈ keptP props s, goodP p ∧ p.1 ∈ props := fun p h => by
  have := (List.mem_filter.1 h).2
  unfold keepB at this
  rw [Bool.and_eq_true, decide_eq_true_eq] at this
  exact ⟨⟨List.all_eq_true.1 hn _ this.1, this.2⟩, this.1⟩
theorem pairs_filter {props : List (List UInt8)} (hn : props.all nameOk = true) (s : List UInt8) : pairsB (filterB props s) = lastsL (keptP props s) := by
  rw [filter_join]
  exact pairs_join _ (fun p h => (kept_good hn s p (lasts_mem _ p h)).1)
/-- FILTERED AGAIN, BY FEWER. -/
theorem filter_fewer {props few : List (List UInt8)} (hn : props.all nameOk = true) (hf : ∀ x ∈ few, x ∈ props) (s : List UInt8) : filterB few (filterB props s) = filterB few s := by
  rw [filter_join few (filterB props s), filter_join few s]
  have e1 : keptP few (filterB props s) = lastsL (keptP few s) := by
    unfold keptP
    rw [pairs_filter hn]
    have h1 : (lastsL (keptP props s)).filter (keepB few) = (lastsL (keptP props s)).filter (fun p => decide (p.1 ∈ few)) :=
      List.filter_congr fun p hp => by
        have h2 := (kept_good hn s p (lasts_mem _ p hp)).1.2
        unfold keepB; rw [h2, Bool.and_true]
    rw [h1, lasts_filter (fun x => decide (x ∈ few))]
    congr 1
    unfold keptP
    rw [List.filter_filter]
    refine List.filter_congr fun p _ => ?_
    unfold keepB
    by_cases hx : p.1 ∈ few
    · rw [decide_eq_true hx, decide_eq_true (hf _ hx)]; rfl
    · rw [decide_eq_false hx]; rfl
  rw [e1, lasts_idem]
theorem filter_again {props : List (List UInt8)} (hn : props.all nameOk = true) (s : List UInt8) : filterB props (filterB props s) = filterB props s := filter_fewer hn (fun _ h => h) s
theorem filter_nil (s : List UInt8) : filterB [] s = [] := by
  rw [filter_join]
  have : keptP [] s = [] := by
    unfold keptP
    rw [List.filter_eq_nil_iff]
    intro p _
    simp [keepB]
  rw [this]; rfl
end Go.Proofs.YtkgdplfcanonhaaDoor

namespace Go.Proofs.YtkgdplfcanonhaaDoor
open Go.Aw
set_option maxHeartbeats 1600000
set_option linter.unusedSimpArgs false
set_option linter.unusedVariables false
set_option maxRecDepth 100000 in
set_option maxHeartbeats 1000000 in
theorem names_ok (props : List (List UInt8)) (hp : props.length ≤ 1000000) (hl : ∀ p ∈ props, p.length ≤ 4611686018427387904) : PureC Tryd.prog 14 [.d (.sl (strsD props))] (.d (.bool (props.all nameOk))) := by
  have hn := strsD_len props
  refine pure_okT Tryd.wf Tryd.tab_ok Tryd.func14 (by decide +kernel) rfl rfl rfl rfl ?_
  repeat' (first |                        refine ⟨fun _ => ?_, fun h => absurd h (by decide)⟩ | refine ⟨fun h => absurd h (by decide), fun _ => ?_⟩ | (refine ⟨fun h => ?_, fun h => ?_⟩ <;> (try simp only [decide_eq_true_eq, decide_eq_false_iff_not, Bool.not_eq_true', Bool.not_eq_false', Bool.not_eq_true, Bool.not_eq_false, not_true_eq_false, beq_iff_eq, beq_eq_false_iff_ne, ne_eq, decide_eq_decide, true_iff, false_iff, iff_true, iff_false, true_and, and_true, false_or, or_false, Bool.and_true, Bool.and_eq_true, Bool.and_eq_false_iff, Bool.or_eq_true, Bool.or_eq_false_iff, List.length_cons, List.length_nil] at h) <;> (try (exfalso; first | omega | exact h rfl | (cases h; done) | exact absurd h (by assumption) | exact h (by assumption) | (simp at h; done)))) | refine ⟨⟨by (first | omega | (simp only [lenS]; omega)), by (first | omega | (simp only [lenS]; omega))⟩, _, by assumption, by rfl, ?_⟩ | refine .inl ⟨⟨by (first | omega | (simp only [lenS]; omega)), by (first | omega | (simp only [lenS]; omega))⟩, ?_⟩ | refine ⟨⟨by (first | omega | (simp only [lenS]; omega)), by (first | omega | (simp only [lenS]; omega))⟩, ?_⟩ | refine ⟨⟨by (first | omega | (simp only [lenS]; omega)), by (first | omega | (simp only [lenS]; omega)), by (first | omega | (simp only [lenS]; omega))⟩, ?_⟩ | refine ⟨.inl rfl, ?_⟩ | refine ⟨.inr (.inl (by (first | omega | (simp only [lenS]; omega)))), ?_⟩ | refine ⟨_, rfl, rfl, by (first | exact Nat.le_refl _ | exact Nat.le_of_ble_eq_true rfl | decide), ?_⟩ | refine ⟨_, rfl, by (first | exact Nat.le_refl _ | exact Nat.le_of_ble_eq_true rfl | decide), ?_⟩ | refine ⟨by (first | exact Nat.le_refl _ | exact Nat.le_of_ble_eq_true rfl | decide | exact rfl), ?_⟩ | refine ⟨show _ ≤ (9223372036854775807 : Nat) by (first | omega | (simp only [lenS]; omega)), ?_⟩ | refine ⟨show _ ≠ (0 : Int) by (first | omega | (simp only [lenS]; omega)), ?_⟩ | refine ⟨_, rfl, _, rfl, ?_⟩ | refine ⟨_, by assumption, Nat.le_of_ble_eq_true rfl, ?_⟩ | refine ⟨_, by assumption, _, rfl, ?_⟩ | refine ⟨_, rfl, ?_⟩ | fail)
  refine loopT Tryd.wf Tryd.tab_ok (fun n s' σ => ∃ k : Nat, n = props.length - k ∧ k ≤ props.length ∧ (props.take k).all nameOk = true ∧ s' = [(0, .d (.sl (strsD props))), (3, .d (.int .i64 k))] ∧ σ = ⟨0, []⟩)
    ⟨0, rfl, Nat.zero_le _, rfl, rfl, rfl⟩ (Mv.of [] rfl rfl rfl trivial ⟨rfl, rfl, trivial⟩) ?_
  rintro _ _ _ ⟨k, rfl, hk, hI, rfl, rfl⟩
  by_cases hlt : k < props.length
  · have hg := strsD_get props k hlt
    have hpl := hl props[k] (List.getElem_mem hlt)
    have go : nameOk props[k] = true → (props.take (k + 1)).all nameOk = true := fun h => by
      rw [List.take_succ_eq_append_getElem hlt, List.all_append, hI]; simp [h]
    have no : ∀ σ : Store, nameOk props[k] = false → ∃ r2 σ2, FinMove ⟨0, []⟩ (AV.d (.bool false)) σ r2 σ2 ∧ r2 = AV.d (.bool (props.all nameOk)) := fun σ h =>
      ⟨_, _, fin_out rfl, congrArg (fun b => AV.d (.bool b)) (by rw [Eq.comm, List.all_eq_false]; exact ⟨_, List.getElem_mem hlt, by rw [h]; exact Bool.false_ne_true⟩)⟩
    generalize props[k] = p at *
    repeat' (first |                        refine ⟨fun _ => ?_, fun h => absurd h (by decide)⟩ | refine ⟨fun h => absurd h (by decide), fun _ => ?_⟩ | (refine ⟨fun h => ?_, fun h => ?_⟩ <;> (try simp only [decide_eq_true_eq, decide_eq_false_iff_not, Bool.not_eq_true', Bool.not_eq_false', Bool.not_eq_true, Bool.not_eq_false, not_true_eq_false, beq_iff_eq, beq_eq_false_iff_ne, ne_eq, decide_eq_decide, true_iff, false_iff, iff_true, iff_false, true_and, and_true, false_or, or_false, Bool.and_true, Bool.and_eq_true, Bool.and_eq_false_iff, Bool.or_eq_true, Bool.or_eq_false_iff, List.length_cons, List.length_nil] at h) <;> (try (exfalso; first | omega | exact h rfl | (cases h; done) | exact absurd h (by assumption) | exact h (by assumption) | (simp at h; done)))) | refine ⟨⟨by (first | omega | (simp only [lenS]; omega)), by (first | omega | (simp only [lenS]; omega))⟩, _, by assumption, by rfl, ?_⟩ | refine .inl ⟨⟨by (first | omega | (simp only [lenS]; omega)), by (first | omega | (simp only [lenS]; omega))⟩, ?_⟩ | refine ⟨⟨by (first | omega | (simp only [lenS]; omega)), by (first | omega | (simp only [lenS]; omega))⟩, ?_⟩ | refine ⟨⟨by (first | omega | (simp only [lenS]; omega)), by (first | omega | (simp only [lenS]; omega)), by (first | omega | (simp only [lenS]; omega))⟩, ?_⟩ | refine ⟨.inl rfl, ?_⟩ | refine ⟨.inr (.inl (by (first | omega | (simp only [lenS]; omega)))), ?_⟩ | refine ⟨_, rfl, rfl, by (first | exact Nat.le_refl _ | exact Nat.le_of_ble_eq_true rfl | decide), ?_⟩ | refine ⟨_, rfl, by (first | exact Nat.le_refl _ | exact Nat.le_of_ble_eq_true rfl | decide), ?_⟩ | refine ⟨by (first | exact Nat.le_refl _ | exact Nat.le_of_ble_eq_true rfl | decide | exact rfl), ?_⟩ | refine ⟨show _ ≤ (9223372036854775807 : Nat) by (first | omega | (simp only [lenS]; omega)), ?_⟩ | refine ⟨show _ ≠ (0 : Int) by (first | omega | (simp only [lenS]; omega)), ?_⟩ | refine ⟨_, rfl, _, rfl, ?_⟩ | refine ⟨_, by assumption, Nat.le_of_ble_eq_true rfl, ?_⟩ | refine ⟨_, by assumption, _, rfl, ?_⟩ | refine ⟨_, rfl, ?_⟩ | fail)
    refine loopT Tryd.wf Tryd.tab_ok (fun n s' σ => ∃ j : Nat, n = p.length - j ∧ j ≤ p.length ∧ nmTo p j = true ∧ s' = [(0, .d (.sl (strsD props))), (3, .d (.int .i64 k)), (4, .d (.int .i64 j))] ∧ σ = ⟨0, []⟩)
      ⟨0, rfl, Nat.zero_le _, rfl, rfl, rfl⟩ (Mv.of [] rfl rfl rfl trivial ⟨rfl, rfl, rfl, trivial⟩) ?_
    rintro _ _ _ ⟨j, rfl, hj, hJ, rfl, rfl⟩
    by_cases hjl : j < p.length
    · have hst : nmTo p (j + 1) = (letL (p.getD ((j : Nat) : Int).toNat 0) || (decide (0 < j) && decide ((p.getD ((j : Nat) : Int).toNat 0).toNat = 45))) := by rw [nmTo, hJ, Bool.true_and]; rfl
      unfold letL at hst
      have bad : ∀ σ : Store, nmTo p (j + 1) = false → ∃ r2 σ2, FinMove ⟨0, []⟩ (AV.d (.bool false)) σ r2 σ2 ∧ r2 = AV.d (.bool (props.all nameOk)) := fun σ h => no σ (by
        unfold nameOk; rw [show p.length = j + 1 + (p.length - (j + 1)) from by omega, nmTo_bad p _ h]; rfl)
      clear hI hJ no go
      repeat' (first |                        refine ⟨fun _ => ?_, fun h => absurd h (by decide)⟩ | refine ⟨fun h => absurd h (by decide), fun _ => ?_⟩ | (refine ⟨fun h => ?_, fun h => ?_⟩ <;> (try simp only [decide_eq_true_eq, decide_eq_false_iff_not, Bool.not_eq_true', Bool.not_eq_false', Bool.not_eq_true, Bool.not_eq_false, not_true_eq_false, beq_iff_eq, beq_eq_false_iff_ne, ne_eq, decide_eq_decide, true_iff, false_iff, iff_true, iff_false, true_and, and_true, false_or, or_false, Bool.and_true, Bool.and_eq_true, Bool.and_eq_false_iff, Bool.or_eq_true, Bool.or_eq_false_iff, List.length_cons, List.length_nil] at h) <;> (try (exfalso; first | omega | exact h rfl | (cases h; done) | exact absurd h (by assumption) | exact h (by assumption) | (simp at h; done)))) | refine ⟨⟨by (first | omega | (simp only [lenS]; omega)), by (first | omega | (simp only [lenS]; omega))⟩, _, by assumption, by rfl, ?_⟩ | refine .inl ⟨⟨by (first | omega | (simp only [lenS]; omega)), by (first | omega | (simp only [lenS]; omega))⟩, ?_⟩ | refine ⟨⟨by (first | omega | (simp only [lenS]; omega)), by (first | omega | (simp only [lenS]; omega))⟩, ?_⟩ | refine ⟨⟨by (first | omega | (simp only [lenS]; omega)), by (first | omega | (simp only [lenS]; omega)), by (first | omega | (simp only [lenS]; omega))⟩, ?_⟩ | refine ⟨.inl rfl, ?_⟩ | refine ⟨.inr (.inl (by (first | omega | (simp only [lenS]; omega)))), ?_⟩ | refine ⟨_, rfl, rfl, by (first | exact Nat.le_refl _ | exact Nat.le_of_ble_eq_true rfl | decide), ?_⟩ | refine ⟨_, rfl, by (first | exact Nat.le_refl _ | exact Nat.le_of_ble_eq_true rfl | decide), ?_⟩ | refine ⟨by (first | exact Nat.le_refl _ | exact Nat.le_of_ble_eq_true rfl | decide | exact rfl), ?_⟩ | refine ⟨show _ ≤ (9223372036854775807 : Nat) by (first | omega | (simp only [lenS]; omega)), ?_⟩ | refine ⟨show _ ≠ (0 : Int) by (first | omega | (simp only [lenS]; omega)), ?_⟩ | refine ⟨_, rfl, _, rfl, ?_⟩ | refine ⟨_, by assumption, Nat.le_of_ble_eq_true rfl, ?_⟩ | refine ⟨_, by assumption, _, rfl, ?_⟩ | refine ⟨_, rfl, ?_⟩ | fail)
      all_goals first
        | exact ⟨_, _, _, ⟨j + 1, rfl, hjl, by rw [hst]; simp only [Bool.or_eq_true, Bool.and_eq_true, decide_eq_true_eq]; omega, rfl, rfl⟩, by omega, Mv.of [] rfl rfl rfl trivial ⟨rfl, rfl, rfl, trivial⟩⟩
        | exact bad _ (by rw [hst]; simp only [Bool.or_eq_false_iff, Bool.and_eq_false_iff, decide_eq_false_iff_not]; omega)
    · have hj' : j = p.length := by omega
      subst hj'
      by_cases h0 : p = []
      · subst h0
        repeat' (first |                        refine ⟨fun _ => ?_, fun h => absurd h (by decide)⟩ | refine ⟨fun h => absurd h (by decide), fun _ => ?_⟩ | (refine ⟨fun h => ?_, fun h => ?_⟩ <;> (try simp only [decide_eq_true_eq, decide_eq_false_iff_not, Bool.not_eq_true', Bool.not_eq_false', Bool.not_eq_true, Bool.not_eq_false, not_true_eq_false, beq_iff_eq, beq_eq_false_iff_ne, ne_eq, decide_eq_decide, true_iff, false_iff, iff_true, iff_false, true_and, and_true, false_or, or_false, Bool.and_true, Bool.and_eq_true, Bool.and_eq_false_iff, Bool.or_eq_true, Bool.or_eq_false_iff, List.length_cons, List.length_nil] at h) <;> (try (exfalso; first | omega | exact h rfl | (cases h; done) | exact absurd h (by assumption) | exact h (by assumption) | (simp at h; done)))) | refine ⟨⟨by (first | omega | (simp only [lenS]; omega)), by (first | omega | (simp only [lenS]; omega))⟩, _, by assumption, by rfl, ?_⟩ | refine .inl ⟨⟨by (first | omega | (simp only [lenS]; omega)), by (first | omega | (simp only [lenS]; omega))⟩, ?_⟩ | refine ⟨⟨by (first | omega | (simp only [lenS]; omega)), by (first | omega | (simp only [lenS]; omega))⟩, ?_⟩ | refine ⟨⟨by (first | omega | (simp only [lenS]; omega)), by (first | omega | (simp only [lenS]; omega)), by (first | omega | (simp only [lenS]; omega))⟩, ?_⟩ | refine ⟨.inl rfl, ?_⟩ | refine ⟨.inr (.inl (by (first | omega | (simp only [lenS]; omega)))), ?_⟩ | refine ⟨_, rfl, rfl, by (first | exact Nat.le_refl _ | exact Nat.le_of_ble_eq_true rfl | decide), ?_⟩ | refine ⟨_, rfl, by (first | exact Nat.le_refl _ | exact Nat.le_of_ble_eq_true rfl | decide), ?_⟩ | refine ⟨by (first | exact Nat.le_refl _ | exact Nat.le_of_ble_eq_true rfl | decide | exact rfl), ?_⟩ | refine ⟨show _ ≤ (9223372036854775807 : Nat) by (first | omega | (simp only [lenS]; omega)), ?_⟩ | refine ⟨show _ ≠ (0 : Int) by (first | omega | (simp only [lenS]; omega)), ?_⟩ | refine ⟨_, rfl, _, rfl, ?_⟩ | refine ⟨_, by assumption, Nat.le_of_ble_eq_true rfl, ?_⟩ | refine ⟨_, by assumption, _, rfl, ?_⟩ | refine ⟨_, rfl, ?_⟩ | fail)
        exact no _ rfl
      · have hok : nameOk p = true := by unfold nameOk; rw [hJ, decide_eq_false h0]; rfl
        have hgo := go hok
        clear go no hok hJ
        repeat' (first |                        refine ⟨fun _ => ?_, fun h => absurd h (by decide)⟩ | refine ⟨fun h => absurd h (by decide), fun _ => ?_⟩ | (refine ⟨fun h => ?_, fun h => ?_⟩ <;> (try simp only [decide_eq_true_eq, decide_eq_false_iff_not, Bool.not_eq_true', Bool.not_eq_false', Bool.not_eq_true, Bool.not_eq_false, not_true_eq_false, beq_iff_eq, beq_eq_false_iff_ne, ne_eq, decide_eq_decide, true_iff, false_iff, iff_true, iff_false, true_and, and_true, false_or, or_false, Bool.and_true, Bool.and_eq_true, Bool.and_eq_false_iff, Bool.or_eq_true, Bool.or_eq_false_iff, List.length_cons, List.length_nil] at h) <;> (try (exfalso; first | omega | exact h rfl | (cases h; done) | exact absurd h (by assumption) | exact h (by assumption) | (simp at h; done)))) | refine ⟨⟨by (first | omega | (simp only [lenS]; omega)), by (first | omega | (simp only [lenS]; omega))⟩, _, by assumption, by rfl, ?_⟩ | refine .inl ⟨⟨by (first | omega | (simp only [lenS]; omega)), by (first | omega | (simp only [lenS]; omega))⟩, ?_⟩ | refine ⟨⟨by (first | omega | (simp only [lenS]; omega)), by (first | omega | (simp only [lenS]; omega))⟩, ?_⟩ | refine ⟨⟨by (first | omega | (simp only [lenS]; omega)), by (first | omega | (simp only [lenS]; omega)), by (first | omega | (simp only [lenS]; omega))⟩, ?_⟩ | refine ⟨.inl rfl, ?_⟩ | refine ⟨.inr (.inl (by (first | omega | (simp only [lenS]; omega)))), ?_⟩ | refine ⟨_, rfl, rfl, by (first | exact Nat.le_refl _ | exact Nat.le_of_ble_eq_true rfl | decide), ?_⟩ | refine ⟨_, rfl, by (first | exact Nat.le_refl _ | exact Nat.le_of_ble_eq_true rfl | decide), ?_⟩ | refine ⟨by (first | exact Nat.le_refl _ | exact Nat.le_of_ble_eq_true rfl | decide | exact rfl), ?_⟩ | refine ⟨show _ ≤ (9223372036854775807 : Nat) by (first | omega | (simp only [lenS]; omega)), ?_⟩ | refine ⟨show _ ≠ (0 : Int) by (first | omega | (simp only [lenS]; omega)), ?_⟩ | refine ⟨_, rfl, _, rfl, ?_⟩ | refine ⟨_, by assumption, Nat.le_of_ble_eq_true rfl, ?_⟩ | refine ⟨_, by assumption, _, rfl, ?_⟩ | refine ⟨_, rfl, ?_⟩ | fail)
        exact ⟨_, _, _, ⟨k + 1, rfl, hlt, hgo, rfl, rfl⟩, by omega, Mv.of [] rfl rfl rfl trivial ⟨rfl, rfl, trivial⟩⟩
  · have hk' : k = props.length := by omega
    subst hk'
    rw [List.take_length] at hI
    rw [hI]
    repeat' (first |                        refine ⟨fun _ => ?_, fun h => absurd h (by decide)⟩ | refine ⟨fun h => absurd h (by decide), fun _ => ?_⟩ | (refine ⟨fun h => ?_, fun h => ?_⟩ <;> (try simp only [decide_eq_true_eq, decide_eq_false_iff_not, Bool.not_eq_true', Bool.not_eq_false', Bool.not_eq_true, Bool.not_eq_false, not_true_eq_false, beq_iff_eq, beq_eq_false_iff_ne, ne_eq, decide_eq_decide, true_iff, false_iff, iff_true, iff_false, true_and, and_true, false_or, or_false, Bool.and_true, Bool.and_eq_true, Bool.and_eq_false_iff, Bool.or_eq_true, Bool.or_eq_false_iff, List.length_cons, List.length_nil] at h) <;> (try (exfalso; first | omega | exact h rfl | (cases h; done) | exact absurd h (by assumption) | exact h (by assumption) | (simp at h; done)))) | refine ⟨⟨by (first | omega | (simp only [lenS]; omega)), by (first | omega | (simp only [lenS]; omega))⟩, _, by assumption, by rfl, ?_⟩ | refine .inl ⟨⟨by (first | omega | (simp only [lenS]; omega)), by (first | omega | (simp only [lenS]; omega))⟩, ?_⟩ | refine ⟨⟨by (first | omega | (simp only [lenS]; omega)), by (first | omega | (simp only [lenS]; omega))⟩, ?_⟩ | refine ⟨⟨by (first | omega | (simp only [lenS]; omega)), by (first | omega | (simp only [lenS]; omega)), by (first | omega | (simp only [lenS]; omega))⟩, ?_⟩ | refine ⟨.inl rfl, ?_⟩ | refine ⟨.inr (.inl (by (first | omega | (simp only [lenS]; omega)))), ?_⟩ | refine ⟨_, rfl, rfl, by (first | exact Nat.le_refl _ | exact Nat.le_of_ble_eq_true rfl | decide), ?_⟩ | refine ⟨_, rfl, by (first | exact Nat.le_refl _ | exact Nat.le_of_ble_eq_true rfl | decide), ?_⟩ | refine ⟨by (first | exact Nat.le_refl _ | exact Nat.le_of_ble_eq_true rfl | decide | exact rfl), ?_⟩ | refine ⟨show _ ≤ (9223372036854775807 : Nat) by (first | omega | (simp only [lenS]; omega)), ?_⟩ | refine ⟨show _ ≠ (0 : Int) by (first | omega | (simp only [lenS]; omega)), ?_⟩ | refine ⟨_, rfl, _, rfl, ?_⟩ | refine ⟨_, by assumption, Nat.le_of_ble_eq_true rfl, ?_⟩ | refine ⟨_, by assumption, _, rfl, ?_⟩ | refine ⟨_, rfl, ?_⟩ | fail)
    exact ⟨_, _, fin_out rfl, rfl⟩
end Go.Proofs.YtkgdplfcanonhaaDoor

namespace Go.Proofs.YtkgdplfcanonhaaDoor
open Go.Aw
set_option maxHeartbeats 1600000
set_option linter.unusedSimpArgs false
set_option linter.unusedVariables false
def wP (l : List Pair) : Nat := (l.map fun p => p.1.length + p.2.length + 4).sum
theorem wP_cons (p : Pair) (l : List Pair) : wP (p :: l) = p.1.length + p.2.length + 4 + wP l := rfl
theorem wP_lasts : ∀ l : List Pair, wP (lastsL l) ≤ wP l
  | [] => Nat.le_refl _
  | p :: r => by
    have := wP_lasts r
    rw [lastsL, wP_cons]
    split
    · omega
    · rw [wP_cons]; omega
theorem wP_filter (f : Pair → Bool) : ∀ l : List Pair, wP (l.filter f) ≤ wP l
  | [] => Nat.le_refl _
  | p :: r => by
    have := wP_filter f r
    rw [List.filter_cons, wP_cons]
    split
    · rw [wP_cons]; omega
    · omega
theorem wP_parts : ∀ l : List (List UInt8), wP (l.filterMap partB) ≤ lensB l + 4 * l.length
  | [] => Nat.le_refl _
  | x :: r => by
    have := wP_parts r
    have e : lensB (x :: r) = x.length + lensB r := by simp [lensB]
    rw [List.filterMap_cons, e, List.length_cons]
    split
    · omega
    · rename_i q hq
      have := part_len hq
      rw [wP_cons]; omega
theorem lens_split (c : UInt8) : ∀ s : List UInt8, lensB (splitB c s) ≤ s.length
  | [] => by simp [splitB, lensB]
  | x :: r => by
    have ih := lens_split c r
    rw [splitB, List.length_cons]
    split
    · have e : lensB ([] :: splitB c r) = lensB (splitB c r) := by simp [lensB]
      omega
    · split
      · rename_i p ps hp
        rw [hp] at ih
        have e1 : lensB (p :: ps) = p.length + lensB ps := by simp [lensB]
        have e2 : lensB ((x :: p) :: ps) = p.length + 1 + lensB ps := by simp [lensB]
        omega
      · simp [lensB]
theorem more_len : ∀ l : List Pair, (moreB [59, 32] (l.map txtB)).length ≤ wP l
  | [] => Nat.le_refl _
  | p :: r => by
    have ih := more_len r
    have e : moreB [59, 32] ((p :: r).map txtB) = [59, 32] ++ txtB p ++ moreB [59, 32] (r.map txtB) := by simp [moreB]
    rw [e, wP_cons]
    simp only [List.length_append, txtB, List.length_cons, List.length_nil]
    omega
theorem join_len : ∀ l : List Pair, (joinB [59, 32] (l.map txtB)).length ≤ wP l
  | [] => Nat.le_refl _
  | p :: r => by
    have ih := more_len r
    rw [List.map_cons, joinB_more, wP_cons]
    simp only [List.length_append, txtB, List.length_cons, List.length_nil]
    omega
theorem filter_len (props : List (List UInt8)) (s : List UInt8) : (filterB props s).length ≤ 5 * s.length + 4 := by
  rw [filter_join]
  have h1 := join_len (lastsL (keptP props s))
  have h2 := wP_lasts (keptP props s)
  have h3 := wP_filter (keepB props) (pairsB s)
  have h4 := wP_parts (splitB 59 s)
  have h5 := lens_split 59 s
  have h6 := splitB_len 59 s
  have h7 := List.count_le_length (a := 59) (l := s)
  unfold keptP at *
  unfold pairsB at *
  omega
def goodC (c : UInt8) : Prop := (97 ≤ c.toNat ∧ c.toNat ≤ 122) ∨ (48 ≤ c.toNat ∧ c.toNat ≤ 57) ∨ c.toNat = 32 ∨ c.toNat = 35 ∨ c.toNat = 37 ∨ c.toNat = 46 ∨ c.toNat = 44 ∨ c.toNat = 45 ∨ c.toNat = 58 ∨ c.toNat = 59
theorem txt_bytes {p : Pair} (h : goodP p) : ∀ c ∈ txtB p, goodC c := fun c hc => by
  unfold txtB at hc
  simp only [List.mem_append, List.mem_cons, List.not_mem_nil, or_false] at hc
  unfold goodC
  rcases hc with (hc | rfl | rfl) | hc
  · have := (name_all h.1).2 _ hc; unfold nmC at this; omega
  · exact .inr (.inr (.inr (.inr (.inr (.inr (.inr (.inr (.inl rfl))))))))
  · exact .inr (.inr (.inl rfl))
  · have := okB_cases ((val_all h.2).2.2.2.2 _ hc); omega
theorem more_bytes : ∀ (l : List Pair), (∀ p ∈ l, goodP p) → ∀ c ∈ moreB [59, 32] (l.map txtB), goodC c
  | [], _, c, hc => by cases hc
  | p :: r, h, c, hc => by
    have e : moreB [59, 32] ((p :: r).map txtB) = [59, 32] ++ txtB p ++ moreB [59, 32] (r.map txtB) := by simp [moreB]
    rw [e] at hc
    rcases List.mem_append.1 hc with hc | hc
    · rcases List.mem_append.1 hc with hc | hc
      · simp only [List.mem_cons, List.not_mem_nil, or_false] at hc
        rcases hc with rfl | rfl
        · exact .inr (.inr (.inr (.inr (.inr (.inr (.inr (.inr (.inr rfl))))))))
        · exact .inr (.inr (.inl rfl))
      · exact txt_bytes (h p (by simp)) c hc
    · exact more_bytes r (fun q hq => h q (by simp [hq])) c hc
theorem filter_bytes {props : List (List UInt8)} (hn : props.all nameOk = true) (s : List UInt8) : ∀ c ∈ filterB props s, goodC c := fun c hc => by
  rw [filter_join] at hc
  have hg : ∀ p ∈ lastsL (keptP props s), goodP p := fun p h => (kept_good hn s p (lasts_mem _ p h)).1
  generalize lastsL (keptP props s) = l at *
  cases l with
  | nil => cases hc
  | cons p r =>
    rw [List.map_cons, joinB_more] at hc
    rcases List.mem_append.1 hc with hc | hc
    · exact txt_bytes (hg p (by simp)) c hc
    · exact more_bytes r (fun q hq => hg q (by simp [hq])) c hc
set_option maxRecDepth 100000 in
set_option maxHeartbeats 1000000 in
theorem StyleAgain_ok (s : List UInt8) (props : List (List UInt8)) (hpl : ∀ p ∈ props, p.length ≤ 4611686018427387904) : PureC Tryd.prog 5 [.d (.str s), .d (.sl (strsD props))] (.d (.bool true)) := by
  have hc1 := awake_ok
  have hn := strsD_len props
  by_cases hl : s.length ≤ 3000 ∧ props.length ≤ 50
  · have hc2 := names_ok props (by omega) hpl
    cases hnm : props.all nameOk with
    | false =>
      rw [hnm] at hc2
      refine pure_okT Tryd.wf Tryd.tab_ok Tryd.func5 (by decide +kernel) rfl rfl rfl rfl ?_
      repeat' (first | refine PureC.use hc1 ?_ | refine PureC.use hc2 ?_ | refine PureC.use hc3 ?_ | refine PureC.use hc4 ?_ |                    refine ⟨fun _ => ?_, fun h => absurd h (by decide)⟩ | refine ⟨fun h => absurd h (by decide), fun _ => ?_⟩ | (refine ⟨fun h => ?_, fun h => ?_⟩ <;> (try simp only [decide_eq_true_eq, decide_eq_false_iff_not, Bool.not_eq_true', Bool.not_eq_false', Bool.not_eq_true, Bool.not_eq_false, not_true_eq_false, beq_iff_eq, beq_eq_false_iff_ne, ne_eq, decide_eq_decide, true_iff, false_iff, iff_true, iff_false, true_and, and_true, false_or, or_false, Bool.and_true, Bool.and_eq_true, Bool.and_eq_false_iff, Bool.or_eq_true, Bool.or_eq_false_iff, List.length_cons, List.length_nil] at h) <;> (try (exfalso; first | omega | exact h rfl | (cases h; done) | exact absurd h (by assumption) | exact h (by assumption) | (simp at h; done)))) | refine ⟨⟨by (first | omega | (simp only [lenS]; omega)), by (first | omega | (simp only [lenS]; omega))⟩, _, by assumption, by rfl, ?_⟩ | refine .inl ⟨⟨by (first | omega | (simp only [lenS]; omega)), by (first | omega | (simp only [lenS]; omega))⟩, ?_⟩ | refine ⟨⟨by (first | omega | (simp only [lenS]; omega)), by (first | omega | (simp only [lenS]; omega))⟩, ?_⟩ | refine ⟨⟨by (first | omega | (simp only [lenS]; omega)), by (first | omega | (simp only [lenS]; omega)), by (first | omega | (simp only [lenS]; omega))⟩, ?_⟩ | refine ⟨.inl rfl, ?_⟩ | refine ⟨.inr (.inl (by (first | omega | (simp only [lenS]; omega)))), ?_⟩ | refine ⟨_, rfl, rfl, by (first | exact Nat.le_refl _ | exact Nat.le_of_ble_eq_true rfl | decide), ?_⟩ | refine ⟨_, rfl, by (first | exact Nat.le_refl _ | exact Nat.le_of_ble_eq_true rfl | decide), ?_⟩ | refine ⟨by (first | exact Nat.le_refl _ | exact Nat.le_of_ble_eq_true rfl | decide | exact rfl), ?_⟩ | refine ⟨show _ ≤ (9223372036854775807 : Nat) by (first | omega | (simp only [lenS]; omega)), ?_⟩ | refine ⟨show _ ≠ (0 : Int) by (first | omega | (simp only [lenS]; omega)), ?_⟩ | refine ⟨_, rfl, _, rfl, ?_⟩ | refine ⟨_, by assumption, Nat.le_of_ble_eq_true rfl, ?_⟩ | refine ⟨_, by assumption, _, rfl, ?_⟩ | refine ⟨_, rfl, ?_⟩ | fail)
      exact ⟨_, _, fin_out rfl, rfl⟩
    | true =>
      rw [hnm] at hc2
      have hfl := filter_len props s
      have hc3 := Filter_ok props s (by omega) (by omega)
      have hc4 := Filter_ok props (filterB props s) (by omega) (by omega)
      rw [filter_again hnm] at hc4
      have hby := filter_bytes hnm s
      generalize filterB props s = o at *
      clear hnm
      refine pure_okT Tryd.wf Tryd.tab_ok Tryd.func5 (by decide +kernel) rfl rfl rfl rfl ?_
      repeat' (first | refine PureC.use hc1 ?_ | refine PureC.use hc2 ?_ | refine PureC.use hc3 ?_ | refine PureC.use hc4 ?_ |                    refine ⟨fun _ => ?_, fun h => absurd h (by decide)⟩ | refine ⟨fun h => absurd h (by decide), fun _ => ?_⟩ | (refine ⟨fun h => ?_, fun h => ?_⟩ <;> (try simp only [decide_eq_true_eq, decide_eq_false_iff_not, Bool.not_eq_true', Bool.not_eq_false', Bool.not_eq_true, Bool.not_eq_false, not_true_eq_false, beq_iff_eq, beq_eq_false_iff_ne, ne_eq, decide_eq_decide, true_iff, false_iff, iff_true, iff_false, true_and, and_true, false_or, or_false, Bool.and_true, Bool.and_eq_true, Bool.and_eq_false_iff, Bool.or_eq_true, Bool.or_eq_false_iff, List.length_cons, List.length_nil] at h) <;> (try (exfalso; first | omega | exact h rfl | (cases h; done) | exact absurd h (by assumption) | exact h (by assumption) | (simp at h; done)))) | refine ⟨⟨by (first | omega | (simp only [lenS]; omega)), by (first | omega | (simp only [lenS]; omega))⟩, _, by assumption, by rfl, ?_⟩ | refine .inl ⟨⟨by (first | omega | (simp only [lenS]; omega)), by (first | omega | (simp only [lenS]; omega))⟩, ?_⟩ | refine ⟨⟨by (first | omega | (simp only [lenS]; omega)), by (first | omega | (simp only [lenS]; omega))⟩, ?_⟩ | refine ⟨⟨by (first | omega | (simp only [lenS]; omega)), by (first | omega | (simp only [lenS]; omega)), by (first | omega | (simp only [lenS]; omega))⟩, ?_⟩ | refine ⟨.inl rfl, ?_⟩ | refine ⟨.inr (.inl (by (first | omega | (simp only [lenS]; omega)))), ?_⟩ | refine ⟨_, rfl, rfl, by (first | exact Nat.le_refl _ | exact Nat.le_of_ble_eq_true rfl | decide), ?_⟩ | refine ⟨_, rfl, by (first | exact Nat.le_refl _ | exact Nat.le_of_ble_eq_true rfl | decide), ?_⟩ | refine ⟨by (first | exact Nat.le_refl _ | exact Nat.le_of_ble_eq_true rfl | decide | exact rfl), ?_⟩ | refine ⟨show _ ≤ (9223372036854775807 : Nat) by (first | omega | (simp only [lenS]; omega)), ?_⟩ | refine ⟨show _ ≠ (0 : Int) by (first | omega | (simp only [lenS]; omega)), ?_⟩ | refine ⟨_, rfl, _, rfl, ?_⟩ | refine ⟨_, by assumption, Nat.le_of_ble_eq_true rfl, ?_⟩ | refine ⟨_, by assumption, _, rfl, ?_⟩ | refine ⟨_, rfl, ?_⟩ | fail)
      refine loopT Tryd.wf Tryd.tab_ok (fun n s' σ => ∃ k : Nat, n = o.length - k ∧ k ≤ o.length ∧ s' = [(1, .d (.sl (strsD props))), (5, .d (.bool true)), (7, .d (.str o)), (8, .d (.int .i64 k))] ∧ σ = ⟨0, []⟩)
        ⟨0, rfl, Nat.zero_le _, rfl, rfl⟩ (Mv.of [] rfl rfl rfl trivial ⟨rfl, rfl, rfl, rfl, trivial⟩) ?_
      rintro _ _ _ ⟨k, rfl, hk, rfl, rfl⟩
      by_cases hlt : k < o.length
      · have hg := getD_at o k hlt
        have hb := hby _ (List.getElem_mem hlt)
        rw [← hg] at hb
        unfold goodC at hb
        clear hg hby
        repeat' (first | refine PureC.use hc1 ?_ | refine PureC.use hc2 ?_ | refine PureC.use hc3 ?_ | refine PureC.use hc4 ?_ |                    refine ⟨fun _ => ?_, fun h => absurd h (by decide)⟩ | refine ⟨fun h => absurd h (by decide), fun _ => ?_⟩ | (refine ⟨fun h => ?_, fun h => ?_⟩ <;> (try simp only [decide_eq_true_eq, decide_eq_false_iff_not, Bool.not_eq_true', Bool.not_eq_false', Bool.not_eq_true, Bool.not_eq_false, not_true_eq_false, beq_iff_eq, beq_eq_false_iff_ne, ne_eq, decide_eq_decide, true_iff, false_iff, iff_true, iff_false, true_and, and_true, false_or, or_false, Bool.and_true, Bool.and_eq_true, Bool.and_eq_false_iff, Bool.or_eq_true, Bool.or_eq_false_iff, List.length_cons, List.length_nil] at h) <;> (try (exfalso; first | omega | exact h rfl | (cases h; done) | exact absurd h (by assumption) | exact h (by assumption) | (simp at h; done)))) | refine ⟨⟨by (first | omega | (simp only [lenS]; omega)), by (first | omega | (simp only [lenS]; omega))⟩, _, by assumption, by rfl, ?_⟩ | refine .inl ⟨⟨by (first | omega | (simp only [lenS]; omega)), by (first | omega | (simp only [lenS]; omega))⟩, ?_⟩ | refine ⟨⟨by (first | omega | (simp only [lenS]; omega)), by (first | omega | (simp only [lenS]; omega))⟩, ?_⟩ | refine ⟨⟨by (first | omega | (simp only [lenS]; omega)), by (first | omega | (simp only [lenS]; omega)), by (first | omega | (simp only [lenS]; omega))⟩, ?_⟩ | refine ⟨.inl rfl, ?_⟩ | refine ⟨.inr (.inl (by (first | omega | (simp only [lenS]; omega)))), ?_⟩ | refine ⟨_, rfl, rfl, by (first | exact Nat.le_refl _ | exact Nat.le_of_ble_eq_true rfl | decide), ?_⟩ | refine ⟨_, rfl, by (first | exact Nat.le_refl _ | exact Nat.le_of_ble_eq_true rfl | decide), ?_⟩ | refine ⟨by (first | exact Nat.le_refl _ | exact Nat.le_of_ble_eq_true rfl | decide | exact rfl), ?_⟩ | refine ⟨show _ ≤ (9223372036854775807 : Nat) by (first | omega | (simp only [lenS]; omega)), ?_⟩ | refine ⟨show _ ≠ (0 : Int) by (first | omega | (simp only [lenS]; omega)), ?_⟩ | refine ⟨_, rfl, _, rfl, ?_⟩ | refine ⟨_, by assumption, Nat.le_of_ble_eq_true rfl, ?_⟩ | refine ⟨_, by assumption, _, rfl, ?_⟩ | refine ⟨_, rfl, ?_⟩ | fail)
        all_goals exact ⟨_, _, _, ⟨k + 1, rfl, hlt, rfl, rfl⟩, by omega, Mv.of [] rfl rfl rfl trivial ⟨rfl, rfl, rfl, rfl, trivial⟩⟩
      · have hk' : k = o.length := by omega
        subst hk'
        repeat' (first | refine PureC.use hc1 ?_ | refine PureC.use hc2 ?_ | refine PureC.use hc3 ?_ | refine PureC.use hc4 ?_ |                    refine ⟨fun _ => ?_, fun h => absurd h (by decide)⟩ | refine ⟨fun h => absurd h (by decide), fun _ => ?_⟩ | (refine ⟨fun h => ?_, fun h => ?_⟩ <;> (try simp only [decide_eq_true_eq, decide_eq_false_iff_not, Bool.not_eq_true', Bool.not_eq_false', Bool.not_eq_true, Bool.not_eq_false, not_true_eq_false, beq_iff_eq, beq_eq_false_iff_ne, ne_eq, decide_eq_decide, true_iff, false_iff, iff_true, iff_false, true_and, and_true, false_or, or_false, Bool.and_true, Bool.and_eq_true, Bool.and_eq_false_iff, Bool.or_eq_true, Bool.or_eq_false_iff, List.length_cons, List.length_nil] at h) <;> (try (exfalso; first | omega | exact h rfl | (cases h; done) | exact absurd h (by assumption) | exact h (by assumption) | (simp at h; done)))) | refine ⟨⟨by (first | omega | (simp only [lenS]; omega)), by (first | omega | (simp only [lenS]; omega))⟩, _, by assumption, by rfl, ?_⟩ | refine .inl ⟨⟨by (first | omega | (simp only [lenS]; omega)), by (first | omega | (simp only [lenS]; omega))⟩, ?_⟩ | refine ⟨⟨by (first | omega | (simp only [lenS]; omega)), by (first | omega | (simp only [lenS]; omega))⟩, ?_⟩ | refine ⟨⟨by (first | omega | (simp only [lenS]; omega)), by (first | omega | (simp only [lenS]; omega)), by (first | omega | (simp only [lenS]; omega))⟩, ?_⟩ | refine ⟨.inl rfl, ?_⟩ | refine ⟨.inr (.inl (by (first | omega | (simp only [lenS]; omega)))), ?_⟩ | refine ⟨_, rfl, rfl, by (first | exact Nat.le_refl _ | exact Nat.le_of_ble_eq_true rfl | decide), ?_⟩ | refine ⟨_, rfl, by (first | exact Nat.le_refl _ | exact Nat.le_of_ble_eq_true rfl | decide), ?_⟩ | refine ⟨by (first | exact Nat.le_refl _ | exact Nat.le_of_ble_eq_true rfl | decide | exact rfl), ?_⟩ | refine ⟨show _ ≤ (9223372036854775807 : Nat) by (first | omega | (simp only [lenS]; omega)), ?_⟩ | refine ⟨show _ ≠ (0 : Int) by (first | omega | (simp only [lenS]; omega)), ?_⟩ | refine ⟨_, rfl, _, rfl, ?_⟩ | refine ⟨_, by assumption, Nat.le_of_ble_eq_true rfl, ?_⟩ | refine ⟨_, by assumption, _, rfl, ?_⟩ | refine ⟨_, rfl, ?_⟩ | fail)
        exact ⟨_, _, fin_out rfl, congrArg (fun b => AV.d (.bool b)) (by simp)⟩
  · refine pure_okT Tryd.wf Tryd.tab_ok Tryd.func5 (by decide +kernel) rfl rfl rfl rfl ?_
    repeat' (first | refine PureC.use hc1 ?_ | refine PureC.use hc2 ?_ | refine PureC.use hc3 ?_ | refine PureC.use hc4 ?_ |                    refine ⟨fun _ => ?_, fun h => absurd h (by decide)⟩ | refine ⟨fun h => absurd h (by decide), fun _ => ?_⟩ | (refine ⟨fun h => ?_, fun h => ?_⟩ <;> (try simp only [decide_eq_true_eq, decide_eq_false_iff_not, Bool.not_eq_true', Bool.not_eq_false', Bool.not_eq_true, Bool.not_eq_false, not_true_eq_false, beq_iff_eq, beq_eq_false_iff_ne, ne_eq, decide_eq_decide, true_iff, false_iff, iff_true, iff_false, true_and, and_true, false_or, or_false, Bool.and_true, Bool.and_eq_true, Bool.and_eq_false_iff, Bool.or_eq_true, Bool.or_eq_false_iff, List.length_cons, List.length_nil] at h) <;> (try (exfalso; first | omega | exact h rfl | (cases h; done) | exact absurd h (by assumption) | exact h (by assumption) | (simp at h; done)))) | refine ⟨⟨by (first | omega | (simp only [lenS]; omega)), by (first | omega | (simp only [lenS]; omega))⟩, _, by assumption, by rfl, ?_⟩ | refine .inl ⟨⟨by (first | omega | (simp only [lenS]; omega)), by (first | omega | (simp only [lenS]; omega))⟩, ?_⟩ | refine ⟨⟨by (first | omega | (simp only [lenS]; omega)), by (first | omega | (simp only [lenS]; omega))⟩, ?_⟩ | refine ⟨⟨by (first | omega | (simp only [lenS]; omega)), by (first | omega | (simp only [lenS]; omega)), by (first | omega | (simp only [lenS]; omega))⟩, ?_⟩ | refine ⟨.inl rfl, ?_⟩ | refine ⟨.inr (.inl (by (first | omega | (simp only [lenS]; omega)))), ?_⟩ | refine ⟨_, rfl, rfl, by (first | exact Nat.le_refl _ | exact Nat.le_of_ble_eq_true rfl | decide), ?_⟩ | refine ⟨_, rfl, by (first | exact Nat.le_refl _ | exact Nat.le_of_ble_eq_true rfl | decide), ?_⟩ | refine ⟨by (first | exact Nat.le_refl _ | exact Nat.le_of_ble_eq_true rfl | decide | exact rfl), ?_⟩ | refine ⟨show _ ≤ (9223372036854775807 : Nat) by (first | omega | (simp only [lenS]; omega)), ?_⟩ | refine ⟨show _ ≠ (0 : Int) by (first | omega | (simp only [lenS]; omega)), ?_⟩ | refine ⟨_, rfl, _, rfl, ?_⟩ | refine ⟨_, by assumption, Nat.le_of_ble_eq_true rfl, ?_⟩ | refine ⟨_, by assumption, _, rfl, ?_⟩ | refine ⟨_, rfl, ?_⟩ | fail)
    all_goals exact ⟨_, _, fin_out rfl, rfl⟩
theorem StyleAgain_law {n n' : Nat} {r r' : List D} (h : DOk Tryd.prog n 9 r) (h' : DOk Tryd.prog n' 22 r') : PureC Tryd.prog 5 [argAV Tryd.prog 9 r, argAV Tryd.prog 22 r'] (.d (.bool true)) := by
  obtain ⟨s, rfl, _⟩ := dok_str h
  obtain ⟨l, rfl, _, hl⟩ := dok_strs h'
  rw [arg_str, arg_strs]; exact StyleAgain_ok s l (fun p hp => Nat.le_trans (hl p hp) (by decide))
end Go.Proofs.YtkgdplfcanonhaaDoor

namespace Go.Proofs.YtkgdplfcanonhaaDoor
open Go.Aw
set_option maxHeartbeats 1600000
set_option linter.unusedSimpArgs false
set_option linter.unusedVariables false
theorem nil_sub (s : List UInt8) : Sub (.agg [.d (.str s), .nil]) (.agg [.d (.str s), .d (.sl [])]) := Sub.agg rfl (fun i x y hx hy => by
  match i with
  | 0 => cases hx; cases hy; exact Sub.refl _
  | 1 => cases hx; cases hy; exact Sub.nil
  | k + 2 => simp at hx)
theorem strsD_take (l : List (List UInt8)) (m : Nat) : (strsD l).take m = strsD (l.take m) := by simp [strsD]
set_option maxRecDepth 100000 in
set_option maxHeartbeats 1000000 in
theorem StyleFewer_ok (s : List UInt8) (props : List (List UInt8)) (x : Int) (hx : x ≤ 9223372036854775807) (hpl : ∀ p ∈ props, p.length ≤ 4611686018427387904) : PureC Tryd.prog 6 [.d (.str s), .d (.sl (strsD props)), .d (.int .i64 x)] (.d (.bool true)) := by
  have hc1 := awake_ok
  have hn := strsD_len props
  by_cases hl : s.length ≤ 3000 ∧ props.length ≤ 50 ∧ 0 ≤ x
  · have hc2 := names_ok props (by omega) hpl
    cases hnm : props.all nameOk with
    | false =>
      rw [hnm] at hc2
      refine pure_okT Tryd.wf Tryd.tab_ok Tryd.func6 (by decide +kernel) rfl rfl rfl rfl ?_
      repeat' (first | refine PureC.use hc1 ?_ | refine PureC.use hc2 ?_ | refine PureC.use hc3 ?_ | refine PureC.use hc4 ?_ | refine PureC.use hc5 ?_ |                   refine ⟨fun _ => ?_, fun h => absurd h (by decide)⟩ | refine ⟨fun h => absurd h (by decide), fun _ => ?_⟩ | (refine ⟨fun h => ?_, fun h => ?_⟩ <;> (try simp only [decide_eq_true_eq, decide_eq_false_iff_not, Bool.not_eq_true', Bool.not_eq_false', Bool.not_eq_true, Bool.not_eq_false, not_true_eq_false, beq_iff_eq, beq_eq_false_iff_ne, ne_eq, decide_eq_decide, true_iff, false_iff, iff_true, iff_false, true_and, and_true, false_or, or_false, Bool.and_true, Bool.and_eq_true, Bool.and_eq_false_iff, Bool.or_eq_true, Bool.or_eq_false_iff, List.length_cons, List.length_nil] at h) <;> (try (exfalso; first | omega | exact h rfl | (cases h; done) | exact absurd h (by assumption) | exact h (by assumption) | (simp at h; done)))) | refine ⟨⟨by (first | omega | (simp only [lenS]; omega)), by (first | omega | (simp only [lenS]; omega))⟩, _, by assumption, by rfl, ?_⟩ | refine .inl ⟨⟨by (first | omega | (simp only [lenS]; omega)), by (first | omega | (simp only [lenS]; omega))⟩, ?_⟩ | refine ⟨⟨by (first | omega | (simp only [lenS]; omega)), by (first | omega | (simp only [lenS]; omega))⟩, ?_⟩ | refine ⟨⟨by (first | omega | (simp only [lenS]; omega)), by (first | omega | (simp only [lenS]; omega)), by (first | omega | (simp only [lenS]; omega))⟩, ?_⟩ | refine ⟨.inl rfl, ?_⟩ | refine ⟨.inr (.inl (by (first | omega | (simp only [lenS]; omega)))), ?_⟩ | refine ⟨_, rfl, rfl, by (first | exact Nat.le_refl _ | exact Nat.le_of_ble_eq_true rfl | decide), ?_⟩ | refine ⟨_, rfl, by (first | exact Nat.le_refl _ | exact Nat.le_of_ble_eq_true rfl | decide), ?_⟩ | refine ⟨by (first | exact Nat.le_refl _ | exact Nat.le_of_ble_eq_true rfl | decide | exact rfl), ?_⟩ | refine ⟨show _ ≤ (9223372036854775807 : Nat) by (first | omega | (simp only [lenS]; omega)), ?_⟩ | refine ⟨show _ ≠ (0 : Int) by (first | omega | (simp only [lenS]; omega)), ?_⟩ | refine ⟨_, rfl, _, rfl, ?_⟩ | refine ⟨_, by assumption, Nat.le_of_ble_eq_true rfl, ?_⟩ | refine ⟨_, by assumption, _, rfl, ?_⟩ | refine ⟨_, rfl, ?_⟩ | fail)
      exact ⟨_, _, fin_out rfl, rfl⟩
    | true =>
      rw [hnm] at hc2
      obtain ⟨m, rfl⟩ := Int.eq_ofNat_of_zero_le hl.2.2
      have hmod : m % (props.length + 1) < props.length + 1 := Nat.mod_lt _ (by omega)
      have hre : ((m : Nat) : Int).tmod (((strsD props).length : Int) + 1) = ((m % (props.length + 1) : Nat) : Int) := by rw [hn]; rfl
      have htk : ((strsD props).take (((m : Nat) : Int).tmod (((strsD props).length : Int) + 1)).toNat).drop (0 : Int).toNat = strsD (props.take (m % (props.length + 1))) := by
        rw [hre, Int.toNat_natCast, strsD_take]; rfl
      generalize m % (props.length + 1) = k at *
      have hfl := filter_len props s
      have hc3 := Filter_ok props s (by omega) (by omega)
      have hc4 := Filter_ok (props.take k) (filterB props s) (by rw [List.length_take]; omega) (by omega)
      rw [filter_fewer hnm (fun y hy => List.mem_of_mem_take hy)] at hc4
      have hc5 := Filter_ok (props.take k) s (by rw [List.length_take]; omega) (by omega)
      have h0 := Filter_ok [] s (by decide) (by omega)
      rw [filter_nil] at h0
      clear hnm hfl
      rw [← htk] at hc4 hc5
      refine pure_okT Tryd.wf Tryd.tab_ok Tryd.func6 (by decide +kernel) rfl rfl rfl rfl ?_
      repeat' (first | refine PureC.use hc1 ?_ | refine PureC.use hc2 ?_ | refine PureC.use hc3 ?_ | refine PureC.use hc4 ?_ | refine PureC.use hc5 ?_ |                   refine ⟨fun _ => ?_, fun h => absurd h (by decide)⟩ | refine ⟨fun h => absurd h (by decide), fun _ => ?_⟩ | (refine ⟨fun h => ?_, fun h => ?_⟩ <;> (try simp only [decide_eq_true_eq, decide_eq_false_iff_not, Bool.not_eq_true', Bool.not_eq_false', Bool.not_eq_true, Bool.not_eq_false, not_true_eq_false, beq_iff_eq, beq_eq_false_iff_ne, ne_eq, decide_eq_decide, true_iff, false_iff, iff_true, iff_false, true_and, and_true, false_or, or_false, Bool.and_true, Bool.and_eq_true, Bool.and_eq_false_iff, Bool.or_eq_true, Bool.or_eq_false_iff, List.length_cons, List.length_nil] at h) <;> (try (exfalso; first | omega | exact h rfl | (cases h; done) | exact absurd h (by assumption) | exact h (by assumption) | (simp at h; done)))) | refine ⟨⟨by (first | omega | (simp only [lenS]; omega)), by (first | omega | (simp only [lenS]; omega))⟩, _, by assumption, by rfl, ?_⟩ | refine .inl ⟨⟨by (first | omega | (simp only [lenS]; omega)), by (first | omega | (simp only [lenS]; omega))⟩, ?_⟩ | refine ⟨⟨by (first | omega | (simp only [lenS]; omega)), by (first | omega | (simp only [lenS]; omega))⟩, ?_⟩ | refine ⟨⟨by (first | omega | (simp only [lenS]; omega)), by (first | omega | (simp only [lenS]; omega)), by (first | omega | (simp only [lenS]; omega))⟩, ?_⟩ | refine ⟨.inl rfl, ?_⟩ | refine ⟨.inr (.inl (by (first | omega | (simp only [lenS]; omega)))), ?_⟩ | refine ⟨_, rfl, rfl, by (first | exact Nat.le_refl _ | exact Nat.le_of_ble_eq_true rfl | decide), ?_⟩ | refine ⟨_, rfl, by (first | exact Nat.le_refl _ | exact Nat.le_of_ble_eq_true rfl | decide), ?_⟩ | refine ⟨by (first | exact Nat.le_refl _ | exact Nat.le_of_ble_eq_true rfl | decide | exact rfl), ?_⟩ | refine ⟨show _ ≤ (9223372036854775807 : Nat) by (first | omega | (simp only [lenS]; omega)), ?_⟩ | refine ⟨show _ ≠ (0 : Int) by (first | omega | (simp only [lenS]; omega)), ?_⟩ | refine ⟨_, rfl, _, rfl, ?_⟩ | refine ⟨_, by assumption, Nat.le_of_ble_eq_true rfl, ?_⟩ | refine ⟨_, by assumption, _, rfl, ?_⟩ | refine ⟨_, rfl, ?_⟩ | fail)
      · refine CallsAbs.sub (args' := [.d (.str s), .d (.sl (strsD []))]) (nil_sub s) (PureC.use h0 ?_)
        exact ⟨_, _, fin_out rfl, rfl⟩
      all_goals done
  · refine pure_okT Tryd.wf Tryd.tab_ok Tryd.func6 (by decide +kernel) rfl rfl rfl rfl ?_
    repeat' (first | refine PureC.use hc1 ?_ | refine PureC.use hc2 ?_ | refine PureC.use hc3 ?_ | refine PureC.use hc4 ?_ | refine PureC.use hc5 ?_ |                   refine ⟨fun _ => ?_, fun h => absurd h (by decide)⟩ | refine ⟨fun h => absurd h (by decide), fun _ => ?_⟩ | (refine ⟨fun h => ?_, fun h => ?_⟩ <;> (try simp only [decide_eq_true_eq, decide_eq_false_iff_not, Bool.not_eq_true', Bool.not_eq_false', Bool.not_eq_true, Bool.not_eq_false, not_true_eq_false, beq_iff_eq, beq_eq_false_iff_ne, ne_eq, decide_eq_decide, true_iff, false_iff, iff_true, iff_false, true_and, and_true, false_or, or_false, Bool.and_true, Bool.and_eq_true, Bool.and_eq_false_iff, Bool.or_eq_true, Bool.or_eq_false_iff, List.length_cons, List.length_nil] at h) <;> (try (exfalso; first | omega | exact h rfl | (cases h; done) | exact absurd h (by assumption) | exact h (by assumption) | (simp at h; done)))) | refine ⟨⟨by (first | omega | (simp only [lenS]; omega)), by (first | omega | (simp only [lenS]; omega))⟩, _, by assumption, by rfl, ?_⟩ | refine .inl ⟨⟨by (first | omega | (simp only [lenS]; omega)), by (first | omega | (simp only [lenS]; omega))⟩, ?_⟩ | refine ⟨⟨by (first | omega | (simp only [lenS]; omega)), by (first | omega | (simp only [lenS]; omega))⟩, ?_⟩ | refine ⟨⟨by (first | omega | (simp only [lenS]; omega)), by (first | omega | (simp only [lenS]; omega)), by (first | omega | (simp only [lenS]; omega))⟩, ?_⟩ | refine ⟨.inl rfl, ?_⟩ | refine ⟨.inr (.inl (by (first | omega | (simp only [lenS]; omega)))), ?_⟩ | refine ⟨_, rfl, rfl, by (first | exact Nat.le_refl _ | exact Nat.le_of_ble_eq_true rfl | decide), ?_⟩ | refine ⟨_, rfl, by (first | exact Nat.le_refl _ | exact Nat.le_of_ble_eq_true rfl | decide), ?_⟩ | refine ⟨by (first | exact Nat.le_refl _ | exact Nat.le_of_ble_eq_true rfl | decide | exact rfl), ?_⟩ | refine ⟨show _ ≤ (9223372036854775807 : Nat) by (first | omega | (simp only [lenS]; omega)), ?_⟩ | refine ⟨show _ ≠ (0 : Int) by (first | omega | (simp only [lenS]; omega)), ?_⟩ | refine ⟨_, rfl, _, rfl, ?_⟩ | refine ⟨_, by assumption, Nat.le_of_ble_eq_true rfl, ?_⟩ | refine ⟨_, by assumption, _, rfl, ?_⟩ | refine ⟨_, rfl, ?_⟩ | fail)
    all_goals exact ⟨_, _, fin_out rfl, rfl⟩
theorem StyleFewer_law {n n' n'' : Nat} {r r' r'' : List D} (h : DOk Tryd.prog n 9 r) (h' : DOk Tryd.prog n' 22 r') (h'' : DOk Tryd.prog n'' 3 r'') : PureC Tryd.prog 6 [argAV Tryd.prog 9 r, argAV Tryd.prog 22 r', argAV Tryd.prog 3 r''] (.d (.bool true)) := by
  obtain ⟨s, rfl, _⟩ := dok_str h
  obtain ⟨l, rfl, _, hl⟩ := dok_strs h'
  obtain ⟨x, rfl, _, hx⟩ := dok_int h''
  rw [arg_str, arg_strs, arg_int]; exact StyleFewer_ok s l x hx (fun p hp => Nat.le_trans (hl p hp) (by decide))
theorem splitB_sub (c : UInt8) : ∀ s : List UInt8, ∀ p ∈ splitB c s, ∀ x ∈ p, x ∈ s
  | [], p, h, x, hx => by simp [splitB] at h; rw [h] at hx; cases hx
  | y :: r, p, h, x, hx => by
    have ih := splitB_sub c r
    rw [splitB] at h
    split at h
    · rcases List.mem_cons.1 h with rfl | h
      · cases hx
      · exact List.mem_cons_of_mem _ (ih p h x hx)
    · split at h
      · rename_i q qs hq
        rcases List.mem_cons.1 h with rfl | h
        · rcases List.mem_cons.1 hx with rfl | hx
          · simp
          · exact List.mem_cons_of_mem _ (ih q (by rw [hq]; simp) x hx)
        · exact List.mem_cons_of_mem _ (ih p (by rw [hq]; simp [h]) x hx)
      · rw [List.mem_singleton.1 h] at hx
        rw [List.mem_singleton.1 hx]; simp
theorem pairs_none {s : List UInt8} (h : (58 : UInt8) ∉ s) : (splitB 59 s).filterMap partB = [] := by
  rw [List.filterMap_eq_nil_iff]
  intro p hp
  unfold partB
  rw [cutAt_none (fun hm => h (splitB_sub 59 s p hp _ hm))]; rfl
theorem val_no {v : List UInt8} (h : valB v = true) : (59 : UInt8) ∉ v := fun hm => by
  have := okB_cases ((val_all h).2.2.2.2 _ hm)
  have e : (59 : UInt8).toNat = 59 := rfl
  omega
theorem name_no2 {p : List UInt8} (h : nameOk p = true) : (59 : UInt8) ∉ p := fun hm => by
  have := (name_all h).2 _ hm; unfold nmC at this
  have e : (59 : UInt8).toNat = 59 := rfl
  omega
/-- A name and its value, with blanks around them. -/
theorem part_mid {nm v a b d e : List UInt8} (h1 : nameOk nm = true) (h2 : valB v = true) (ha : ∀ c ∈ a, c ∈ cutS) (hb : ∀ c ∈ b, c ∈ cutS) (hd : ∀ c ∈ d, c ∈ cutS) (he : ∀ c ∈ e, c ∈ cutS) : partB (a ++ nm ++ b ++ 58 :: (d ++ v ++ e)) = some (nm, v) := by
  have hno : (58 : UInt8) ∉ a ++ nm ++ b := fun hm => by
    rcases List.mem_append.1 hm with hm | hm
    · rcases List.mem_append.1 hm with hm | hm
      · exact absurd (ha _ hm) (by decide)
      · exact name_no h1 hm
    · exact absurd (hb _ hm) (by decide)
  unfold partB
  rw [cutAt_some hno, Option.map_some, bare_name ha hb h1, bare_val hd he h2]
theorem one_plain {nm v ar : List UInt8} (h1 : nameOk nm = true) (h2 : valB v = true) (h3 : (58 : UInt8) ∉ ar) : filterB [nm] (ar ++ [59, 32, 9] ++ nm ++ [32, 58] ++ v ++ [10, 59] ++ ar) = nm ++ [58, 32] ++ v := by
  have e : ar ++ [59, 32, 9] ++ nm ++ [32, 58] ++ v ++ [10, 59] ++ ar = ar ++ 59 :: (([32, 9] ++ nm ++ [32] ++ 58 :: ([] ++ v ++ [10])) ++ 59 :: ar) := by simp
  have hno : (59 : UInt8) ∉ ([32, 9] ++ nm ++ [32] ++ 58 :: ([] ++ v ++ [10]) : List UInt8) := fun hm => by
    simp only [List.mem_append, List.mem_cons, List.not_mem_nil, or_false, false_or] at hm
    rcases hm with ((hm | hm) | hm) | hm | hm | hm
    · rcases hm with hm | hm <;> exact absurd hm (by decide)
    · exact name_no2 h1 hm
    · exact absurd hm (by decide)
    · exact absurd hm (by decide)
    · exact val_no h2 hm
    · exact absurd hm (by decide)
  have hp : pairsB (ar ++ [59, 32, 9] ++ nm ++ [32, 58] ++ v ++ [10, 59] ++ ar) = [(nm, v)] := by
    unfold pairsB
    rw [e, splitB_mid, splitB_app hno, List.filterMap_append, List.filterMap_cons, pairs_none h3, part_mid h1 h2 (by decide) (by decide) (fun c hc => by cases hc) (by decide)]
    rfl
  rw [filter_join]
  unfold keptP
  rw [hp, List.filter_cons_of_pos (by unfold keepB; rw [h2]; simp)]
  rfl
theorem two_len (nm v ar : List UInt8) : (ar ++ [59, 32, 9] ++ nm ++ [32, 58] ++ v ++ [10, 59] ++ ar).length = 2 * ar.length + nm.length + v.length + 7 := by simp; omega
set_option maxRecDepth 100000 in
set_option maxHeartbeats 1000000 in
theorem StyleOne_ok (nm v ar : List UInt8) (hnl : nm.length ≤ 4611686018427387904) : PureC Tryd.prog 7 [.d (.str nm), .d (.str v), .d (.str ar)] (.d (.bool true)) := by
  have hc1 := awake_ok
  have h2 := names_ok [nm] (by simp) (fun p hp => by rw [List.mem_singleton.1 hp]; exact hnl)
  have hall : [nm].all nameOk = nameOk nm := by simp
  rw [hall] at h2
  by_cases hl : nm.length ≤ 100 ∧ v.length ≤ 200 ∧ ar.length ≤ 1000
  · cases hnm : nameOk nm with
    | false =>
      rw [hnm] at h2
      refine pure_okT Tryd.wf Tryd.tab_ok Tryd.func7 (by decide +kernel) rfl rfl rfl rfl ?_
      repeat' (first | refine PureC.use hc1 ?_ |  refine PureC.use hc3 ?_ |                     refine ⟨fun _ => ?_, fun h => absurd h (by decide)⟩ | refine ⟨fun h => absurd h (by decide), fun _ => ?_⟩ | (refine ⟨fun h => ?_, fun h => ?_⟩ <;> (try simp only [decide_eq_true_eq, decide_eq_false_iff_not, Bool.not_eq_true', Bool.not_eq_false', Bool.not_eq_true, Bool.not_eq_false, not_true_eq_false, beq_iff_eq, beq_eq_false_iff_ne, ne_eq, decide_eq_decide, true_iff, false_iff, iff_true, iff_false, true_and, and_true, false_or, or_false, Bool.and_true, Bool.and_eq_true, Bool.and_eq_false_iff, Bool.or_eq_true, Bool.or_eq_false_iff, List.length_cons, List.length_nil] at h) <;> (try (exfalso; first | omega | exact h rfl | (cases h; done) | exact absurd h (by assumption) | exact h (by assumption) | (simp at h; done)))) | refine ⟨⟨by (first | omega | (simp only [lenS]; omega)), by (first | omega | (simp only [lenS]; omega))⟩, _, by assumption, by rfl, ?_⟩ | refine .inl ⟨⟨by (first | omega | (simp only [lenS]; omega)), by (first | omega | (simp only [lenS]; omega))⟩, ?_⟩ | refine ⟨⟨by (first | omega | (simp only [lenS]; omega)), by (first | omega | (simp only [lenS]; omega))⟩, ?_⟩ | refine ⟨⟨by (first | omega | (simp only [lenS]; omega)), by (first | omega | (simp only [lenS]; omega)), by (first | omega | (simp only [lenS]; omega))⟩, ?_⟩ | refine ⟨.inl rfl, ?_⟩ | refine ⟨.inr (.inl (by (first | omega | (simp only [lenS]; omega)))), ?_⟩ | refine ⟨_, rfl, rfl, by (first | exact Nat.le_refl _ | exact Nat.le_of_ble_eq_true rfl | decide), ?_⟩ | refine ⟨_, rfl, by (first | exact Nat.le_refl _ | exact Nat.le_of_ble_eq_true rfl | decide), ?_⟩ | refine ⟨by (first | exact Nat.le_refl _ | exact Nat.le_of_ble_eq_true rfl | decide | exact rfl), ?_⟩ | refine ⟨show _ ≤ (9223372036854775807 : Nat) by (first | omega | (simp only [lenS]; omega)), ?_⟩ | refine ⟨show _ ≠ (0 : Int) by (first | omega | (simp only [lenS]; omega)), ?_⟩ | refine ⟨_, rfl, _, rfl, ?_⟩ | refine ⟨_, by assumption, Nat.le_of_ble_eq_true rfl, ?_⟩ | refine ⟨_, by assumption, _, rfl, ?_⟩ | refine ⟨_, rfl, ?_⟩ | fail)
      refine CallsAbs.freezeTo (ds := strsD [nm]) (args' := [.d (.sl (strsD [nm]))]) 0 rfl rfl ⟨fun _ => Nat.le_refl _, trivial⟩ rfl (PureC.use h2 ?_)
      repeat' (first | refine PureC.use hc1 ?_ |  refine PureC.use hc3 ?_ |                     refine ⟨fun _ => ?_, fun h => absurd h (by decide)⟩ | refine ⟨fun h => absurd h (by decide), fun _ => ?_⟩ | (refine ⟨fun h => ?_, fun h => ?_⟩ <;> (try simp only [decide_eq_true_eq, decide_eq_false_iff_not, Bool.not_eq_true', Bool.not_eq_false', Bool.not_eq_true, Bool.not_eq_false, not_true_eq_false, beq_iff_eq, beq_eq_false_iff_ne, ne_eq, decide_eq_decide, true_iff, false_iff, iff_true, iff_false, true_and, and_true, false_or, or_false, Bool.and_true, Bool.and_eq_true, Bool.and_eq_false_iff, Bool.or_eq_true, Bool.or_eq_false_iff, List.length_cons, List.length_nil] at h) <;> (try (exfalso; first | omega | exact h rfl | (cases h; done) | exact absurd h (by assumption) | exact h (by assumption) | (simp at h; done)))) | refine ⟨⟨by (first | omega | (simp only [lenS]; omega)), by (first | omega | (simp only [lenS]; omega))⟩, _, by assumption, by rfl, ?_⟩ | refine .inl ⟨⟨by (first | omega | (simp only [lenS]; omega)), by (first | omega | (simp only [lenS]; omega))⟩, ?_⟩ | refine ⟨⟨by (first | omega | (simp only [lenS]; omega)), by (first | omega | (simp only [lenS]; omega))⟩, ?_⟩ | refine ⟨⟨by (first | omega | (simp only [lenS]; omega)), by (first | omega | (simp only [lenS]; omega)), by (first | omega | (simp only [lenS]; omega))⟩, ?_⟩ | refine ⟨.inl rfl, ?_⟩ | refine ⟨.inr (.inl (by (first | omega | (simp only [lenS]; omega)))), ?_⟩ | refine ⟨_, rfl, rfl, by (first | exact Nat.le_refl _ | exact Nat.le_of_ble_eq_true rfl | decide), ?_⟩ | refine ⟨_, rfl, by (first | exact Nat.le_refl _ | exact Nat.le_of_ble_eq_true rfl | decide), ?_⟩ | refine ⟨by (first | exact Nat.le_refl _ | exact Nat.le_of_ble_eq_true rfl | decide | exact rfl), ?_⟩ | refine ⟨show _ ≤ (9223372036854775807 : Nat) by (first | omega | (simp only [lenS]; omega)), ?_⟩ | refine ⟨show _ ≠ (0 : Int) by (first | omega | (simp only [lenS]; omega)), ?_⟩ | refine ⟨_, rfl, _, rfl, ?_⟩ | refine ⟨_, by assumption, Nat.le_of_ble_eq_true rfl, ?_⟩ | refine ⟨_, by assumption, _, rfl, ?_⟩ | refine ⟨_, rfl, ?_⟩ | fail)
      exact ⟨_, _, fin_out rfl, rfl⟩
    | true =>
      rw [hnm] at h2
      have htl := two_len nm v ar
      have hv := Value_ok v (by omega)
      have hf := Filter_ok [nm] (ar ++ [59, 32, 9] ++ nm ++ [32, 58] ++ v ++ [10, 59] ++ ar) (by simp) (by omega)
      have hpl := fun (hv : valB v = true) (h3 : (58 : UInt8) ∉ ar) => one_plain hnm hv h3
      refine pure_okT Tryd.wf Tryd.tab_ok Tryd.func7 (by decide +kernel) rfl rfl rfl rfl ?_
      repeat' (first | refine PureC.use hc1 ?_ |  refine PureC.use hc3 ?_ |                     refine ⟨fun _ => ?_, fun h => absurd h (by decide)⟩ | refine ⟨fun h => absurd h (by decide), fun _ => ?_⟩ | (refine ⟨fun h => ?_, fun h => ?_⟩ <;> (try simp only [decide_eq_true_eq, decide_eq_false_iff_not, Bool.not_eq_true', Bool.not_eq_false', Bool.not_eq_true, Bool.not_eq_false, not_true_eq_false, beq_iff_eq, beq_eq_false_iff_ne, ne_eq, decide_eq_decide, true_iff, false_iff, iff_true, iff_false, true_and, and_true, false_or, or_false, Bool.and_true, Bool.and_eq_true, Bool.and_eq_false_iff, Bool.or_eq_true, Bool.or_eq_false_iff, List.length_cons, List.length_nil] at h) <;> (try (exfalso; first | omega | exact h rfl | (cases h; done) | exact absurd h (by assumption) | exact h (by assumption) | (simp at h; done)))) | refine ⟨⟨by (first | omega | (simp only [lenS]; omega)), by (first | omega | (simp only [lenS]; omega))⟩, _, by assumption, by rfl, ?_⟩ | refine .inl ⟨⟨by (first | omega | (simp only [lenS]; omega)), by (first | omega | (simp only [lenS]; omega))⟩, ?_⟩ | refine ⟨⟨by (first | omega | (simp only [lenS]; omega)), by (first | omega | (simp only [lenS]; omega))⟩, ?_⟩ | refine ⟨⟨by (first | omega | (simp only [lenS]; omega)), by (first | omega | (simp only [lenS]; omega)), by (first | omega | (simp only [lenS]; omega))⟩, ?_⟩ | refine ⟨.inl rfl, ?_⟩ | refine ⟨.inr (.inl (by (first | omega | (simp only [lenS]; omega)))), ?_⟩ | refine ⟨_, rfl, rfl, by (first | exact Nat.le_refl _ | exact Nat.le_of_ble_eq_true rfl | decide), ?_⟩ | refine ⟨_, rfl, by (first | exact Nat.le_refl _ | exact Nat.le_of_ble_eq_true rfl | decide), ?_⟩ | refine ⟨by (first | exact Nat.le_refl _ | exact Nat.le_of_ble_eq_true rfl | decide | exact rfl), ?_⟩ | refine ⟨show _ ≤ (9223372036854775807 : Nat) by (first | omega | (simp only [lenS]; omega)), ?_⟩ | refine ⟨show _ ≠ (0 : Int) by (first | omega | (simp only [lenS]; omega)), ?_⟩ | refine ⟨_, rfl, _, rfl, ?_⟩ | refine ⟨_, by assumption, Nat.le_of_ble_eq_true rfl, ?_⟩ | refine ⟨_, by assumption, _, rfl, ?_⟩ | refine ⟨_, rfl, ?_⟩ | fail)
      refine CallsAbs.freezeTo (ds := strsD [nm]) (args' := [.d (.sl (strsD [nm]))]) 0 rfl rfl ⟨fun _ => Nat.le_refl _, trivial⟩ rfl (PureC.use h2 ?_)
      repeat' (first | refine PureC.use hc1 ?_ |  refine PureC.use hc3 ?_ |                     refine ⟨fun _ => ?_, fun h => absurd h (by decide)⟩ | refine ⟨fun h => absurd h (by decide), fun _ => ?_⟩ | (refine ⟨fun h => ?_, fun h => ?_⟩ <;> (try simp only [decide_eq_true_eq, decide_eq_false_iff_not, Bool.not_eq_true', Bool.not_eq_false', Bool.not_eq_true, Bool.not_eq_false, not_true_eq_false, beq_iff_eq, beq_eq_false_iff_ne, ne_eq, decide_eq_decide, true_iff, false_iff, iff_true, iff_false, true_and, and_true, false_or, or_false, Bool.and_true, Bool.and_eq_true, Bool.and_eq_false_iff, Bool.or_eq_true, Bool.or_eq_false_iff, List.length_cons, List.length_nil] at h) <;> (try (exfalso; first | omega | exact h rfl | (cases h; done) | exact absurd h (by assumption) | exact h (by assumption) | (simp at h; done)))) | refine ⟨⟨by (first | omega | (simp only [lenS]; omega)), by (first | omega | (simp only [lenS]; omega))⟩, _, by assumption, by rfl, ?_⟩ | refine .inl ⟨⟨by (first | omega | (simp only [lenS]; omega)), by (first | omega | (simp only [lenS]; omega))⟩, ?_⟩ | refine ⟨⟨by (first | omega | (simp only [lenS]; omega)), by (first | omega | (simp only [lenS]; omega))⟩, ?_⟩ | refine ⟨⟨by (first | omega | (simp only [lenS]; omega)), by (first | omega | (simp only [lenS]; omega)), by (first | omega | (simp only [lenS]; omega))⟩, ?_⟩ | refine ⟨.inl rfl, ?_⟩ | refine ⟨.inr (.inl (by (first | omega | (simp only [lenS]; omega)))), ?_⟩ | refine ⟨_, rfl, rfl, by (first | exact Nat.le_refl _ | exact Nat.le_of_ble_eq_true rfl | decide), ?_⟩ | refine ⟨_, rfl, by (first | exact Nat.le_refl _ | exact Nat.le_of_ble_eq_true rfl | decide), ?_⟩ | refine ⟨by (first | exact Nat.le_refl _ | exact Nat.le_of_ble_eq_true rfl | decide | exact rfl), ?_⟩ | refine ⟨show _ ≤ (9223372036854775807 : Nat) by (first | omega | (simp only [lenS]; omega)), ?_⟩ | refine ⟨show _ ≠ (0 : Int) by (first | omega | (simp only [lenS]; omega)), ?_⟩ | refine ⟨_, rfl, _, rfl, ?_⟩ | refine ⟨_, by assumption, Nat.le_of_ble_eq_true rfl, ?_⟩ | refine ⟨_, by assumption, _, rfl, ?_⟩ | refine ⟨_, rfl, ?_⟩ | fail)
      refine loopT Tryd.wf Tryd.tab_ok (fun n s' σ => ∃ k : Nat, n = ar.length - k ∧ k ≤ ar.length ∧ (58 : UInt8) ∉ ar.take k ∧ s' = [(0, .d (.str nm)), (1, .d (.str v)), (2, .d (.str ar)), (7, .d (.bool true)), (9, .d (.int .i64 k))] ∧ σ = ⟨0, []⟩)
        ⟨0, rfl, Nat.zero_le _, by simp, rfl, rfl⟩ (Mv.of [] rfl rfl rfl trivial ⟨rfl, rfl, rfl, rfl, rfl, trivial⟩) ?_
      rintro _ _ _ ⟨k, rfl, hk, hno, rfl, rfl⟩
      by_cases hlt : k < ar.length
      · have hg := getD_at ar k hlt
        by_cases hch : ar[k] = 58
        · have hgc : ((ar.getD ((k : Nat) : Int).toNat 0).toNat : Int) = 58 := by rw [hg, hch]; rfl
          clear hpl hf
          repeat' (first | refine PureC.use hc1 ?_ |  refine PureC.use hc3 ?_ |                     refine ⟨fun _ => ?_, fun h => absurd h (by decide)⟩ | refine ⟨fun h => absurd h (by decide), fun _ => ?_⟩ | (refine ⟨fun h => ?_, fun h => ?_⟩ <;> (try simp only [decide_eq_true_eq, decide_eq_false_iff_not, Bool.not_eq_true', Bool.not_eq_false', Bool.not_eq_true, Bool.not_eq_false, not_true_eq_false, beq_iff_eq, beq_eq_false_iff_ne, ne_eq, decide_eq_decide, true_iff, false_iff, iff_true, iff_false, true_and, and_true, false_or, or_false, Bool.and_true, Bool.and_eq_true, Bool.and_eq_false_iff, Bool.or_eq_true, Bool.or_eq_false_iff, List.length_cons, List.length_nil] at h) <;> (try (exfalso; first | omega | exact h rfl | (cases h; done) | exact absurd h (by assumption) | exact h (by assumption) | (simp at h; done)))) | refine ⟨⟨by (first | omega | (simp only [lenS]; omega)), by (first | omega | (simp only [lenS]; omega))⟩, _, by assumption, by rfl, ?_⟩ | refine .inl ⟨⟨by (first | omega | (simp only [lenS]; omega)), by (first | omega | (simp only [lenS]; omega))⟩, ?_⟩ | refine ⟨⟨by (first | omega | (simp only [lenS]; omega)), by (first | omega | (simp only [lenS]; omega))⟩, ?_⟩ | refine ⟨⟨by (first | omega | (simp only [lenS]; omega)), by (first | omega | (simp only [lenS]; omega)), by (first | omega | (simp only [lenS]; omega))⟩, ?_⟩ | refine ⟨.inl rfl, ?_⟩ | refine ⟨.inr (.inl (by (first | omega | (simp only [lenS]; omega)))), ?_⟩ | refine ⟨_, rfl, rfl, by (first | exact Nat.le_refl _ | exact Nat.le_of_ble_eq_true rfl | decide), ?_⟩ | refine ⟨_, rfl, by (first | exact Nat.le_refl _ | exact Nat.le_of_ble_eq_true rfl | decide), ?_⟩ | refine ⟨by (first | exact Nat.le_refl _ | exact Nat.le_of_ble_eq_true rfl | decide | exact rfl), ?_⟩ | refine ⟨show _ ≤ (9223372036854775807 : Nat) by (first | omega | (simp only [lenS]; omega)), ?_⟩ | refine ⟨show _ ≠ (0 : Int) by (first | omega | (simp only [lenS]; omega)), ?_⟩ | refine ⟨_, rfl, _, rfl, ?_⟩ | refine ⟨_, by assumption, Nat.le_of_ble_eq_true rfl, ?_⟩ | refine ⟨_, by assumption, _, rfl, ?_⟩ | refine ⟨_, rfl, ?_⟩ | fail)
          exact ⟨_, _, fin_out rfl, rfl⟩
        · have hgc : ¬ ((ar.getD ((k : Nat) : Int).toNat 0).toNat : Int) = 58 := fun e => hch (by rw [hg] at e; exact UInt8.toNat_inj.1 (by have : (58 : UInt8).toNat = 58 := rfl; omega))
          have hno2 : (58 : UInt8) ∉ ar.take (k + 1) := by
            rw [List.take_succ_eq_append_getElem hlt, List.mem_append, List.mem_singleton]
            exact fun h => h.elim hno (fun e => hch e.symm)
          clear hpl hf
          repeat' (first | refine PureC.use hc1 ?_ |  refine PureC.use hc3 ?_ |                     refine ⟨fun _ => ?_, fun h => absurd h (by decide)⟩ | refine ⟨fun h => absurd h (by decide), fun _ => ?_⟩ | (refine ⟨fun h => ?_, fun h => ?_⟩ <;> (try simp only [decide_eq_true_eq, decide_eq_false_iff_not, Bool.not_eq_true', Bool.not_eq_false', Bool.not_eq_true, Bool.not_eq_false, not_true_eq_false, beq_iff_eq, beq_eq_false_iff_ne, ne_eq, decide_eq_decide, true_iff, false_iff, iff_true, iff_false, true_and, and_true, false_or, or_false, Bool.and_true, Bool.and_eq_true, Bool.and_eq_false_iff, Bool.or_eq_true, Bool.or_eq_false_iff, List.length_cons, List.length_nil] at h) <;> (try (exfalso; first | omega | exact h rfl | (cases h; done) | exact absurd h (by assumption) | exact h (by assumption) | (simp at h; done)))) | refine ⟨⟨by (first | omega | (simp only [lenS]; omega)), by (first | omega | (simp only [lenS]; omega))⟩, _, by assumption, by rfl, ?_⟩ | refine .inl ⟨⟨by (first | omega | (simp only [lenS]; omega)), by (first | omega | (simp only [lenS]; omega))⟩, ?_⟩ | refine ⟨⟨by (first | omega | (simp only [lenS]; omega)), by (first | omega | (simp only [lenS]; omega))⟩, ?_⟩ | refine ⟨⟨by (first | omega | (simp only [lenS]; omega)), by (first | omega | (simp only [lenS]; omega)), by (first | omega | (simp only [lenS]; omega))⟩, ?_⟩ | refine ⟨.inl rfl, ?_⟩ | refine ⟨.inr (.inl (by (first | omega | (simp only [lenS]; omega)))), ?_⟩ | refine ⟨_, rfl, rfl, by (first | exact Nat.le_refl _ | exact Nat.le_of_ble_eq_true rfl | decide), ?_⟩ | refine ⟨_, rfl, by (first | exact Nat.le_refl _ | exact Nat.le_of_ble_eq_true rfl | decide), ?_⟩ | refine ⟨by (first | exact Nat.le_refl _ | exact Nat.le_of_ble_eq_true rfl | decide | exact rfl), ?_⟩ | refine ⟨show _ ≤ (9223372036854775807 : Nat) by (first | omega | (simp only [lenS]; omega)), ?_⟩ | refine ⟨show _ ≠ (0 : Int) by (first | omega | (simp only [lenS]; omega)), ?_⟩ | refine ⟨_, rfl, _, rfl, ?_⟩ | refine ⟨_, by assumption, Nat.le_of_ble_eq_true rfl, ?_⟩ | refine ⟨_, by assumption, _, rfl, ?_⟩ | refine ⟨_, rfl, ?_⟩ | fail)
          exact ⟨_, _, _, ⟨k + 1, rfl, hlt, hno2, rfl, rfl⟩, by omega, Mv.of [] rfl rfl rfl trivial ⟨rfl, rfl, rfl, rfl, rfl, trivial⟩⟩
      · have hk' : k = ar.length := by omega
        subst hk'
        rw [List.take_length] at hno
        have hc3 := hv
        cases hvv : valB v with
        | true =>
          rw [hvv] at hc3
          rw [hpl hvv hno] at hf
          clear hpl hv
          repeat' (first | refine PureC.use hc1 ?_ |  refine PureC.use hc3 ?_ |                     refine ⟨fun _ => ?_, fun h => absurd h (by decide)⟩ | refine ⟨fun h => absurd h (by decide), fun _ => ?_⟩ | (refine ⟨fun h => ?_, fun h => ?_⟩ <;> (try simp only [decide_eq_true_eq, decide_eq_false_iff_not, Bool.not_eq_true', Bool.not_eq_false', Bool.not_eq_true, Bool.not_eq_false, not_true_eq_false, beq_iff_eq, beq_eq_false_iff_ne, ne_eq, decide_eq_decide, true_iff, false_iff, iff_true, iff_false, true_and, and_true, false_or, or_false, Bool.and_true, Bool.and_eq_true, Bool.and_eq_false_iff, Bool.or_eq_true, Bool.or_eq_false_iff, List.length_cons, List.length_nil] at h) <;> (try (exfalso; first | omega | exact h rfl | (cases h; done) | exact absurd h (by assumption) | exact h (by assumption) | (simp at h; done)))) | refine ⟨⟨by (first | omega | (simp only [lenS]; omega)), by (first | omega | (simp only [lenS]; omega))⟩, _, by assumption, by rfl, ?_⟩ | refine .inl ⟨⟨by (first | omega | (simp only [lenS]; omega)), by (first | omega | (simp only [lenS]; omega))⟩, ?_⟩ | refine ⟨⟨by (first | omega | (simp only [lenS]; omega)), by (first | omega | (simp only [lenS]; omega))⟩, ?_⟩ | refine ⟨⟨by (first | omega | (simp only [lenS]; omega)), by (first | omega | (simp only [lenS]; omega)), by (first | omega | (simp only [lenS]; omega))⟩, ?_⟩ | refine ⟨.inl rfl, ?_⟩ | refine ⟨.inr (.inl (by (first | omega | (simp only [lenS]; omega)))), ?_⟩ | refine ⟨_, rfl, rfl, by (first | exact Nat.le_refl _ | exact Nat.le_of_ble_eq_true rfl | decide), ?_⟩ | refine ⟨_, rfl, by (first | exact Nat.le_refl _ | exact Nat.le_of_ble_eq_true rfl | decide), ?_⟩ | refine ⟨by (first | exact Nat.le_refl _ | exact Nat.le_of_ble_eq_true rfl | decide | exact rfl), ?_⟩ | refine ⟨show _ ≤ (9223372036854775807 : Nat) by (first | omega | (simp only [lenS]; omega)), ?_⟩ | refine ⟨show _ ≠ (0 : Int) by (first | omega | (simp only [lenS]; omega)), ?_⟩ | refine ⟨_, rfl, _, rfl, ?_⟩ | refine ⟨_, by assumption, Nat.le_of_ble_eq_true rfl, ?_⟩ | refine ⟨_, by assumption, _, rfl, ?_⟩ | refine ⟨_, rfl, ?_⟩ | fail)
          refine CallsAbs.freezeTo (ds := strsD [nm]) (args' := [.d (.str (ar ++ [59, 32, 9] ++ nm ++ [32, 58] ++ v ++ [10, 59] ++ ar)), .d (.sl (strsD [nm]))]) 0 rfl rfl ⟨trivial, fun _ => Nat.le_refl _, trivial⟩ rfl (PureC.use hf ?_)
          repeat' (first | refine PureC.use hc1 ?_ |  refine PureC.use hc3 ?_ |                     refine ⟨fun _ => ?_, fun h => absurd h (by decide)⟩ | refine ⟨fun h => absurd h (by decide), fun _ => ?_⟩ | (refine ⟨fun h => ?_, fun h => ?_⟩ <;> (try simp only [decide_eq_true_eq, decide_eq_false_iff_not, Bool.not_eq_true', Bool.not_eq_false', Bool.not_eq_true, Bool.not_eq_false, not_true_eq_false, beq_iff_eq, beq_eq_false_iff_ne, ne_eq, decide_eq_decide, true_iff, false_iff, iff_true, iff_false, true_and, and_true, false_or, or_false, Bool.and_true, Bool.and_eq_true, Bool.and_eq_false_iff, Bool.or_eq_true, Bool.or_eq_false_iff, List.length_cons, List.length_nil] at h) <;> (try (exfalso; first | omega | exact h rfl | (cases h; done) | exact absurd h (by assumption) | exact h (by assumption) | (simp at h; done)))) | refine ⟨⟨by (first | omega | (simp only [lenS]; omega)), by (first | omega | (simp only [lenS]; omega))⟩, _, by assumption, by rfl, ?_⟩ | refine .inl ⟨⟨by (first | omega | (simp only [lenS]; omega)), by (first | omega | (simp only [lenS]; omega))⟩, ?_⟩ | refine ⟨⟨by (first | omega | (simp only [lenS]; omega)), by (first | omega | (simp only [lenS]; omega))⟩, ?_⟩ | refine ⟨⟨by (first | omega | (simp only [lenS]; omega)), by (first | omega | (simp only [lenS]; omega)), by (first | omega | (simp only [lenS]; omega))⟩, ?_⟩ | refine ⟨.inl rfl, ?_⟩ | refine ⟨.inr (.inl (by (first | omega | (simp only [lenS]; omega)))), ?_⟩ | refine ⟨_, rfl, rfl, by (first | exact Nat.le_refl _ | exact Nat.le_of_ble_eq_true rfl | decide), ?_⟩ | refine ⟨_, rfl, by (first | exact Nat.le_refl _ | exact Nat.le_of_ble_eq_true rfl | decide), ?_⟩ | refine ⟨by (first | exact Nat.le_refl _ | exact Nat.le_of_ble_eq_true rfl | decide | exact rfl), ?_⟩ | refine ⟨show _ ≤ (9223372036854775807 : Nat) by (first | omega | (simp only [lenS]; omega)), ?_⟩ | refine ⟨show _ ≠ (0 : Int) by (first | omega | (simp only [lenS]; omega)), ?_⟩ | refine ⟨_, rfl, _, rfl, ?_⟩ | refine ⟨_, by assumption, Nat.le_of_ble_eq_true rfl, ?_⟩ | refine ⟨_, by assumption, _, rfl, ?_⟩ | refine ⟨_, rfl, ?_⟩ | fail)
          exact ⟨_, _, fin_out rfl, congrArg (fun b => AV.d (.bool b)) (by simp)⟩
        | false =>
          rw [hvv] at hc3
          clear hpl hv
          repeat' (first | refine PureC.use hc1 ?_ |  refine PureC.use hc3 ?_ |                     refine ⟨fun _ => ?_, fun h => absurd h (by decide)⟩ | refine ⟨fun h => absurd h (by decide), fun _ => ?_⟩ | (refine ⟨fun h => ?_, fun h => ?_⟩ <;> (try simp only [decide_eq_true_eq, decide_eq_false_iff_not, Bool.not_eq_true', Bool.not_eq_false', Bool.not_eq_true, Bool.not_eq_false, not_true_eq_false, beq_iff_eq, beq_eq_false_iff_ne, ne_eq, decide_eq_decide, true_iff, false_iff, iff_true, iff_false, true_and, and_true, false_or, or_false, Bool.and_true, Bool.and_eq_true, Bool.and_eq_false_iff, Bool.or_eq_true, Bool.or_eq_false_iff, List.length_cons, List.length_nil] at h) <;> (try (exfalso; first | omega | exact h rfl | (cases h; done) | exact absurd h (by assumption) | exact h (by assumption) | (simp at h; done)))) | refine ⟨⟨by (first | omega | (simp only [lenS]; omega)), by (first | omega | (simp only [lenS]; omega))⟩, _, by assumption, by rfl, ?_⟩ | refine .inl ⟨⟨by (first | omega | (simp only [lenS]; omega)), by (first | omega | (simp only [lenS]; omega))⟩, ?_⟩ | refine ⟨⟨by (first | omega | (simp only [lenS]; omega)), by (first | omega | (simp only [lenS]; omega))⟩, ?_⟩ | refine ⟨⟨by (first | omega | (simp only [lenS]; omega)), by (first | omega | (simp only [lenS]; omega)), by (first | omega | (simp only [lenS]; omega))⟩, ?_⟩ | refine ⟨.inl rfl, ?_⟩ | refine ⟨.inr (.inl (by (first | omega | (simp only [lenS]; omega)))), ?_⟩ | refine ⟨_, rfl, rfl, by (first | exact Nat.le_refl _ | exact Nat.le_of_ble_eq_true rfl | decide), ?_⟩ | refine ⟨_, rfl, by (first | exact Nat.le_refl _ | exact Nat.le_of_ble_eq_true rfl | decide), ?_⟩ | refine ⟨by (first | exact Nat.le_refl _ | exact Nat.le_of_ble_eq_true rfl | decide | exact rfl), ?_⟩ | refine ⟨show _ ≤ (9223372036854775807 : Nat) by (first | omega | (simp only [lenS]; omega)), ?_⟩ | refine ⟨show _ ≠ (0 : Int) by (first | omega | (simp only [lenS]; omega)), ?_⟩ | refine ⟨_, rfl, _, rfl, ?_⟩ | refine ⟨_, by assumption, Nat.le_of_ble_eq_true rfl, ?_⟩ | refine ⟨_, by assumption, _, rfl, ?_⟩ | refine ⟨_, rfl, ?_⟩ | fail)
          refine CallsAbs.freezeTo (ds := strsD [nm]) (args' := [.d (.str (ar ++ [59, 32, 9] ++ nm ++ [32, 58] ++ v ++ [10, 59] ++ ar)), .d (.sl (strsD [nm]))]) 0 rfl rfl ⟨trivial, fun _ => Nat.le_refl _, trivial⟩ rfl (PureC.use hf ?_)
          repeat' (first | refine PureC.use hc1 ?_ |  refine PureC.use hc3 ?_ |                     refine ⟨fun _ => ?_, fun h => absurd h (by decide)⟩ | refine ⟨fun h => absurd h (by decide), fun _ => ?_⟩ | (refine ⟨fun h => ?_, fun h => ?_⟩ <;> (try simp only [decide_eq_true_eq, decide_eq_false_iff_not, Bool.not_eq_true', Bool.not_eq_false', Bool.not_eq_true, Bool.not_eq_false, not_true_eq_false, beq_iff_eq, beq_eq_false_iff_ne, ne_eq, decide_eq_decide, true_iff, false_iff, iff_true, iff_false, true_and, and_true, false_or, or_false, Bool.and_true, Bool.and_eq_true, Bool.and_eq_false_iff, Bool.or_eq_true, Bool.or_eq_false_iff, List.length_cons, List.length_nil] at h) <;> (try (exfalso; first | omega | exact h rfl | (cases h; done) | exact absurd h (by assumption) | exact h (by assumption) | (simp at h; done)))) | refine ⟨⟨by (first | omega | (simp only [lenS]; omega)), by (first | omega | (simp only [lenS]; omega))⟩, _, by assumption, by rfl, ?_⟩ | refine .inl ⟨⟨by (first | omega | (simp only [lenS]; omega)), by (first | omega | (simp only [lenS]; omega))⟩, ?_⟩ | refine ⟨⟨by (first | omega | (simp only [lenS]; omega)), by (first | omega | (simp only [lenS]; omega))⟩, ?_⟩ | refine ⟨⟨by (first | omega | (simp only [lenS]; omega)), by (first | omega | (simp only [lenS]; omega)), by (first | omega | (simp only [lenS]; omega))⟩, ?_⟩ | refine ⟨.inl rfl, ?_⟩ | refine ⟨.inr (.inl (by (first | omega | (simp only [lenS]; omega)))), ?_⟩ | refine ⟨_, rfl, rfl, by (first | exact Nat.le_refl _ | exact Nat.le_of_ble_eq_true rfl | decide), ?_⟩ | refine ⟨_, rfl, by (first | exact Nat.le_refl _ | exact Nat.le_of_ble_eq_true rfl | decide), ?_⟩ | refine ⟨by (first | exact Nat.le_refl _ | exact Nat.le_of_ble_eq_true rfl | decide | exact rfl), ?_⟩ | refine ⟨show _ ≤ (9223372036854775807 : Nat) by (first | omega | (simp only [lenS]; omega)), ?_⟩ | refine ⟨show _ ≠ (0 : Int) by (first | omega | (simp only [lenS]; omega)), ?_⟩ | refine ⟨_, rfl, _, rfl, ?_⟩ | refine ⟨_, by assumption, Nat.le_of_ble_eq_true rfl, ?_⟩ | refine ⟨_, by assumption, _, rfl, ?_⟩ | refine ⟨_, rfl, ?_⟩ | fail)
          exact ⟨_, _, fin_out rfl, congrArg (fun b => AV.d (.bool b)) (by first | rfl | exact decide_eq_true (by omega))⟩
  · refine pure_okT Tryd.wf Tryd.tab_ok Tryd.func7 (by decide +kernel) rfl rfl rfl rfl ?_
    repeat' (first | refine PureC.use hc1 ?_ |  refine PureC.use hc3 ?_ |                     refine ⟨fun _ => ?_, fun h => absurd h (by decide)⟩ | refine ⟨fun h => absurd h (by decide), fun _ => ?_⟩ | (refine ⟨fun h => ?_, fun h => ?_⟩ <;> (try simp only [decide_eq_true_eq, decide_eq_false_iff_not, Bool.not_eq_true', Bool.not_eq_false', Bool.not_eq_true, Bool.not_eq_false, not_true_eq_false, beq_iff_eq, beq_eq_false_iff_ne, ne_eq, decide_eq_decide, true_iff, false_iff, iff_true, iff_false, true_and, and_true, false_or, or_false, Bool.and_true, Bool.and_eq_true, Bool.and_eq_false_iff, Bool.or_eq_true, Bool.or_eq_false_iff, List.length_cons, List.length_nil] at h) <;> (try (exfalso; first | omega | exact h rfl | (cases h; done) | exact absurd h (by assumption) | exact h (by assumption) | (simp at h; done)))) | refine ⟨⟨by (first | omega | (simp only [lenS]; omega)), by (first | omega | (simp only [lenS]; omega))⟩, _, by assumption, by rfl, ?_⟩ | refine .inl ⟨⟨by (first | omega | (simp only [lenS]; omega)), by (first | omega | (simp only [lenS]; omega))⟩, ?_⟩ | refine ⟨⟨by (first | omega | (simp only [lenS]; omega)), by (first | omega | (simp only [lenS]; omega))⟩, ?_⟩ | refine ⟨⟨by (first | omega | (simp only [lenS]; omega)), by (first | omega | (simp only [lenS]; omega)), by (first | omega | (simp only [lenS]; omega))⟩, ?_⟩ | refine ⟨.inl rfl, ?_⟩ | refine ⟨.inr (.inl (by (first | omega | (simp only [lenS]; omega)))), ?_⟩ | refine ⟨_, rfl, rfl, by (first | exact Nat.le_refl _ | exact Nat.le_of_ble_eq_true rfl | decide), ?_⟩ | refine ⟨_, rfl, by (first | exact Nat.le_refl _ | exact Nat.le_of_ble_eq_true rfl | decide), ?_⟩ | refine ⟨by (first | exact Nat.le_refl _ | exact Nat.le_of_ble_eq_true rfl | decide | exact rfl), ?_⟩ | refine ⟨show _ ≤ (9223372036854775807 : Nat) by (first | omega | (simp only [lenS]; omega)), ?_⟩ | refine ⟨show _ ≠ (0 : Int) by (first | omega | (simp only [lenS]; omega)), ?_⟩ | refine ⟨_, rfl, _, rfl, ?_⟩ | refine ⟨_, by assumption, Nat.le_of_ble_eq_true rfl, ?_⟩ | refine ⟨_, by assumption, _, rfl, ?_⟩ | refine ⟨_, rfl, ?_⟩ | fail)
    refine CallsAbs.freezeTo (ds := strsD [nm]) (args' := [.d (.sl (strsD [nm]))]) 0 rfl rfl ⟨fun _ => Nat.le_refl _, trivial⟩ rfl (PureC.use h2 ?_)
    cases nameOk nm with
    | false =>
      repeat' (first | refine PureC.use hc1 ?_ |  refine PureC.use hc3 ?_ |                     refine ⟨fun _ => ?_, fun h => absurd h (by decide)⟩ | refine ⟨fun h => absurd h (by decide), fun _ => ?_⟩ | (refine ⟨fun h => ?_, fun h => ?_⟩ <;> (try simp only [decide_eq_true_eq, decide_eq_false_iff_not, Bool.not_eq_true', Bool.not_eq_false', Bool.not_eq_true, Bool.not_eq_false, not_true_eq_false, beq_iff_eq, beq_eq_false_iff_ne, ne_eq, decide_eq_decide, true_iff, false_iff, iff_true, iff_false, true_and, and_true, false_or, or_false, Bool.and_true, Bool.and_eq_true, Bool.and_eq_false_iff, Bool.or_eq_true, Bool.or_eq_false_iff, List.length_cons, List.length_nil] at h) <;> (try (exfalso; first | omega | exact h rfl | (cases h; done) | exact absurd h (by assumption) | exact h (by assumption) | (simp at h; done)))) | refine ⟨⟨by (first | omega | (simp only [lenS]; omega)), by (first | omega | (simp only [lenS]; omega))⟩, _, by assumption, by rfl, ?_⟩ | refine .inl ⟨⟨by (first | omega | (simp only [lenS]; omega)), by (first | omega | (simp only [lenS]; omega))⟩, ?_⟩ | refine ⟨⟨by (first | omega | (simp only [lenS]; omega)), by (first | omega | (simp only [lenS]; omega))⟩, ?_⟩ | refine ⟨⟨by (first | omega | (simp only [lenS]; omega)), by (first | omega | (simp only [lenS]; omega)), by (first | omega | (simp only [lenS]; omega))⟩, ?_⟩ | refine ⟨.inl rfl, ?_⟩ | refine ⟨.inr (.inl (by (first | omega | (simp only [lenS]; omega)))), ?_⟩ | refine ⟨_, rfl, rfl, by (first | exact Nat.le_refl _ | exact Nat.le_of_ble_eq_true rfl | decide), ?_⟩ | refine ⟨_, rfl, by (first | exact Nat.le_refl _ | exact Nat.le_of_ble_eq_true rfl | decide), ?_⟩ | refine ⟨by (first | exact Nat.le_refl _ | exact Nat.le_of_ble_eq_true rfl | decide | exact rfl), ?_⟩ | refine ⟨show _ ≤ (9223372036854775807 : Nat) by (first | omega | (simp only [lenS]; omega)), ?_⟩ | refine ⟨show _ ≠ (0 : Int) by (first | omega | (simp only [lenS]; omega)), ?_⟩ | refine ⟨_, rfl, _, rfl, ?_⟩ | refine ⟨_, by assumption, Nat.le_of_ble_eq_true rfl, ?_⟩ | refine ⟨_, by assumption, _, rfl, ?_⟩ | refine ⟨_, rfl, ?_⟩ | fail)
      all_goals exact ⟨_, _, fin_out rfl, rfl⟩
    | true =>
      repeat' (first | refine PureC.use hc1 ?_ |  refine PureC.use hc3 ?_ |                     refine ⟨fun _ => ?_, fun h => absurd h (by decide)⟩ | refine ⟨fun h => absurd h (by decide), fun _ => ?_⟩ | (refine ⟨fun h => ?_, fun h => ?_⟩ <;> (try simp only [decide_eq_true_eq, decide_eq_false_iff_not, Bool.not_eq_true', Bool.not_eq_false', Bool.not_eq_true, Bool.not_eq_false, not_true_eq_false, beq_iff_eq, beq_eq_false_iff_ne, ne_eq, decide_eq_decide, true_iff, false_iff, iff_true, iff_false, true_and, and_true, false_or, or_false, Bool.and_true, Bool.and_eq_true, Bool.and_eq_false_iff, Bool.or_eq_true, Bool.or_eq_false_iff, List.length_cons, List.length_nil] at h) <;> (try (exfalso; first | omega | exact h rfl | (cases h; done) | exact absurd h (by assumption) | exact h (by assumption) | (simp at h; done)))) | refine ⟨⟨by (first | omega | (simp only [lenS]; omega)), by (first | omega | (simp only [lenS]; omega))⟩, _, by assumption, by rfl, ?_⟩ | refine .inl ⟨⟨by (first | omega | (simp only [lenS]; omega)), by (first | omega | (simp only [lenS]; omega))⟩, ?_⟩ | refine ⟨⟨by (first | omega | (simp only [lenS]; omega)), by (first | omega | (simp only [lenS]; omega))⟩, ?_⟩ | refine ⟨⟨by (first | omega | (simp only [lenS]; omega)), by (first | omega | (simp only [lenS]; omega)), by (first | omega | (simp only [lenS]; omega))⟩, ?_⟩ | refine ⟨.inl rfl, ?_⟩ | refine ⟨.inr (.inl (by (first | omega | (simp only [lenS]; omega)))), ?_⟩ | refine ⟨_, rfl, rfl, by (first | exact Nat.le_refl _ | exact Nat.le_of_ble_eq_true rfl | decide), ?_⟩ | refine ⟨_, rfl, by (first | exact Nat.le_refl _ | exact Nat.le_of_ble_eq_true rfl | decide), ?_⟩ | refine ⟨by (first | exact Nat.le_refl _ | exact Nat.le_of_ble_eq_true rfl | decide | exact rfl), ?_⟩ | refine ⟨show _ ≤ (9223372036854775807 : Nat) by (first | omega | (simp only [lenS]; omega)), ?_⟩ | refine ⟨show _ ≠ (0 : Int) by (first | omega | (simp only [lenS]; omega)), ?_⟩ | refine ⟨_, rfl, _, rfl, ?_⟩ | refine ⟨_, by assumption, Nat.le_of_ble_eq_true rfl, ?_⟩ | refine ⟨_, by assumption, _, rfl, ?_⟩ | refine ⟨_, rfl, ?_⟩ | fail)
      all_goals exact ⟨_, _, fin_out rfl, rfl⟩
theorem StyleOne_law {n n' n'' : Nat} {r r' r'' : List D} (h : DOk Tryd.prog n 9 r) (h' : DOk Tryd.prog n' 9 r') (h'' : DOk Tryd.prog n'' 9 r'') : PureC Tryd.prog 7 [argAV Tryd.prog 9 r, argAV Tryd.prog 9 r', argAV Tryd.prog 9 r''] (.d (.bool true)) := by
  obtain ⟨s, rfl, hs⟩ := dok_str h
  obtain ⟨u, rfl, _⟩ := dok_str h'
  obtain ⟨w, rfl, _⟩ := dok_str h''
  rw [arg_str, arg_str, arg_str]; exact StyleOne_ok s u w (Nat.le_trans hs (by decide))
end Go.Proofs.YtkgdplfcanonhaaDoor
