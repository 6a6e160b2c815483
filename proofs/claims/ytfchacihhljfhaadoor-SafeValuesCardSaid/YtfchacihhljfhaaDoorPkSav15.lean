/- What is proved here serves the claim: the walk over the code and the plain laws, part 15 of 17. -/
import Derived.Test.YtfchacihhljfhaaDoorPkSav14
namespace Go.Proofs.YtfchacihhljfhaaDoor
open Go.Aw
set_option maxHeartbeats 1600000
set_option linter.unusedSimpArgs false
set_option linter.unusedVariables false
def strsA (l : List (List UInt8)) : List (List AV) := (strsD l).map fun r => r.map AV.d
theorem strsA_len (l : List (List UInt8)) : (strsA l).length = l.length := by simp [strsA, strsD_len]
theorem strsA_rows (l : List (List UInt8)) : ∀ row ∈ strsA l, row.length = 1 ∧ ∀ a ∈ row, a.one = true := fun row h => by
  unfold strsA strsD at h
  simp only [List.map_map, List.mem_map] at h
  obtain ⟨p, _, rfl⟩ := h
  exact ⟨rfl, fun a ha => by simp at ha; rw [ha]; rfl⟩
theorem strsA_snoc (l : List (List UInt8)) (p : List UInt8) : strsA (l ++ [p]) = strsA l ++ [[.d (.str p)]] := by simp [strsA, strsD]
theorem strsA_pure (l : List (List UInt8)) : ∀ row ∈ strsA l, pureL row = true := dataA_pure _
/-- Where the parts stand when all before i has been seen. -/
def PartI (c : UInt8) (s : List UInt8) (i : Nat) (P : List (List UInt8)) (fr : Nat) : Prop :=
  (i ≤ s.length ∧ fr ≤ i ∧ splitB c s = P ++ splitB c (s.drop fr) ∧ c ∉ (s.drop fr).take (i - fr)) ∨ (i = s.length + 1 ∧ fr = s.length + 1 ∧ P = splitB c s)
theorem PartI.start (c : UInt8) (s : List UInt8) : PartI c s 0 [] 0 := .inl ⟨Nat.zero_le _, Nat.le_refl _, rfl, by simp⟩
theorem PartI.miss {c : UInt8} {s : List UInt8} {i : Nat} {P : List (List UInt8)} {fr : Nat} (h : PartI c s i P fr) (hi : i < s.length) (hc : s[i] ≠ c) : PartI c s (i + 1) P fr := by
  rcases h with ⟨_, h1, h2, h3⟩ | ⟨h, _⟩
  · refine .inl ⟨hi, by omega, h2, ?_⟩
    rw [show i + 1 - fr = (i - fr) + 1 from by omega, List.take_succ_eq_append_getElem (by rw [List.length_drop]; omega)]
    simp only [List.mem_append, List.mem_singleton, not_or]
    refine ⟨h3, fun e => hc ?_⟩
    rw [e, List.getElem_drop]
    congr 1; omega
  · omega
theorem PartI.hit {c : UInt8} {s : List UInt8} {i : Nat} {P : List (List UInt8)} {fr : Nat} (h : PartI c s i P fr) (hi : i < s.length) (hc : s[i] = c) : PartI c s (i + 1) (P ++ [(s.take i).drop fr]) (i + 1) := by
  rcases h with ⟨_, h1, h2, h3⟩ | ⟨h, _⟩
  · refine .inl ⟨hi, Nat.le_refl _, ?_, by simp⟩
    have e : s.drop fr = (s.drop fr).take (i - fr) ++ c :: s.drop (i + 1) := by
      rw [← hc]
      have h4 : (s.drop fr).drop (i - fr) = s[i] :: s.drop (i + 1) := by
        rw [List.drop_drop, show fr + (i - fr) = i from by omega, List.drop_eq_getElem_cons hi]
      rw [← h4, List.take_append_drop]
    rw [h2, e, splitB_app h3, List.drop_take, List.append_assoc]; rfl
  · omega
theorem PartI.fin {c : UInt8} {s : List UInt8} {P : List (List UInt8)} {fr : Nat} (h : PartI c s s.length P fr) : PartI c s (s.length + 1) (P ++ [(s.take s.length).drop fr]) (s.length + 1) := by
  rcases h with ⟨_, h1, h2, h3⟩ | ⟨h, _⟩
  · refine .inr ⟨rfl, rfl, ?_⟩
    rw [List.take_of_length_le (by rw [List.length_drop]; omega)] at h3
    rw [h2, splitB_none h3, List.take_length]
  · omega
theorem PartI.len {c : UInt8} {s : List UInt8} {i : Nat} {P : List (List UInt8)} {fr : Nat} (h : PartI c s i P fr) : P.length ≤ s.length + 1 ∧ fr ≤ i := by
  have h1 := splitB_len c s
  have h2 := List.count_le_length (a := c) (l := s)
  rcases h with ⟨_, h3, h, _⟩ | ⟨h0, h3, h⟩
  · rw [h, List.length_append] at h1; omega
  · rw [← h] at h1; omega
set_option maxRecDepth 100000 in
set_option maxHeartbeats 1000000 in
theorem parts_ok (c : UInt8) (s : List UInt8) (hs : s.length ≤ 1000000000) : PureC Tryd.prog 55 [.d (.str s), .d (.int .u8 c.toNat)] (.d (.sl (strsD (splitB c s)))) := by
  refine pure_okT Tryd.wf Tryd.tab_ok Tryd.func55 (by decide +kernel) rfl rfl rfl rfl ?_
  repeat' (first |                        refine ⟨fun _ => ?_, fun h => absurd h (by decide)⟩ | refine ⟨fun h => absurd h (by decide), fun _ => ?_⟩ | (refine ⟨fun h => ?_, fun h => ?_⟩ <;> (try simp only [decide_eq_true_eq, decide_eq_false_iff_not, Bool.not_eq_true', Bool.not_eq_false', Bool.not_eq_true, Bool.not_eq_false, not_true_eq_false, beq_iff_eq, beq_eq_false_iff_ne, ne_eq, decide_eq_decide, true_iff, false_iff, iff_true, iff_false, true_and, and_true, false_or, or_false, Bool.and_true, Bool.and_eq_true, Bool.and_eq_false_iff, Bool.or_eq_true, Bool.or_eq_false_iff, List.length_cons, List.length_nil] at h) <;> (try (exfalso; first | omega | exact h rfl | (cases h; done) | exact absurd h (by assumption) | exact h (by assumption) | (simp at h; done)))) | refine ⟨⟨by (first | omega | (simp only [lenS]; omega)), by (first | omega | (simp only [lenS]; omega))⟩, _, by assumption, by rfl, ?_⟩ | refine .inl ⟨⟨by (first | omega | (simp only [lenS]; omega)), by (first | omega | (simp only [lenS]; omega))⟩, ?_⟩ | refine ⟨⟨by (first | omega | (simp only [lenS]; omega)), by (first | omega | (simp only [lenS]; omega))⟩, ?_⟩ | refine ⟨⟨by (first | omega | (simp only [lenS]; omega)), by (first | omega | (simp only [lenS]; omega)), by (first | omega | (simp only [lenS]; omega))⟩, ?_⟩ | refine ⟨.inl rfl, ?_⟩ | refine ⟨.inr (.inl (by (first | omega | (simp only [lenS]; omega)))), ?_⟩ | refine ⟨_, rfl, rfl, by (first | exact Nat.le_refl _ | exact Nat.le_of_ble_eq_true rfl | decide), ?_⟩ | refine ⟨_, rfl, by (first | exact Nat.le_refl _ | exact Nat.le_of_ble_eq_true rfl | decide), ?_⟩ | refine ⟨by (first | exact Nat.le_refl _ | exact Nat.le_of_ble_eq_true rfl | decide | exact rfl), ?_⟩ | refine ⟨show _ ≤ (9223372036854775807 : Nat) by (first | omega | (simp only [lenS]; omega)), ?_⟩ | refine ⟨show _ ≠ (0 : Int) by (first | omega | (simp only [lenS]; omega)), ?_⟩ | refine ⟨_, rfl, _, rfl, ?_⟩ | refine ⟨_, by assumption, Nat.le_of_ble_eq_true rfl, ?_⟩ | refine ⟨_, by assumption, _, rfl, ?_⟩ | refine ⟨_, rfl, ?_⟩ | fail)
  refine loopT Tryd.wf Tryd.tab_ok (fun n s' σ => ∃ (i : Nat) (P : List (List UInt8)) (fr : Nat), n = s.length + 1 - i ∧ i ≤ s.length + 1 ∧ PartI c s i P fr ∧ s' = [(0, .d (.str s)), (1, .d (.int .u8 c.toNat)), (5, .own 0 0 P.length), (6, .d (.int .i64 fr)), (7, .d (.int .i64 i))] ∧ σ = ⟨1, [(0, .rows (1, 9) (strsA P))]⟩)
    ⟨0, [], 0, rfl, Nat.zero_le _, PartI.start c s, rfl, rfl⟩ (Mv.of [.phan 1] rfl rfl rfl ⟨rfl, trivial⟩ ⟨rfl, rfl, ⟨rfl, rfl, rfl⟩, rfl, rfl, trivial⟩) ?_
  rintro _ _ _ ⟨i, P, fr, rfl, hi, hI, rfl, rfl⟩
  have hl := strsA_len P
  have hPl := hI.len
  by_cases hle : i ≤ s.length
  · by_cases hlt : i < s.length
    · have hg := getD_at s i hlt
      by_cases hc : s[i] = c
      · have hn := hI.hit hlt hc
        have hst := strsA_snoc P ((s.take i).drop fr)
        have hgc : ((s.getD ((i : Nat) : Int).toNat 0).toNat : Int) = c.toNat := by rw [hg, hc]
        repeat' (first |                        refine ⟨fun _ => ?_, fun h => absurd h (by decide)⟩ | refine ⟨fun h => absurd h (by decide), fun _ => ?_⟩ | (refine ⟨fun h => ?_, fun h => ?_⟩ <;> (try simp only [decide_eq_true_eq, decide_eq_false_iff_not, Bool.not_eq_true', Bool.not_eq_false', Bool.not_eq_true, Bool.not_eq_false, not_true_eq_false, beq_iff_eq, beq_eq_false_iff_ne, ne_eq, decide_eq_decide, true_iff, false_iff, iff_true, iff_false, true_and, and_true, false_or, or_false, Bool.and_true, Bool.and_eq_true, Bool.and_eq_false_iff, Bool.or_eq_true, Bool.or_eq_false_iff, List.length_cons, List.length_nil] at h) <;> (try (exfalso; first | omega | exact h rfl | (cases h; done) | exact absurd h (by assumption) | exact h (by assumption) | (simp at h; done)))) | refine ⟨⟨by (first | omega | (simp only [lenS]; omega)), by (first | omega | (simp only [lenS]; omega))⟩, _, by assumption, by rfl, ?_⟩ | refine .inl ⟨⟨by (first | omega | (simp only [lenS]; omega)), by (first | omega | (simp only [lenS]; omega))⟩, ?_⟩ | refine ⟨⟨by (first | omega | (simp only [lenS]; omega)), by (first | omega | (simp only [lenS]; omega))⟩, ?_⟩ | refine ⟨⟨by (first | omega | (simp only [lenS]; omega)), by (first | omega | (simp only [lenS]; omega)), by (first | omega | (simp only [lenS]; omega))⟩, ?_⟩ | refine ⟨.inl rfl, ?_⟩ | refine ⟨.inr (.inl (by (first | omega | (simp only [lenS]; omega)))), ?_⟩ | refine ⟨_, rfl, rfl, by (first | exact Nat.le_refl _ | exact Nat.le_of_ble_eq_true rfl | decide), ?_⟩ | refine ⟨_, rfl, by (first | exact Nat.le_refl _ | exact Nat.le_of_ble_eq_true rfl | decide), ?_⟩ | refine ⟨by (first | exact Nat.le_refl _ | exact Nat.le_of_ble_eq_true rfl | decide | exact rfl), ?_⟩ | refine ⟨show _ ≤ (9223372036854775807 : Nat) by (first | omega | (simp only [lenS]; omega)), ?_⟩ | refine ⟨show _ ≠ (0 : Int) by (first | omega | (simp only [lenS]; omega)), ?_⟩ | refine ⟨_, rfl, _, rfl, ?_⟩ | refine ⟨_, by assumption, Nat.le_of_ble_eq_true rfl, ?_⟩ | refine ⟨_, by assumption, _, rfl, ?_⟩ | refine ⟨_, rfl, ?_⟩ | fail)
        refine ⟨strsA P, [_], congrArg some (takeAll hl), rfl, (show srcLen (.own 0 0 P.length) _ from hl), rfl, (by rw [hl]; show (P.length + 1) * 16 ≤ 140737488355328; omega), Nat.le_of_ble_eq_true rfl, Nat.le_of_ble_eq_true rfl, rfl, rfl, strsA_rows P, rowsOne rfl rfl, ?_⟩
        repeat' (first |                        refine ⟨fun _ => ?_, fun h => absurd h (by decide)⟩ | refine ⟨fun h => absurd h (by decide), fun _ => ?_⟩ | (refine ⟨fun h => ?_, fun h => ?_⟩ <;> (try simp only [decide_eq_true_eq, decide_eq_false_iff_not, Bool.not_eq_true', Bool.not_eq_false', Bool.not_eq_true, Bool.not_eq_false, not_true_eq_false, beq_iff_eq, beq_eq_false_iff_ne, ne_eq, decide_eq_decide, true_iff, false_iff, iff_true, iff_false, true_and, and_true, false_or, or_false, Bool.and_true, Bool.and_eq_true, Bool.and_eq_false_iff, Bool.or_eq_true, Bool.or_eq_false_iff, List.length_cons, List.length_nil] at h) <;> (try (exfalso; first | omega | exact h rfl | (cases h; done) | exact absurd h (by assumption) | exact h (by assumption) | (simp at h; done)))) | refine ⟨⟨by (first | omega | (simp only [lenS]; omega)), by (first | omega | (simp only [lenS]; omega))⟩, _, by assumption, by rfl, ?_⟩ | refine .inl ⟨⟨by (first | omega | (simp only [lenS]; omega)), by (first | omega | (simp only [lenS]; omega))⟩, ?_⟩ | refine ⟨⟨by (first | omega | (simp only [lenS]; omega)), by (first | omega | (simp only [lenS]; omega))⟩, ?_⟩ | refine ⟨⟨by (first | omega | (simp only [lenS]; omega)), by (first | omega | (simp only [lenS]; omega)), by (first | omega | (simp only [lenS]; omega))⟩, ?_⟩ | refine ⟨.inl rfl, ?_⟩ | refine ⟨.inr (.inl (by (first | omega | (simp only [lenS]; omega)))), ?_⟩ | refine ⟨_, rfl, rfl, by (first | exact Nat.le_refl _ | exact Nat.le_of_ble_eq_true rfl | decide), ?_⟩ | refine ⟨_, rfl, by (first | exact Nat.le_refl _ | exact Nat.le_of_ble_eq_true rfl | decide), ?_⟩ | refine ⟨by (first | exact Nat.le_refl _ | exact Nat.le_of_ble_eq_true rfl | decide | exact rfl), ?_⟩ | refine ⟨show _ ≤ (9223372036854775807 : Nat) by (first | omega | (simp only [lenS]; omega)), ?_⟩ | refine ⟨show _ ≠ (0 : Int) by (first | omega | (simp only [lenS]; omega)), ?_⟩ | refine ⟨_, rfl, _, rfl, ?_⟩ | refine ⟨_, by assumption, Nat.le_of_ble_eq_true rfl, ?_⟩ | refine ⟨_, by assumption, _, rfl, ?_⟩ | refine ⟨_, rfl, ?_⟩ | fail)
        exact ⟨_, _, _, ⟨i + 1, P ++ [(s.take i).drop fr], i + 1, rfl, by omega, hn, rfl, rfl⟩, by omega, Mv.of [.old 2] rfl rfl rfl ⟨⟨rfl, .inl ⟨hst, strsA_pure _⟩⟩, trivial⟩ ⟨rfl, rfl, ⟨rfl, rfl, by simp [strsA_len]⟩, rfl, rfl, trivial⟩⟩
      · have hn := hI.miss hlt hc
        have hgc : ¬ ((s.getD ((i : Nat) : Int).toNat 0).toNat : Int) = c.toNat := fun e => hc (by rw [hg] at e; exact UInt8.toNat_inj.1 (by omega))
        repeat' (first |                        refine ⟨fun _ => ?_, fun h => absurd h (by decide)⟩ | refine ⟨fun h => absurd h (by decide), fun _ => ?_⟩ | (refine ⟨fun h => ?_, fun h => ?_⟩ <;> (try simp only [decide_eq_true_eq, decide_eq_false_iff_not, Bool.not_eq_true', Bool.not_eq_false', Bool.not_eq_true, Bool.not_eq_false, not_true_eq_false, beq_iff_eq, beq_eq_false_iff_ne, ne_eq, decide_eq_decide, true_iff, false_iff, iff_true, iff_false, true_and, and_true, false_or, or_false, Bool.and_true, Bool.and_eq_true, Bool.and_eq_false_iff, Bool.or_eq_true, Bool.or_eq_false_iff, List.length_cons, List.length_nil] at h) <;> (try (exfalso; first | omega | exact h rfl | (cases h; done) | exact absurd h (by assumption) | exact h (by assumption) | (simp at h; done)))) | refine ⟨⟨by (first | omega | (simp only [lenS]; omega)), by (first | omega | (simp only [lenS]; omega))⟩, _, by assumption, by rfl, ?_⟩ | refine .inl ⟨⟨by (first | omega | (simp only [lenS]; omega)), by (first | omega | (simp only [lenS]; omega))⟩, ?_⟩ | refine ⟨⟨by (first | omega | (simp only [lenS]; omega)), by (first | omega | (simp only [lenS]; omega))⟩, ?_⟩ | refine ⟨⟨by (first | omega | (simp only [lenS]; omega)), by (first | omega | (simp only [lenS]; omega)), by (first | omega | (simp only [lenS]; omega))⟩, ?_⟩ | refine ⟨.inl rfl, ?_⟩ | refine ⟨.inr (.inl (by (first | omega | (simp only [lenS]; omega)))), ?_⟩ | refine ⟨_, rfl, rfl, by (first | exact Nat.le_refl _ | exact Nat.le_of_ble_eq_true rfl | decide), ?_⟩ | refine ⟨_, rfl, by (first | exact Nat.le_refl _ | exact Nat.le_of_ble_eq_true rfl | decide), ?_⟩ | refine ⟨by (first | exact Nat.le_refl _ | exact Nat.le_of_ble_eq_true rfl | decide | exact rfl), ?_⟩ | refine ⟨show _ ≤ (9223372036854775807 : Nat) by (first | omega | (simp only [lenS]; omega)), ?_⟩ | refine ⟨show _ ≠ (0 : Int) by (first | omega | (simp only [lenS]; omega)), ?_⟩ | refine ⟨_, rfl, _, rfl, ?_⟩ | refine ⟨_, by assumption, Nat.le_of_ble_eq_true rfl, ?_⟩ | refine ⟨_, by assumption, _, rfl, ?_⟩ | refine ⟨_, rfl, ?_⟩ | fail)
        exact ⟨_, _, _, ⟨i + 1, P, fr, rfl, by omega, hn, rfl, rfl⟩, by omega, Mv.of [.old 0] rfl rfl rfl ⟨⟨rfl, .inl ⟨rfl, strsA_pure _⟩⟩, trivial⟩ ⟨rfl, rfl, ⟨rfl, rfl, rfl⟩, rfl, rfl, trivial⟩⟩
    · have hii : i = s.length := by omega
      subst hii
      have hn := hI.fin
      have hst := strsA_snoc P ((s.take s.length).drop fr)
      repeat' (first |                        refine ⟨fun _ => ?_, fun h => absurd h (by decide)⟩ | refine ⟨fun h => absurd h (by decide), fun _ => ?_⟩ | (refine ⟨fun h => ?_, fun h => ?_⟩ <;> (try simp only [decide_eq_true_eq, decide_eq_false_iff_not, Bool.not_eq_true', Bool.not_eq_false', Bool.not_eq_true, Bool.not_eq_false, not_true_eq_false, beq_iff_eq, beq_eq_false_iff_ne, ne_eq, decide_eq_decide, true_iff, false_iff, iff_true, iff_false, true_and, and_true, false_or, or_false, Bool.and_true, Bool.and_eq_true, Bool.and_eq_false_iff, Bool.or_eq_true, Bool.or_eq_false_iff, List.length_cons, List.length_nil] at h) <;> (try (exfalso; first | omega | exact h rfl | (cases h; done) | exact absurd h (by assumption) | exact h (by assumption) | (simp at h; done)))) | refine ⟨⟨by (first | omega | (simp only [lenS]; omega)), by (first | omega | (simp only [lenS]; omega))⟩, _, by assumption, by rfl, ?_⟩ | refine .inl ⟨⟨by (first | omega | (simp only [lenS]; omega)), by (first | omega | (simp only [lenS]; omega))⟩, ?_⟩ | refine ⟨⟨by (first | omega | (simp only [lenS]; omega)), by (first | omega | (simp only [lenS]; omega))⟩, ?_⟩ | refine ⟨⟨by (first | omega | (simp only [lenS]; omega)), by (first | omega | (simp only [lenS]; omega)), by (first | omega | (simp only [lenS]; omega))⟩, ?_⟩ | refine ⟨.inl rfl, ?_⟩ | refine ⟨.inr (.inl (by (first | omega | (simp only [lenS]; omega)))), ?_⟩ | refine ⟨_, rfl, rfl, by (first | exact Nat.le_refl _ | exact Nat.le_of_ble_eq_true rfl | decide), ?_⟩ | refine ⟨_, rfl, by (first | exact Nat.le_refl _ | exact Nat.le_of_ble_eq_true rfl | decide), ?_⟩ | refine ⟨by (first | exact Nat.le_refl _ | exact Nat.le_of_ble_eq_true rfl | decide | exact rfl), ?_⟩ | refine ⟨show _ ≤ (9223372036854775807 : Nat) by (first | omega | (simp only [lenS]; omega)), ?_⟩ | refine ⟨show _ ≠ (0 : Int) by (first | omega | (simp only [lenS]; omega)), ?_⟩ | refine ⟨_, rfl, _, rfl, ?_⟩ | refine ⟨_, by assumption, Nat.le_of_ble_eq_true rfl, ?_⟩ | refine ⟨_, by assumption, _, rfl, ?_⟩ | refine ⟨_, rfl, ?_⟩ | fail)
      refine ⟨strsA P, [_], congrArg some (takeAll hl), rfl, (show srcLen (.own 0 0 P.length) _ from hl), rfl, (by rw [hl]; show (P.length + 1) * 16 ≤ 140737488355328; omega), Nat.le_of_ble_eq_true rfl, Nat.le_of_ble_eq_true rfl, rfl, rfl, strsA_rows P, rowsOne rfl rfl, ?_⟩
      repeat' (first |                        refine ⟨fun _ => ?_, fun h => absurd h (by decide)⟩ | refine ⟨fun h => absurd h (by decide), fun _ => ?_⟩ | (refine ⟨fun h => ?_, fun h => ?_⟩ <;> (try simp only [decide_eq_true_eq, decide_eq_false_iff_not, Bool.not_eq_true', Bool.not_eq_false', Bool.not_eq_true, Bool.not_eq_false, not_true_eq_false, beq_iff_eq, beq_eq_false_iff_ne, ne_eq, decide_eq_decide, true_iff, false_iff, iff_true, iff_false, true_and, and_true, false_or, or_false, Bool.and_true, Bool.and_eq_true, Bool.and_eq_false_iff, Bool.or_eq_true, Bool.or_eq_false_iff, List.length_cons, List.length_nil] at h) <;> (try (exfalso; first | omega | exact h rfl | (cases h; done) | exact absurd h (by assumption) | exact h (by assumption) | (simp at h; done)))) | refine ⟨⟨by (first | omega | (simp only [lenS]; omega)), by (first | omega | (simp only [lenS]; omega))⟩, _, by assumption, by rfl, ?_⟩ | refine .inl ⟨⟨by (first | omega | (simp only [lenS]; omega)), by (first | omega | (simp only [lenS]; omega))⟩, ?_⟩ | refine ⟨⟨by (first | omega | (simp only [lenS]; omega)), by (first | omega | (simp only [lenS]; omega))⟩, ?_⟩ | refine ⟨⟨by (first | omega | (simp only [lenS]; omega)), by (first | omega | (simp only [lenS]; omega)), by (first | omega | (simp only [lenS]; omega))⟩, ?_⟩ | refine ⟨.inl rfl, ?_⟩ | refine ⟨.inr (.inl (by (first | omega | (simp only [lenS]; omega)))), ?_⟩ | refine ⟨_, rfl, rfl, by (first | exact Nat.le_refl _ | exact Nat.le_of_ble_eq_true rfl | decide), ?_⟩ | refine ⟨_, rfl, by (first | exact Nat.le_refl _ | exact Nat.le_of_ble_eq_true rfl | decide), ?_⟩ | refine ⟨by (first | exact Nat.le_refl _ | exact Nat.le_of_ble_eq_true rfl | decide | exact rfl), ?_⟩ | refine ⟨show _ ≤ (9223372036854775807 : Nat) by (first | omega | (simp only [lenS]; omega)), ?_⟩ | refine ⟨show _ ≠ (0 : Int) by (first | omega | (simp only [lenS]; omega)), ?_⟩ | refine ⟨_, rfl, _, rfl, ?_⟩ | refine ⟨_, by assumption, Nat.le_of_ble_eq_true rfl, ?_⟩ | refine ⟨_, by assumption, _, rfl, ?_⟩ | refine ⟨_, rfl, ?_⟩ | fail)
      exact ⟨_, _, _, ⟨s.length + 1, P ++ [(s.take s.length).drop fr], s.length + 1, rfl, by omega, hn, rfl, rfl⟩, by omega, Mv.of [.old 2] rfl rfl rfl ⟨⟨rfl, .inl ⟨hst, strsA_pure _⟩⟩, trivial⟩ ⟨rfl, rfl, ⟨rfl, rfl, by simp [strsA_len]⟩, rfl, rfl, trivial⟩⟩
  · have hii : i = s.length + 1 := by omega
    subst hii
    repeat' (first |                        refine ⟨fun _ => ?_, fun h => absurd h (by decide)⟩ | refine ⟨fun h => absurd h (by decide), fun _ => ?_⟩ | (refine ⟨fun h => ?_, fun h => ?_⟩ <;> (try simp only [decide_eq_true_eq, decide_eq_false_iff_not, Bool.not_eq_true', Bool.not_eq_false', Bool.not_eq_true, Bool.not_eq_false, not_true_eq_false, beq_iff_eq, beq_eq_false_iff_ne, ne_eq, decide_eq_decide, true_iff, false_iff, iff_true, iff_false, true_and, and_true, false_or, or_false, Bool.and_true, Bool.and_eq_true, Bool.and_eq_false_iff, Bool.or_eq_true, Bool.or_eq_false_iff, List.length_cons, List.length_nil] at h) <;> (try (exfalso; first | omega | exact h rfl | (cases h; done) | exact absurd h (by assumption) | exact h (by assumption) | (simp at h; done)))) | refine ⟨⟨by (first | omega | (simp only [lenS]; omega)), by (first | omega | (simp only [lenS]; omega))⟩, _, by assumption, by rfl, ?_⟩ | refine .inl ⟨⟨by (first | omega | (simp only [lenS]; omega)), by (first | omega | (simp only [lenS]; omega))⟩, ?_⟩ | refine ⟨⟨by (first | omega | (simp only [lenS]; omega)), by (first | omega | (simp only [lenS]; omega))⟩, ?_⟩ | refine ⟨⟨by (first | omega | (simp only [lenS]; omega)), by (first | omega | (simp only [lenS]; omega)), by (first | omega | (simp only [lenS]; omega))⟩, ?_⟩ | refine ⟨.inl rfl, ?_⟩ | refine ⟨.inr (.inl (by (first | omega | (simp only [lenS]; omega)))), ?_⟩ | refine ⟨_, rfl, rfl, by (first | exact Nat.le_refl _ | exact Nat.le_of_ble_eq_true rfl | decide), ?_⟩ | refine ⟨_, rfl, by (first | exact Nat.le_refl _ | exact Nat.le_of_ble_eq_true rfl | decide), ?_⟩ | refine ⟨by (first | exact Nat.le_refl _ | exact Nat.le_of_ble_eq_true rfl | decide | exact rfl), ?_⟩ | refine ⟨show _ ≤ (9223372036854775807 : Nat) by (first | omega | (simp only [lenS]; omega)), ?_⟩ | refine ⟨show _ ≠ (0 : Int) by (first | omega | (simp only [lenS]; omega)), ?_⟩ | refine ⟨_, rfl, _, rfl, ?_⟩ | refine ⟨_, by assumption, Nat.le_of_ble_eq_true rfl, ?_⟩ | refine ⟨_, by assumption, _, rfl, ?_⟩ | refine ⟨_, rfl, ?_⟩ | fail)
    rcases hI with ⟨h, _⟩ | ⟨_, _, hP⟩
    · exact absurd h (by omega)
    · rw [← hP]
      exact ⟨_, _, fin_ownS rfl (rowsD_d (strsD P)) (by show P.length = _; rw [strsD_len]), rfl⟩
theorem blank_mem (c : UInt8) : c ∈ cutS ↔ c.toNat = 9 ∨ c.toNat = 10 ∨ c.toNat = 12 ∨ c.toNat = 13 ∨ c.toNat = 32 := by
  have e : ∀ n : UInt8, c = n ↔ c.toNat = n.toNat := fun n => UInt8.toNat_inj.symm
  simp only [cutS, List.mem_cons, List.not_mem_nil, or_false, e]
  rfl
set_option maxRecDepth 100000 in
theorem sblank_ok (c : UInt8) : PureC Tryd.prog 73 [.d (.int .u8 c.toNat)] (.d (.bool (decide (c ∈ cutS)))) := by
  have hm := blank_mem c
  by_cases h0 : c ∈ cutS
  · rw [decide_eq_true h0]
    have h1 := hm.1 h0
    clear h0 hm
    refine pure_okT Tryd.wf Tryd.tab_ok Tryd.func73 (by decide +kernel) rfl rfl rfl rfl ?_
    repeat' (first |                        refine ⟨fun _ => ?_, fun h => absurd h (by decide)⟩ | refine ⟨fun h => absurd h (by decide), fun _ => ?_⟩ | (refine ⟨fun h => ?_, fun h => ?_⟩ <;> (try simp only [decide_eq_true_eq, decide_eq_false_iff_not, Bool.not_eq_true', Bool.not_eq_false', Bool.not_eq_true, Bool.not_eq_false, not_true_eq_false, beq_iff_eq, beq_eq_false_iff_ne, ne_eq, decide_eq_decide, true_iff, false_iff, iff_true, iff_false, true_and, and_true, false_or, or_false, Bool.and_true, Bool.and_eq_true, Bool.and_eq_false_iff, Bool.or_eq_true, Bool.or_eq_false_iff, List.length_cons, List.length_nil] at h) <;> (try (exfalso; first | omega | exact h rfl | (cases h; done) | exact absurd h (by assumption) | exact h (by assumption) | (simp at h; done)))) | refine ⟨⟨by (first | omega | (simp only [lenS]; omega)), by (first | omega | (simp only [lenS]; omega))⟩, _, by assumption, by rfl, ?_⟩ | refine .inl ⟨⟨by (first | omega | (simp only [lenS]; omega)), by (first | omega | (simp only [lenS]; omega))⟩, ?_⟩ | refine ⟨⟨by (first | omega | (simp only [lenS]; omega)), by (first | omega | (simp only [lenS]; omega))⟩, ?_⟩ | refine ⟨⟨by (first | omega | (simp only [lenS]; omega)), by (first | omega | (simp only [lenS]; omega)), by (first | omega | (simp only [lenS]; omega))⟩, ?_⟩ | refine ⟨.inl rfl, ?_⟩ | refine ⟨.inr (.inl (by (first | omega | (simp only [lenS]; omega)))), ?_⟩ | refine ⟨_, rfl, rfl, by (first | exact Nat.le_refl _ | exact Nat.le_of_ble_eq_true rfl | decide), ?_⟩ | refine ⟨_, rfl, by (first | exact Nat.le_refl _ | exact Nat.le_of_ble_eq_true rfl | decide), ?_⟩ | refine ⟨by (first | exact Nat.le_refl _ | exact Nat.le_of_ble_eq_true rfl | decide | exact rfl), ?_⟩ | refine ⟨show _ ≤ (9223372036854775807 : Nat) by (first | omega | (simp only [lenS]; omega)), ?_⟩ | refine ⟨show _ ≠ (0 : Int) by (first | omega | (simp only [lenS]; omega)), ?_⟩ | refine ⟨_, rfl, _, rfl, ?_⟩ | refine ⟨_, by assumption, Nat.le_of_ble_eq_true rfl, ?_⟩ | refine ⟨_, by assumption, _, rfl, ?_⟩ | refine ⟨_, rfl, ?_⟩ | fail)
    all_goals first
      | exact ⟨_, _, fin_out rfl, rfl⟩
      | exact ⟨_, _, fin_out rfl, congrArg (fun b => AV.d (.bool b)) (decide_eq_true (by omega))⟩
  · rw [decide_eq_false h0]
    have h1 : ¬ (c.toNat = 9 ∨ c.toNat = 10 ∨ c.toNat = 12 ∨ c.toNat = 13 ∨ c.toNat = 32) := fun h => h0 (hm.2 h)
    clear h0 hm
    refine pure_okT Tryd.wf Tryd.tab_ok Tryd.func73 (by decide +kernel) rfl rfl rfl rfl ?_
    repeat' (first |                        refine ⟨fun _ => ?_, fun h => absurd h (by decide)⟩ | refine ⟨fun h => absurd h (by decide), fun _ => ?_⟩ | (refine ⟨fun h => ?_, fun h => ?_⟩ <;> (try simp only [decide_eq_true_eq, decide_eq_false_iff_not, Bool.not_eq_true', Bool.not_eq_false', Bool.not_eq_true, Bool.not_eq_false, not_true_eq_false, beq_iff_eq, beq_eq_false_iff_ne, ne_eq, decide_eq_decide, true_iff, false_iff, iff_true, iff_false, true_and, and_true, false_or, or_false, Bool.and_true, Bool.and_eq_true, Bool.and_eq_false_iff, Bool.or_eq_true, Bool.or_eq_false_iff, List.length_cons, List.length_nil] at h) <;> (try (exfalso; first | omega | exact h rfl | (cases h; done) | exact absurd h (by assumption) | exact h (by assumption) | (simp at h; done)))) | refine ⟨⟨by (first | omega | (simp only [lenS]; omega)), by (first | omega | (simp only [lenS]; omega))⟩, _, by assumption, by rfl, ?_⟩ | refine .inl ⟨⟨by (first | omega | (simp only [lenS]; omega)), by (first | omega | (simp only [lenS]; omega))⟩, ?_⟩ | refine ⟨⟨by (first | omega | (simp only [lenS]; omega)), by (first | omega | (simp only [lenS]; omega))⟩, ?_⟩ | refine ⟨⟨by (first | omega | (simp only [lenS]; omega)), by (first | omega | (simp only [lenS]; omega)), by (first | omega | (simp only [lenS]; omega))⟩, ?_⟩ | refine ⟨.inl rfl, ?_⟩ | refine ⟨.inr (.inl (by (first | omega | (simp only [lenS]; omega)))), ?_⟩ | refine ⟨_, rfl, rfl, by (first | exact Nat.le_refl _ | exact Nat.le_of_ble_eq_true rfl | decide), ?_⟩ | refine ⟨_, rfl, by (first | exact Nat.le_refl _ | exact Nat.le_of_ble_eq_true rfl | decide), ?_⟩ | refine ⟨by (first | exact Nat.le_refl _ | exact Nat.le_of_ble_eq_true rfl | decide | exact rfl), ?_⟩ | refine ⟨show _ ≤ (9223372036854775807 : Nat) by (first | omega | (simp only [lenS]; omega)), ?_⟩ | refine ⟨show _ ≠ (0 : Int) by (first | omega | (simp only [lenS]; omega)), ?_⟩ | refine ⟨_, rfl, _, rfl, ?_⟩ | refine ⟨_, by assumption, Nat.le_of_ble_eq_true rfl, ?_⟩ | refine ⟨_, by assumption, _, rfl, ?_⟩ | refine ⟨_, rfl, ?_⟩ | fail)
    all_goals first
      | exact ⟨_, _, fin_out rfl, rfl⟩
      | exact ⟨_, _, fin_out rfl, congrArg (fun b => AV.d (.bool b)) (decide_eq_false (by omega))⟩
end Go.Proofs.YtfchacihhljfhaaDoor

namespace Go.Proofs.YtfchacihhljfhaaDoor
open Go.Aw
set_option maxHeartbeats 1600000
set_option linter.unusedSimpArgs false
set_option linter.unusedVariables false
theorem trimRB_cons (cs r : List UInt8) (x : UInt8) : trimRB cs (x :: r) = if trimRB cs r = [] then (if x ∈ cs then [] else [x]) else x :: trimRB cs r := by
  unfold trimRB
  rw [List.reverse_cons, List.dropWhile_append]
  by_cases h : (List.dropWhile (fun c => decide (c ∈ cs)) r.reverse) = []
  · rw [h]
    simp only [List.isEmpty_nil, if_true, List.reverse_nil]
    by_cases hx : x ∈ cs <;> simp [hx]
  · have h2 : (List.dropWhile (fun c => decide (c ∈ cs)) r.reverse).isEmpty = false := by
      cases he : List.dropWhile (fun c => decide (c ∈ cs)) r.reverse with
      | nil => exact absurd he h
      | cons _ _ => rfl
    rw [h2, if_neg (by simp), if_neg (by simpa using h), List.reverse_append]; rfl
theorem trim_comm (cs : List UInt8) : ∀ s, trimRB cs (trimLB cs s) = trimLB cs (trimRB cs s)
  | [] => rfl
  | x :: r => by
    have ih := trim_comm cs r
    rw [trimLB_cons, trimRB_cons]
    by_cases hx : x ∈ cs
    · rw [if_pos hx, if_pos hx, ih]
      by_cases h : trimRB cs r = []
      · rw [if_pos h, h]
      · rw [if_neg h, trimLB_cons, if_pos hx]
    · rw [if_neg hx, if_neg hx, trimRB_cons, if_neg hx]
      by_cases h : trimRB cs r = []
      · rw [if_pos h, trimLB_cons, if_neg hx]
      · rw [if_neg h, trimLB_cons, if_neg hx]
set_option maxRecDepth 100000 in
set_option maxHeartbeats 1000000 in
theorem rbare_ok (s : List UInt8) (hs : s.length ≤ 1000000000) : PureC Tryd.prog 56 [.d (.str s)] (.d (.str (bareB s))) := by
  have hlow := rLower_ok (trimLB cutS (trimRB cutS s)) (Nat.le_trans (trimLB_le _ _) (Nat.le_trans (trimRB_le _ _) (Nat.le_trans hs (by decide))))
  have hle := trimLB_le cutS s
  unfold bareB
  rw [← trim_comm] at hlow ⊢
  refine PureC.of rfl rfl (fn_okTE Tryd.wf Tryd.tab_ok Tryd.func56 (by decide +kernel) rfl rfl ?_)
  refine E.seq (E.of Tryd.wf Tryd.tab_ok ?_)
  refine midT Tryd.wf Tryd.tab_ok (fun s' σ => s' = [(0, .d (.str (trimLB cutS s)))] ∧ σ = ⟨0, []⟩) ?_ ?_
  · refine loopT Tryd.wf Tryd.tab_ok (fun n s' σ => ∃ r : List UInt8, n = r.length ∧ r.length ≤ s.length ∧ trimLB cutS s = trimLB cutS r ∧ s' = [(0, .d (.str r))] ∧ σ = ⟨0, []⟩)
      ⟨s, rfl, Nat.le_refl _, rfl, rfl, rfl⟩ (Mv.of [] rfl rfl rfl trivial ⟨rfl, trivial⟩) ?_
    rintro _ _ _ ⟨r, rfl, hr, he, rfl, rfl⟩
    cases r with
    | nil =>
      repeat' (first | refine PureC.use hc1 ?_ | refine PureC.use hc2 ?_ |                      refine ⟨fun _ => ?_, fun h => absurd h (by decide)⟩ | refine ⟨fun h => absurd h (by decide), fun _ => ?_⟩ | (refine ⟨fun h => ?_, fun h => ?_⟩ <;> (try simp only [decide_eq_true_eq, decide_eq_false_iff_not, Bool.not_eq_true', Bool.not_eq_false', Bool.not_eq_true, Bool.not_eq_false, not_true_eq_false, beq_iff_eq, beq_eq_false_iff_ne, ne_eq, decide_eq_decide, true_iff, false_iff, iff_true, iff_false, true_and, and_true, false_or, or_false, Bool.and_true, Bool.and_eq_true, Bool.and_eq_false_iff, Bool.or_eq_true, Bool.or_eq_false_iff, List.length_cons, List.length_nil] at h) <;> (try (exfalso; first | omega | exact h rfl | (cases h; done) | exact absurd h (by assumption) | exact h (by assumption) | (simp at h; done)))) | refine ⟨⟨by (first | omega | (simp only [lenS]; omega)), by (first | omega | (simp only [lenS]; omega))⟩, _, by assumption, by rfl, ?_⟩ | refine .inl ⟨⟨by (first | omega | (simp only [lenS]; omega)), by (first | omega | (simp only [lenS]; omega))⟩, ?_⟩ | refine ⟨⟨by (first | omega | (simp only [lenS]; omega)), by (first | omega | (simp only [lenS]; omega))⟩, ?_⟩ | refine ⟨⟨by (first | omega | (simp only [lenS]; omega)), by (first | omega | (simp only [lenS]; omega)), by (first | omega | (simp only [lenS]; omega))⟩, ?_⟩ | refine ⟨.inl rfl, ?_⟩ | refine ⟨.inr (.inl (by (first | omega | (simp only [lenS]; omega)))), ?_⟩ | refine ⟨_, rfl, rfl, by (first | exact Nat.le_refl _ | exact Nat.le_of_ble_eq_true rfl | decide), ?_⟩ | refine ⟨_, rfl, by (first | exact Nat.le_refl _ | exact Nat.le_of_ble_eq_true rfl | decide), ?_⟩ | refine ⟨by (first | exact Nat.le_refl _ | exact Nat.le_of_ble_eq_true rfl | decide | exact rfl), ?_⟩ | refine ⟨show _ ≤ (9223372036854775807 : Nat) by (first | omega | (simp only [lenS]; omega)), ?_⟩ | refine ⟨show _ ≠ (0 : Int) by (first | omega | (simp only [lenS]; omega)), ?_⟩ | refine ⟨_, rfl, _, rfl, ?_⟩ | refine ⟨_, by assumption, Nat.le_of_ble_eq_true rfl, ?_⟩ | refine ⟨_, by assumption, _, rfl, ?_⟩ | refine ⟨_, rfl, ?_⟩ | fail)
      exact ⟨_, _, ⟨rfl, rfl⟩, Mv.of [] rfl rfl rfl trivial ⟨congrArg D.str he, trivial⟩⟩
    | cons c r =>
      have hc1 := sblank_ok c
      have hl : (c :: r).length = r.length + 1 := by simp
      rw [trimLB_cons] at he
      by_cases hm : c ∈ cutS
      · rw [decide_eq_true hm] at hc1
        rw [if_pos hm] at he
        repeat' (first | refine PureC.use hc1 ?_ | refine PureC.use hc2 ?_ |                      refine ⟨fun _ => ?_, fun h => absurd h (by decide)⟩ | refine ⟨fun h => absurd h (by decide), fun _ => ?_⟩ | (refine ⟨fun h => ?_, fun h => ?_⟩ <;> (try simp only [decide_eq_true_eq, decide_eq_false_iff_not, Bool.not_eq_true', Bool.not_eq_false', Bool.not_eq_true, Bool.not_eq_false, not_true_eq_false, beq_iff_eq, beq_eq_false_iff_ne, ne_eq, decide_eq_decide, true_iff, false_iff, iff_true, iff_false, true_and, and_true, false_or, or_false, Bool.and_true, Bool.and_eq_true, Bool.and_eq_false_iff, Bool.or_eq_true, Bool.or_eq_false_iff, List.length_cons, List.length_nil] at h) <;> (try (exfalso; first | omega | exact h rfl | (cases h; done) | exact absurd h (by assumption) | exact h (by assumption) | (simp at h; done)))) | refine ⟨⟨by (first | omega | (simp only [lenS]; omega)), by (first | omega | (simp only [lenS]; omega))⟩, _, by assumption, by rfl, ?_⟩ | refine .inl ⟨⟨by (first | omega | (simp only [lenS]; omega)), by (first | omega | (simp only [lenS]; omega))⟩, ?_⟩ | refine ⟨⟨by (first | omega | (simp only [lenS]; omega)), by (first | omega | (simp only [lenS]; omega))⟩, ?_⟩ | refine ⟨⟨by (first | omega | (simp only [lenS]; omega)), by (first | omega | (simp only [lenS]; omega)), by (first | omega | (simp only [lenS]; omega))⟩, ?_⟩ | refine ⟨.inl rfl, ?_⟩ | refine ⟨.inr (.inl (by (first | omega | (simp only [lenS]; omega)))), ?_⟩ | refine ⟨_, rfl, rfl, by (first | exact Nat.le_refl _ | exact Nat.le_of_ble_eq_true rfl | decide), ?_⟩ | refine ⟨_, rfl, by (first | exact Nat.le_refl _ | exact Nat.le_of_ble_eq_true rfl | decide), ?_⟩ | refine ⟨by (first | exact Nat.le_refl _ | exact Nat.le_of_ble_eq_true rfl | decide | exact rfl), ?_⟩ | refine ⟨show _ ≤ (9223372036854775807 : Nat) by (first | omega | (simp only [lenS]; omega)), ?_⟩ | refine ⟨show _ ≠ (0 : Int) by (first | omega | (simp only [lenS]; omega)), ?_⟩ | refine ⟨_, rfl, _, rfl, ?_⟩ | refine ⟨_, by assumption, Nat.le_of_ble_eq_true rfl, ?_⟩ | refine ⟨_, by assumption, _, rfl, ?_⟩ | refine ⟨_, rfl, ?_⟩ | fail)
        exact ⟨_, _, _, ⟨r, rfl, by omega, he, rfl, rfl⟩, by omega, Mv.of [] rfl rfl rfl trivial ⟨congrArg D.str (by rw [Int.toNat_natCast, List.take_length]; rfl), trivial⟩⟩
      · rw [decide_eq_false hm] at hc1
        rw [if_neg hm] at he
        repeat' (first | refine PureC.use hc1 ?_ | refine PureC.use hc2 ?_ |                      refine ⟨fun _ => ?_, fun h => absurd h (by decide)⟩ | refine ⟨fun h => absurd h (by decide), fun _ => ?_⟩ | (refine ⟨fun h => ?_, fun h => ?_⟩ <;> (try simp only [decide_eq_true_eq, decide_eq_false_iff_not, Bool.not_eq_true', Bool.not_eq_false', Bool.not_eq_true, Bool.not_eq_false, not_true_eq_false, beq_iff_eq, beq_eq_false_iff_ne, ne_eq, decide_eq_decide, true_iff, false_iff, iff_true, iff_false, true_and, and_true, false_or, or_false, Bool.and_true, Bool.and_eq_true, Bool.and_eq_false_iff, Bool.or_eq_true, Bool.or_eq_false_iff, List.length_cons, List.length_nil] at h) <;> (try (exfalso; first | omega | exact h rfl | (cases h; done) | exact absurd h (by assumption) | exact h (by assumption) | (simp at h; done)))) | refine ⟨⟨by (first | omega | (simp only [lenS]; omega)), by (first | omega | (simp only [lenS]; omega))⟩, _, by assumption, by rfl, ?_⟩ | refine .inl ⟨⟨by (first | omega | (simp only [lenS]; omega)), by (first | omega | (simp only [lenS]; omega))⟩, ?_⟩ | refine ⟨⟨by (first | omega | (simp only [lenS]; omega)), by (first | omega | (simp only [lenS]; omega))⟩, ?_⟩ | refine ⟨⟨by (first | omega | (simp only [lenS]; omega)), by (first | omega | (simp only [lenS]; omega)), by (first | omega | (simp only [lenS]; omega))⟩, ?_⟩ | refine ⟨.inl rfl, ?_⟩ | refine ⟨.inr (.inl (by (first | omega | (simp only [lenS]; omega)))), ?_⟩ | refine ⟨_, rfl, rfl, by (first | exact Nat.le_refl _ | exact Nat.le_of_ble_eq_true rfl | decide), ?_⟩ | refine ⟨_, rfl, by (first | exact Nat.le_refl _ | exact Nat.le_of_ble_eq_true rfl | decide), ?_⟩ | refine ⟨by (first | exact Nat.le_refl _ | exact Nat.le_of_ble_eq_true rfl | decide | exact rfl), ?_⟩ | refine ⟨show _ ≤ (9223372036854775807 : Nat) by (first | omega | (simp only [lenS]; omega)), ?_⟩ | refine ⟨show _ ≠ (0 : Int) by (first | omega | (simp only [lenS]; omega)), ?_⟩ | refine ⟨_, rfl, _, rfl, ?_⟩ | refine ⟨_, by assumption, Nat.le_of_ble_eq_true rfl, ?_⟩ | refine ⟨_, by assumption, _, rfl, ?_⟩ | refine ⟨_, rfl, ?_⟩ | fail)
        exact ⟨_, _, ⟨rfl, rfl⟩, Mv.of [] rfl rfl rfl trivial ⟨congrArg D.str he, trivial⟩⟩
  · rintro _ _ ⟨rfl, rfl⟩
    generalize trimLB cutS s = u at *
    refine E.of Tryd.wf Tryd.tab_ok ?_
    refine loopT Tryd.wf Tryd.tab_ok (fun n s' σ => ∃ r : List UInt8, n = r.length ∧ r.length ≤ u.length ∧ trimRB cutS u = trimRB cutS r ∧ s' = [(0, .d (.str r))] ∧ σ = ⟨0, []⟩)
      ⟨u, rfl, Nat.le_refl _, rfl, rfl, rfl⟩ (Mv.of [] rfl rfl rfl trivial ⟨rfl, trivial⟩) ?_
    rintro _ _ _ ⟨r, rfl, hr, he, rfl, rfl⟩
    rcases List.eq_nil_or_concat r with rfl | ⟨r, c, rfl⟩
    · rw [he] at hlow ⊢
      have hc2 := hlow
      repeat' (first | refine PureC.use hc1 ?_ | refine PureC.use hc2 ?_ |                      refine ⟨fun _ => ?_, fun h => absurd h (by decide)⟩ | refine ⟨fun h => absurd h (by decide), fun _ => ?_⟩ | (refine ⟨fun h => ?_, fun h => ?_⟩ <;> (try simp only [decide_eq_true_eq, decide_eq_false_iff_not, Bool.not_eq_true', Bool.not_eq_false', Bool.not_eq_true, Bool.not_eq_false, not_true_eq_false, beq_iff_eq, beq_eq_false_iff_ne, ne_eq, decide_eq_decide, true_iff, false_iff, iff_true, iff_false, true_and, and_true, false_or, or_false, Bool.and_true, Bool.and_eq_true, Bool.and_eq_false_iff, Bool.or_eq_true, Bool.or_eq_false_iff, List.length_cons, List.length_nil] at h) <;> (try (exfalso; first | omega | exact h rfl | (cases h; done) | exact absurd h (by assumption) | exact h (by assumption) | (simp at h; done)))) | refine ⟨⟨by (first | omega | (simp only [lenS]; omega)), by (first | omega | (simp only [lenS]; omega))⟩, _, by assumption, by rfl, ?_⟩ | refine .inl ⟨⟨by (first | omega | (simp only [lenS]; omega)), by (first | omega | (simp only [lenS]; omega))⟩, ?_⟩ | refine ⟨⟨by (first | omega | (simp only [lenS]; omega)), by (first | omega | (simp only [lenS]; omega))⟩, ?_⟩ | refine ⟨⟨by (first | omega | (simp only [lenS]; omega)), by (first | omega | (simp only [lenS]; omega)), by (first | omega | (simp only [lenS]; omega))⟩, ?_⟩ | refine ⟨.inl rfl, ?_⟩ | refine ⟨.inr (.inl (by (first | omega | (simp only [lenS]; omega)))), ?_⟩ | refine ⟨_, rfl, rfl, by (first | exact Nat.le_refl _ | exact Nat.le_of_ble_eq_true rfl | decide), ?_⟩ | refine ⟨_, rfl, by (first | exact Nat.le_refl _ | exact Nat.le_of_ble_eq_true rfl | decide), ?_⟩ | refine ⟨by (first | exact Nat.le_refl _ | exact Nat.le_of_ble_eq_true rfl | decide | exact rfl), ?_⟩ | refine ⟨show _ ≤ (9223372036854775807 : Nat) by (first | omega | (simp only [lenS]; omega)), ?_⟩ | refine ⟨show _ ≠ (0 : Int) by (first | omega | (simp only [lenS]; omega)), ?_⟩ | refine ⟨_, rfl, _, rfl, ?_⟩ | refine ⟨_, by assumption, Nat.le_of_ble_eq_true rfl, ?_⟩ | refine ⟨_, by assumption, _, rfl, ?_⟩ | refine ⟨_, rfl, ?_⟩ | fail)
      exact ⟨_, _, fin_out rfl, rfl, rfl⟩
    · rw [List.concat_eq_append] at *
      have hgd := getD_last r c
      have hc1 : PureC Tryd.prog 73 [.d (.int .u8 ((r ++ [c]).getD (((r ++ [c]).length : Int) - 1).toNat 0).toNat)] (.d (.bool (decide (c ∈ cutS)))) := by
        rw [hgd]; exact sblank_ok c
      have hl : (r ++ [c]).length = r.length + 1 := by simp
      rw [trimRB_snoc] at he
      by_cases hm : c ∈ cutS
      · rw [decide_eq_true hm] at hc1
        rw [if_pos hm] at he
        repeat' (first | refine PureC.use hc1 ?_ | refine PureC.use hc2 ?_ |                      refine ⟨fun _ => ?_, fun h => absurd h (by decide)⟩ | refine ⟨fun h => absurd h (by decide), fun _ => ?_⟩ | (refine ⟨fun h => ?_, fun h => ?_⟩ <;> (try simp only [decide_eq_true_eq, decide_eq_false_iff_not, Bool.not_eq_true', Bool.not_eq_false', Bool.not_eq_true, Bool.not_eq_false, not_true_eq_false, beq_iff_eq, beq_eq_false_iff_ne, ne_eq, decide_eq_decide, true_iff, false_iff, iff_true, iff_false, true_and, and_true, false_or, or_false, Bool.and_true, Bool.and_eq_true, Bool.and_eq_false_iff, Bool.or_eq_true, Bool.or_eq_false_iff, List.length_cons, List.length_nil] at h) <;> (try (exfalso; first | omega | exact h rfl | (cases h; done) | exact absurd h (by assumption) | exact h (by assumption) | (simp at h; done)))) | refine ⟨⟨by (first | omega | (simp only [lenS]; omega)), by (first | omega | (simp only [lenS]; omega))⟩, _, by assumption, by rfl, ?_⟩ | refine .inl ⟨⟨by (first | omega | (simp only [lenS]; omega)), by (first | omega | (simp only [lenS]; omega))⟩, ?_⟩ | refine ⟨⟨by (first | omega | (simp only [lenS]; omega)), by (first | omega | (simp only [lenS]; omega))⟩, ?_⟩ | refine ⟨⟨by (first | omega | (simp only [lenS]; omega)), by (first | omega | (simp only [lenS]; omega)), by (first | omega | (simp only [lenS]; omega))⟩, ?_⟩ | refine ⟨.inl rfl, ?_⟩ | refine ⟨.inr (.inl (by (first | omega | (simp only [lenS]; omega)))), ?_⟩ | refine ⟨_, rfl, rfl, by (first | exact Nat.le_refl _ | exact Nat.le_of_ble_eq_true rfl | decide), ?_⟩ | refine ⟨_, rfl, by (first | exact Nat.le_refl _ | exact Nat.le_of_ble_eq_true rfl | decide), ?_⟩ | refine ⟨by (first | exact Nat.le_refl _ | exact Nat.le_of_ble_eq_true rfl | decide | exact rfl), ?_⟩ | refine ⟨show _ ≤ (9223372036854775807 : Nat) by (first | omega | (simp only [lenS]; omega)), ?_⟩ | refine ⟨show _ ≠ (0 : Int) by (first | omega | (simp only [lenS]; omega)), ?_⟩ | refine ⟨_, rfl, _, rfl, ?_⟩ | refine ⟨_, by assumption, Nat.le_of_ble_eq_true rfl, ?_⟩ | refine ⟨_, by assumption, _, rfl, ?_⟩ | refine ⟨_, rfl, ?_⟩ | fail)
        exact ⟨_, _, _, ⟨r, rfl, by omega, he, rfl, rfl⟩, by omega, Mv.of [] rfl rfl rfl trivial ⟨congrArg D.str (take_last r c), trivial⟩⟩
      · rw [decide_eq_false hm] at hc1
        rw [if_neg hm] at he
        rw [he] at hlow ⊢
        have hc2 := hlow
        repeat' (first | refine PureC.use hc1 ?_ | refine PureC.use hc2 ?_ |                      refine ⟨fun _ => ?_, fun h => absurd h (by decide)⟩ | refine ⟨fun h => absurd h (by decide), fun _ => ?_⟩ | (refine ⟨fun h => ?_, fun h => ?_⟩ <;> (try simp only [decide_eq_true_eq, decide_eq_false_iff_not, Bool.not_eq_true', Bool.not_eq_false', Bool.not_eq_true, Bool.not_eq_false, not_true_eq_false, beq_iff_eq, beq_eq_false_iff_ne, ne_eq, decide_eq_decide, true_iff, false_iff, iff_true, iff_false, true_and, and_true, false_or, or_false, Bool.and_true, Bool.and_eq_true, Bool.and_eq_false_iff, Bool.or_eq_true, Bool.or_eq_false_iff, List.length_cons, List.length_nil] at h) <;> (try (exfalso; first | omega | exact h rfl | (cases h; done) | exact absurd h (by assumption) | exact h (by assumption) | (simp at h; done)))) | refine ⟨⟨by (first | omega | (simp only [lenS]; omega)), by (first | omega | (simp only [lenS]; omega))⟩, _, by assumption, by rfl, ?_⟩ | refine .inl ⟨⟨by (first | omega | (simp only [lenS]; omega)), by (first | omega | (simp only [lenS]; omega))⟩, ?_⟩ | refine ⟨⟨by (first | omega | (simp only [lenS]; omega)), by (first | omega | (simp only [lenS]; omega))⟩, ?_⟩ | refine ⟨⟨by (first | omega | (simp only [lenS]; omega)), by (first | omega | (simp only [lenS]; omega)), by (first | omega | (simp only [lenS]; omega))⟩, ?_⟩ | refine ⟨.inl rfl, ?_⟩ | refine ⟨.inr (.inl (by (first | omega | (simp only [lenS]; omega)))), ?_⟩ | refine ⟨_, rfl, rfl, by (first | exact Nat.le_refl _ | exact Nat.le_of_ble_eq_true rfl | decide), ?_⟩ | refine ⟨_, rfl, by (first | exact Nat.le_refl _ | exact Nat.le_of_ble_eq_true rfl | decide), ?_⟩ | refine ⟨by (first | exact Nat.le_refl _ | exact Nat.le_of_ble_eq_true rfl | decide | exact rfl), ?_⟩ | refine ⟨show _ ≤ (9223372036854775807 : Nat) by (first | omega | (simp only [lenS]; omega)), ?_⟩ | refine ⟨show _ ≠ (0 : Int) by (first | omega | (simp only [lenS]; omega)), ?_⟩ | refine ⟨_, rfl, _, rfl, ?_⟩ | refine ⟨_, by assumption, Nat.le_of_ble_eq_true rfl, ?_⟩ | refine ⟨_, by assumption, _, rfl, ?_⟩ | refine ⟨_, rfl, ?_⟩ | fail)
        exact ⟨_, _, fin_out rfl, rfl, rfl⟩
end Go.Proofs.YtfchacihhljfhaaDoor

namespace Go.Proofs.YtfchacihhljfhaaDoor
open Go.Aw
set_option maxHeartbeats 1600000
set_option linter.unusedSimpArgs false
set_option linter.unusedVariables false
/-- Of each name the last. -/
def lastsL : List Pair → List Pair
  | [] => []
  | p :: r => if p.1 ∈ r.map Prod.fst then lastsL r else p :: lastsL r
def keptL (props : List (List UInt8)) (l : List (List UInt8)) : List Pair := (l.filterMap partB).filter (keepB props)
theorem addRs_eq (props : List (List UInt8)) : ∀ (l : List Pair) (q : List Pair), l.foldl (addR props) q = (l.filter (keepB props)).reverse ++ q
  | [], q => rfl
  | p :: r, q => by
    rw [List.foldl_cons, addRs_eq props r]
    unfold addR
    by_cases h : keepB props p = true
    · rw [if_pos h, List.filter_cons_of_pos h, List.reverse_cons, List.append_assoc]; rfl
    · rw [if_neg h, List.filter_cons_of_neg h]
theorem keptR_eq (props : List (List UInt8)) (l : List (List UInt8)) : keptR props l = (keptL props l).reverse := by
  unfold keptR keptL
  rw [addRs_eq, List.append_nil]
theorem idxR_app (x : List UInt8) (B : List Pair) : ∀ A : List Pair, (x ∈ A.map Prod.fst → B.length < idxR x (A ++ B)) ∧ (x ∉ A.map Prod.fst → idxR x (A ++ B) = idxR x B)
  | [] => ⟨fun h => by simp at h, fun _ => rfl⟩
  | p :: A => by
    obtain ⟨h1, h2⟩ := idxR_app x B A
    rw [List.cons_append, idxR, List.map_cons]
    by_cases hx : x = p.1
    · rw [if_pos hx, List.length_append]
      exact ⟨fun _ => by omega, fun h => absurd (by rw [hx]; exact List.mem_cons_self) h⟩
    · rw [if_neg hx]
      refine ⟨fun h => h1 ?_, fun h => h2 fun h3 => h (List.mem_cons_of_mem _ h3)⟩
      rcases List.mem_cons.1 h with h | h
      · exact absurd h hx
      · exact h
theorem steps_lasts (props : List (List UInt8)) (Q : List Pair) : ∀ (l pre : List Pair) (out : List Pair), Q = (pre ++ l.filter (keepB props)).reverse → l.foldl (stepB props Q) (pre.length, out) = ((pre ++ l.filter (keepB props)).length, out ++ lastsL (l.filter (keepB props)))
  | [], pre, out, _ => by simp [lastsL]
  | p :: r, pre, out, hQ => by
    rw [List.foldl_cons]
    unfold stepB
    by_cases h : keepB props p = true
    · rw [if_pos h]
      rw [List.filter_cons_of_pos h] at hQ ⊢
      have hQ2 : Q = ((pre ++ [p]) ++ r.filter (keepB props)).reverse := by rw [hQ]; simp
      have hq : Q = (r.filter (keepB props)).reverse ++ (p :: pre.reverse) := by rw [hQ]; simp
      have hidx := idxR_app p.1 (p :: pre.reverse) (r.filter (keepB props)).reverse
      rw [← hq] at hidx
      have hme : p.1 ∈ (r.filter (keepB props)).reverse.map Prod.fst ↔ p.1 ∈ (r.filter (keepB props)).map Prod.fst := by simp
      rw [hme] at hidx
      have hself : idxR p.1 (p :: pre.reverse) = pre.length + 1 := by rw [idxR, if_pos rfl, List.length_reverse]
      dsimp only
      have ih := fun o => steps_lasts props Q r (pre ++ [p]) o hQ2
      rw [List.length_append] at ih
      rw [lastsL]
      by_cases hm : p.1 ∈ (r.filter (keepB props)).map Prod.fst
      · have h1 := hidx.1 hm
        rw [List.length_cons, List.length_reverse] at h1
        rw [if_neg (by omega), if_pos hm]
        exact (ih out).trans (by simp)
      · rw [if_pos ((hidx.2 hm).trans hself), if_neg hm]
        exact (ih (out ++ [p])).trans (by simp)
    · rw [if_neg h]
      rw [List.filter_cons_of_neg h] at hQ ⊢
      exact steps_lasts props Q r pre out hQ
theorem outR_eq (props : List (List UInt8)) (l : List (List UInt8)) : (outR props (keptR props l) l).2 = lastsL (keptL props l) := by
  unfold outR
  have h := steps_lasts props (keptR props l) (l.filterMap partB) [] [] (by rw [keptR_eq]; rfl)
  rw [show (0, []) = (([] : List Pair).length, ([] : List Pair)) from rfl, h]
  rfl
theorem filterB_eq (props : List (List UInt8)) (s : List UInt8) : filterB props s = joinB [59, 32] ((lastsL (keptL props (splitB 59 s))).map txtB) := by
  unfold filterB; rw [outR_eq]
theorem keptL_none (props : List (List UInt8)) (l : List (List UInt8)) (k : Nat) (h : k < l.length) (hc : cutAt 58 l[k] = none) : keptL props (l.take (k + 1)) = keptL props (l.take k) := by
  unfold keptL
  rw [List.take_succ_eq_append_getElem h, List.filterMap_append, show [l[k]].filterMap partB = [] from by simp [partB, hc], List.append_nil]
theorem keptL_some (props : List (List UInt8)) (l : List (List UInt8)) (k : Nat) (h : k < l.length) {x y : List UInt8} (hc : cutAt 58 l[k] = some (x, y)) : keptL props (l.take (k + 1)) = keptL props (l.take k) ++ (if keepB props (bareB x, bareB y) = true then [(bareB x, bareB y)] else []) := by
  unfold keptL
  rw [List.take_succ_eq_append_getElem h, List.filterMap_append, show [l[k]].filterMap partB = [(bareB x, bareB y)] from by simp [partB, hc], List.filter_append]
  congr 1
  by_cases hk : keepB props (bareB x, bareB y) = true
  · rw [if_pos hk, List.filter_cons_of_pos hk]; rfl
  · rw [if_neg hk, List.filter_cons_of_neg hk]; rfl
theorem keptL_len (props : List (List UInt8)) (l : List (List UInt8)) : (keptL props l).length ≤ l.length :=
  Nat.le_trans (List.length_filter_le _ _) (List.length_filterMap_le _ _)
/-- What the reference has written when so many have been seen. -/
def sumB (out : List UInt8) : List Pair → List UInt8
  | [] => out
  | p :: r => if p.1 ∈ r.map Prod.fst then sumB out r else sumB ((if out = [] then [] else out ++ [59, 32]) ++ txtB p) r
theorem txtB_ne (p : Pair) : txtB p ≠ [] := fun h => by
  have := congrArg List.length h
  simp [txtB] at this
theorem sumB_more : ∀ (l : List Pair) (out : List UInt8), out ≠ [] → sumB out l = out ++ moreB [59, 32] ((lastsL l).map txtB)
  | [], out, _ => by simp [sumB, lastsL, moreB]
  | p :: r, out, h => by
    rw [sumB, lastsL]
    by_cases hm : p.1 ∈ r.map Prod.fst
    · rw [if_pos hm, if_pos hm]; exact sumB_more r out h
    · rw [if_neg hm, if_neg hm, if_neg h, sumB_more r _ (by simp)]
      simp [moreB]
theorem sumB_join : ∀ (l : List Pair), sumB [] l = joinB [59, 32] ((lastsL l).map txtB)
  | [] => rfl
  | p :: r => by
    rw [sumB, lastsL]
    by_cases hm : p.1 ∈ r.map Prod.fst
    · rw [if_pos hm, if_pos hm]; exact sumB_join r
    · rw [if_neg hm, if_neg hm, if_pos rfl, List.map_cons, joinB_more, List.nil_append, sumB_more r _ (txtB_ne p)]
end Go.Proofs.YtfchacihhljfhaaDoor

namespace Go.Proofs.YtfchacihhljfhaaDoor
open Go.Aw
set_option maxHeartbeats 1600000
set_option linter.unusedSimpArgs false
set_option linter.unusedVariables false
def two (N V : List (List UInt8)) : Store := ⟨2, [(1, .rows (1, 9) (strsA V)), (0, .rows (1, 9) (strsA N))]⟩
theorem cut_take {c : UInt8} {s : List UInt8} {j : Nat} (hj : j < s.length) (hc : s[j] = c) (hn : c ∉ s.take j) : cutAt c s = some (s.take j, s.drop (j + 1)) := by
  have h := cutAt_some (b := s.drop (j + 1)) hn
  rw [← hc, ← List.drop_eq_getElem_cons hj, List.take_append_drop, hc] at h
  exact h
theorem kept_len (props : List (List UInt8)) (s : List UInt8) : ∀ p ∈ keptL props (splitB 59 s), p.1.length + p.2.length ≤ s.length := fun p h => by
  obtain ⟨x, hx, hp⟩ := List.mem_filterMap.1 (List.mem_filter.1 h).1
  have h1 := splitB_bound 59 s x hx
  have h2 := part_len hp
  omega
theorem pairD_get (f : Pair → List UInt8) (K : List Pair) (i : Nat) (h : i < K.length) : (strsD (K.map f))[((i : Nat) : Int).toNat]? = some [.str (f K[i])] := by
  rw [strsD_get _ i (by rw [List.length_map]; exact h), List.getElem_map]
theorem two_data (N V : List (List UInt8)) (L : Nat) (h1 : N.length = L) (h2 : V.length = L) : FinMove (two N V) (.tup [.own 0 0 L, .own 1 0 L]) (two N V) (.tup [.d (.sl (strsD N)), .d (.sl (strsD V))]) ⟨2, [(1, .dead), (0, .dead), (1, .rows (1, 9) (strsA V)), (0, .rows (1, 9) (strsA N))]⟩ := by
  have e1 : ((strsD N).drop 0).take L = strsD N := by rw [List.drop_zero, ← h1, ← strsD_len N, List.take_length]
  have e2 : ((strsD V).drop 0).take L = strsD V := by rw [List.drop_zero, ← h2, ← strsD_len V, List.take_length]
  have f1 := fin_freeze (σ0 := two N V) (σ := two N V) (r := .tup [.own 0 0 L, .own 1 0 L]) 0 rfl (rowsD_d (strsD N)) ⟨fun _ => by show 0 + L ≤ (strsA N).length; rw [strsA_len]; omega, fun h => (by cases h), trivial⟩
  have f2 := fin_freeze (σ0 := two N V) (σ := (two N V).set 0 .dead) (r := .tup [.d (.sl (((strsD N).drop 0).take L)), .own 1 0 L]) 1 rfl (rowsD_d (strsD V)) ⟨trivial, fun _ => by show 0 + L ≤ (strsA V).length; rw [strsA_len]; omega, trivial⟩
  have f3 := f1.trans f2
  have e3 : frz 1 (strsD V) (.tup [.d (.sl (((strsD N).drop 0).take L)), .own 1 0 L]) = .tup [.d (.sl (strsD N)), .d (.sl (strsD V))] := by
    show AV.tup [.d (.sl (((strsD N).drop 0).take L)), .d (.sl (((strsD V).drop 0).take L))] = _
    rw [e1, e2]
  rw [e3] at f3
  exact f3
set_option maxRecDepth 100000 in
set_option maxHeartbeats 4000000 in
theorem rFilter_ok (props : List (List UInt8)) (s : List UInt8) (hp : props.length ≤ 1000000) (hs : s.length ≤ 100000) : PureC Tryd.prog 24 [.d (.str s), .d (.sl (strsD props))] (.d (.str (filterB props s))) := by
  have hparts := parts_ok 59 s (by omega)
  rw [filterB_eq]
  have hn := strsD_len (splitB 59 s)
  have hb := splitB_bound 59 s
  have hcnt := splitB_len 59 s
  have hcl := List.count_le_length (a := 59) (l := s)
  have hKb := kept_len props s
  generalize splitB 59 s = ps at *
  have hpn := strsD_len props
  refine PureC.of rfl rfl (fn_okTE Tryd.wf Tryd.tab_ok Tryd.func24 (by decide +kernel) rfl rfl ?_)
  refine E.seq (E.of Tryd.wf Tryd.tab_ok ?_)
  refine E.seq (E.of Tryd.wf Tryd.tab_ok ?_)
  refine E.seq (E.of Tryd.wf Tryd.tab_ok ?_)
  refine E.seq (E.of Tryd.wf Tryd.tab_ok ?_)
  refine PureC.use hparts ?_
  refine midT Tryd.wf Tryd.tab_ok (fun s' σ => s' = [(5, .own 0 0 (keptL props ps).length), (6, .own 1 0 (keptL props ps).length)] ∧ σ = two ((keptL props ps).map Prod.fst) ((keptL props ps).map Prod.snd)) ?_ ?_
  · refine loopT Tryd.wf Tryd.tab_ok (fun n s' σ => ∃ k : Nat, n = ps.length - k ∧ k ≤ ps.length ∧ s' = [(1, .d (.sl (strsD props))), (5, .own 0 0 (keptL props (ps.take k)).length), (6, .own 1 0 (keptL props (ps.take k)).length), (7, .d (.sl (strsD ps))), (8, .d (.int .i64 k))] ∧ σ = two ((keptL props (ps.take k)).map Prod.fst) ((keptL props (ps.take k)).map Prod.snd))
      ⟨0, rfl, Nat.zero_le _, rfl, rfl⟩ (Mv.of [.phan 1, .phan 1] rfl rfl rfl ⟨rfl, rfl, trivial⟩ ⟨rfl, ⟨rfl, rfl, rfl⟩, ⟨rfl, rfl, rfl⟩, rfl, rfl, trivial⟩) ?_
    rintro _ _ _ ⟨k, rfl, hk, rfl, rfl⟩
    by_cases hlt : k < ps.length
    · have hg := strsD_get ps k hlt
      have hpb := hb ps[k] (List.getElem_mem hlt)
      have hkn := keptL_none props ps k hlt
      have hks := @keptL_some props ps k hlt
      have hkl := keptL_len props (ps.take k)
      rw [List.length_take] at hkl
      generalize ps[k] = p at *
      generalize keptL props (ps.take k) = Q at *
      have hlN : (strsA (Q.map Prod.fst)).length = Q.length := by rw [strsA_len, List.length_map]
      have hlV : (strsA (Q.map Prod.snd)).length = Q.length := by rw [strsA_len, List.length_map]
      repeat' (first | refine PureC.use hc1 ?_ | refine PureC.use hc2 ?_ | refine PureC.use hc3 ?_ |                     refine ⟨fun _ => ?_, fun h => absurd h (by decide)⟩ | refine ⟨fun h => absurd h (by decide), fun _ => ?_⟩ | (refine ⟨fun h => ?_, fun h => ?_⟩ <;> (try simp only [decide_eq_true_eq, decide_eq_false_iff_not, Bool.not_eq_true', Bool.not_eq_false', Bool.not_eq_true, Bool.not_eq_false, not_true_eq_false, beq_iff_eq, beq_eq_false_iff_ne, ne_eq, decide_eq_decide, true_iff, false_iff, iff_true, iff_false, true_and, and_true, false_or, or_false, Bool.and_true, Bool.and_eq_true, Bool.and_eq_false_iff, Bool.or_eq_true, Bool.or_eq_false_iff, List.length_cons, List.length_nil] at h) <;> (try (exfalso; first | omega | exact h rfl | (cases h; done) | exact absurd h (by assumption) | exact h (by assumption) | (simp at h; done)))) | refine ⟨⟨by (first | omega | (simp only [lenS]; omega)), by (first | omega | (simp only [lenS]; omega))⟩, _, by assumption, by rfl, ?_⟩ | refine .inl ⟨⟨by (first | omega | (simp only [lenS]; omega)), by (first | omega | (simp only [lenS]; omega))⟩, ?_⟩ | refine ⟨⟨by (first | omega | (simp only [lenS]; omega)), by (first | omega | (simp only [lenS]; omega))⟩, ?_⟩ | refine ⟨⟨by (first | omega | (simp only [lenS]; omega)), by (first | omega | (simp only [lenS]; omega)), by (first | omega | (simp only [lenS]; omega))⟩, ?_⟩ | refine ⟨.inl rfl, ?_⟩ | refine ⟨.inr (.inl (by (first | omega | (simp only [lenS]; omega)))), ?_⟩ | refine ⟨_, rfl, rfl, by (first | exact Nat.le_refl _ | exact Nat.le_of_ble_eq_true rfl | decide), ?_⟩ | refine ⟨_, rfl, by (first | exact Nat.le_refl _ | exact Nat.le_of_ble_eq_true rfl | decide), ?_⟩ | refine ⟨by (first | exact Nat.le_refl _ | exact Nat.le_of_ble_eq_true rfl | decide | exact rfl), ?_⟩ | refine ⟨show _ ≤ (9223372036854775807 : Nat) by (first | omega | (simp only [lenS]; omega)), ?_⟩ | refine ⟨show _ ≠ (0 : Int) by (first | omega | (simp only [lenS]; omega)), ?_⟩ | refine ⟨_, rfl, _, rfl, ?_⟩ | refine ⟨_, by assumption, Nat.le_of_ble_eq_true rfl, ?_⟩ | refine ⟨_, by assumption, _, rfl, ?_⟩ | refine ⟨_, rfl, ?_⟩ | fail)
      refine loopT Tryd.wf Tryd.tab_ok (fun n s' σ => ∃ j : Nat, n = p.length - j ∧ j ≤ p.length ∧ 58 ∉ p.take j ∧ s' = [(1, .d (.sl (strsD props))), (5, .own 0 0 Q.length), (6, .own 1 0 Q.length), (7, .d (.sl (strsD ps))), (8, .d (.int .i64 k)), (9, .d (.int .i64 j))] ∧ σ = two (Q.map Prod.fst) (Q.map Prod.snd))
        ⟨0, rfl, Nat.zero_le _, by simp, rfl, rfl⟩ (Mv.of [.old 0, .old 1] rfl rfl rfl ⟨⟨rfl, .inl ⟨rfl, strsA_pure _⟩⟩, ⟨rfl, .inl ⟨rfl, strsA_pure _⟩⟩, trivial⟩ ⟨rfl, ⟨rfl, rfl, rfl⟩, ⟨rfl, rfl, rfl⟩, rfl, rfl, rfl, trivial⟩) ?_
      rintro _ _ _ ⟨j, rfl, hj, hno, rfl, rfl⟩
      by_cases hjl : j < p.length
      · have hgj := getD_at p j hjl
        by_cases hch : p[j] = 58
        · have hcut := cut_take hjl hch hno
          have hkk := hks hcut
          have hgc : ((p.getD ((j : Nat) : Int).toNat 0).toNat : Int) = 58 := by rw [hgj, hch]; rfl
          have hc1 : PureC Tryd.prog 56 [.d (.str ((p.take ((j : Nat) : Int).toNat).drop (0 : Int).toNat))] (.d (.str (bareB (p.take j)))) := rbare_ok (p.take j) (by rw [List.length_take]; omega)
          have hc2 : PureC Tryd.prog 56 [.d (.str ((p.take ((p.length : Nat) : Int).toNat).drop (((j : Nat) : Int) + 1).toNat))] (.d (.str (bareB (p.drop (j + 1))))) := by
            rw [Int.toNat_natCast, List.take_length, show (((j : Nat) : Int) + 1).toNat = j + 1 from by omega]
            exact rbare_ok (p.drop (j + 1)) (by rw [List.length_drop]; omega)
          have hbl := bareB_len (p.drop (j + 1))
          rw [List.length_drop] at hbl
          have hst1 := strsA_snoc (Q.map Prod.fst) (bareB (p.take j))
          have hst2 := strsA_snoc (Q.map Prod.snd) (bareB (p.drop (j + 1)))
          generalize bareB (p.take j) = a at *
          generalize bareB (p.drop (j + 1)) = b at *
          clear hks hkn hcut hno
          repeat' (first | refine PureC.use hc1 ?_ | refine PureC.use hc2 ?_ | refine PureC.use hc3 ?_ |                     refine ⟨fun _ => ?_, fun h => absurd h (by decide)⟩ | refine ⟨fun h => absurd h (by decide), fun _ => ?_⟩ | (refine ⟨fun h => ?_, fun h => ?_⟩ <;> (try simp only [decide_eq_true_eq, decide_eq_false_iff_not, Bool.not_eq_true', Bool.not_eq_false', Bool.not_eq_true, Bool.not_eq_false, not_true_eq_false, beq_iff_eq, beq_eq_false_iff_ne, ne_eq, decide_eq_decide, true_iff, false_iff, iff_true, iff_false, true_and, and_true, false_or, or_false, Bool.and_true, Bool.and_eq_true, Bool.and_eq_false_iff, Bool.or_eq_true, Bool.or_eq_false_iff, List.length_cons, List.length_nil] at h) <;> (try (exfalso; first | omega | exact h rfl | (cases h; done) | exact absurd h (by assumption) | exact h (by assumption) | (simp at h; done)))) | refine ⟨⟨by (first | omega | (simp only [lenS]; omega)), by (first | omega | (simp only [lenS]; omega))⟩, _, by assumption, by rfl, ?_⟩ | refine .inl ⟨⟨by (first | omega | (simp only [lenS]; omega)), by (first | omega | (simp only [lenS]; omega))⟩, ?_⟩ | refine ⟨⟨by (first | omega | (simp only [lenS]; omega)), by (first | omega | (simp only [lenS]; omega))⟩, ?_⟩ | refine ⟨⟨by (first | omega | (simp only [lenS]; omega)), by (first | omega | (simp only [lenS]; omega)), by (first | omega | (simp only [lenS]; omega))⟩, ?_⟩ | refine ⟨.inl rfl, ?_⟩ | refine ⟨.inr (.inl (by (first | omega | (simp only [lenS]; omega)))), ?_⟩ | refine ⟨_, rfl, rfl, by (first | exact Nat.le_refl _ | exact Nat.le_of_ble_eq_true rfl | decide), ?_⟩ | refine ⟨_, rfl, by (first | exact Nat.le_refl _ | exact Nat.le_of_ble_eq_true rfl | decide), ?_⟩ | refine ⟨by (first | exact Nat.le_refl _ | exact Nat.le_of_ble_eq_true rfl | decide | exact rfl), ?_⟩ | refine ⟨show _ ≤ (9223372036854775807 : Nat) by (first | omega | (simp only [lenS]; omega)), ?_⟩ | refine ⟨show _ ≠ (0 : Int) by (first | omega | (simp only [lenS]; omega)), ?_⟩ | refine ⟨_, rfl, _, rfl, ?_⟩ | refine ⟨_, by assumption, Nat.le_of_ble_eq_true rfl, ?_⟩ | refine ⟨_, by assumption, _, rfl, ?_⟩ | refine ⟨_, rfl, ?_⟩ | fail)
          refine loopT Tryd.wf Tryd.tab_ok (fun n s' σ => ∃ m : Nat, n = props.length - m ∧ m ≤ props.length ∧ s' = [(1, .d (.sl (strsD props))), (5, .own 0 0 Q.length), (6, .own 1 0 Q.length), (7, .d (.sl (strsD ps))), (8, .d (.int .i64 k)), (10, .d (.str a)), (11, .d (.str b)), (12, .d (.bool (decide (a ∈ props.take m)))), (13, .d (.int .i64 m))] ∧ σ = two (Q.map Prod.fst) (Q.map Prod.snd))
            ⟨0, rfl, Nat.zero_le _, rfl, rfl⟩ (Mv.of [.old 0, .old 1] rfl rfl rfl ⟨⟨rfl, .inl ⟨rfl, strsA_pure _⟩⟩, ⟨rfl, .inl ⟨rfl, strsA_pure _⟩⟩, trivial⟩ ⟨rfl, ⟨rfl, rfl, rfl⟩, ⟨rfl, rfl, rfl⟩, rfl, rfl, rfl, rfl, congrArg D.bool (by simp), rfl, trivial⟩) ?_
          rintro _ _ _ ⟨m, rfl, hm, rfl, rfl⟩
          by_cases hml : m < props.length
          · have hgm := strsD_get props m hml
            have hmem : a ∈ props.take (m + 1) ↔ a ∈ props.take m ∨ props[m] = a := by
              rw [List.take_succ_eq_append_getElem hml, List.mem_append, List.mem_singleton]
              exact ⟨fun h => h.imp id Eq.symm, fun h => h.imp id Eq.symm⟩
            by_cases hin : a ∈ props.take m
            · rw [decide_eq_true hin]
              repeat' (first | refine PureC.use hc1 ?_ | refine PureC.use hc2 ?_ | refine PureC.use hc3 ?_ |                     refine ⟨fun _ => ?_, fun h => absurd h (by decide)⟩ | refine ⟨fun h => absurd h (by decide), fun _ => ?_⟩ | (refine ⟨fun h => ?_, fun h => ?_⟩ <;> (try simp only [decide_eq_true_eq, decide_eq_false_iff_not, Bool.not_eq_true', Bool.not_eq_false', Bool.not_eq_true, Bool.not_eq_false, not_true_eq_false, beq_iff_eq, beq_eq_false_iff_ne, ne_eq, decide_eq_decide, true_iff, false_iff, iff_true, iff_false, true_and, and_true, false_or, or_false, Bool.and_true, Bool.and_eq_true, Bool.and_eq_false_iff, Bool.or_eq_true, Bool.or_eq_false_iff, List.length_cons, List.length_nil] at h) <;> (try (exfalso; first | omega | exact h rfl | (cases h; done) | exact absurd h (by assumption) | exact h (by assumption) | (simp at h; done)))) | refine ⟨⟨by (first | omega | (simp only [lenS]; omega)), by (first | omega | (simp only [lenS]; omega))⟩, _, by assumption, by rfl, ?_⟩ | refine .inl ⟨⟨by (first | omega | (simp only [lenS]; omega)), by (first | omega | (simp only [lenS]; omega))⟩, ?_⟩ | refine ⟨⟨by (first | omega | (simp only [lenS]; omega)), by (first | omega | (simp only [lenS]; omega))⟩, ?_⟩ | refine ⟨⟨by (first | omega | (simp only [lenS]; omega)), by (first | omega | (simp only [lenS]; omega)), by (first | omega | (simp only [lenS]; omega))⟩, ?_⟩ | refine ⟨.inl rfl, ?_⟩ | refine ⟨.inr (.inl (by (first | omega | (simp only [lenS]; omega)))), ?_⟩ | refine ⟨_, rfl, rfl, by (first | exact Nat.le_refl _ | exact Nat.le_of_ble_eq_true rfl | decide), ?_⟩ | refine ⟨_, rfl, by (first | exact Nat.le_refl _ | exact Nat.le_of_ble_eq_true rfl | decide), ?_⟩ | refine ⟨by (first | exact Nat.le_refl _ | exact Nat.le_of_ble_eq_true rfl | decide | exact rfl), ?_⟩ | refine ⟨show _ ≤ (9223372036854775807 : Nat) by (first | omega | (simp only [lenS]; omega)), ?_⟩ | refine ⟨show _ ≠ (0 : Int) by (first | omega | (simp only [lenS]; omega)), ?_⟩ | refine ⟨_, rfl, _, rfl, ?_⟩ | refine ⟨_, by assumption, Nat.le_of_ble_eq_true rfl, ?_⟩ | refine ⟨_, by assumption, _, rfl, ?_⟩ | refine ⟨_, rfl, ?_⟩ | fail)
              exact ⟨_, _, _, ⟨m + 1, rfl, hml, rfl, rfl⟩, by omega, Mv.of [.old 0, .old 1] rfl rfl rfl ⟨⟨rfl, .inl ⟨rfl, strsA_pure _⟩⟩, ⟨rfl, .inl ⟨rfl, strsA_pure _⟩⟩, trivial⟩ ⟨rfl, ⟨rfl, rfl, rfl⟩, ⟨rfl, rfl, rfl⟩, rfl, rfl, rfl, rfl, congrArg D.bool (decide_eq_true (hmem.2 (.inl hin))), rfl, trivial⟩⟩
            · rw [decide_eq_false hin]
              repeat' (first | refine PureC.use hc1 ?_ | refine PureC.use hc2 ?_ | refine PureC.use hc3 ?_ |                     refine ⟨fun _ => ?_, fun h => absurd h (by decide)⟩ | refine ⟨fun h => absurd h (by decide), fun _ => ?_⟩ | (refine ⟨fun h => ?_, fun h => ?_⟩ <;> (try simp only [decide_eq_true_eq, decide_eq_false_iff_not, Bool.not_eq_true', Bool.not_eq_false', Bool.not_eq_true, Bool.not_eq_false, not_true_eq_false, beq_iff_eq, beq_eq_false_iff_ne, ne_eq, decide_eq_decide, true_iff, false_iff, iff_true, iff_false, true_and, and_true, false_or, or_false, Bool.and_true, Bool.and_eq_true, Bool.and_eq_false_iff, Bool.or_eq_true, Bool.or_eq_false_iff, List.length_cons, List.length_nil] at h) <;> (try (exfalso; first | omega | exact h rfl | (cases h; done) | exact absurd h (by assumption) | exact h (by assumption) | (simp at h; done)))) | refine ⟨⟨by (first | omega | (simp only [lenS]; omega)), by (first | omega | (simp only [lenS]; omega))⟩, _, by assumption, by rfl, ?_⟩ | refine .inl ⟨⟨by (first | omega | (simp only [lenS]; omega)), by (first | omega | (simp only [lenS]; omega))⟩, ?_⟩ | refine ⟨⟨by (first | omega | (simp only [lenS]; omega)), by (first | omega | (simp only [lenS]; omega))⟩, ?_⟩ | refine ⟨⟨by (first | omega | (simp only [lenS]; omega)), by (first | omega | (simp only [lenS]; omega)), by (first | omega | (simp only [lenS]; omega))⟩, ?_⟩ | refine ⟨.inl rfl, ?_⟩ | refine ⟨.inr (.inl (by (first | omega | (simp only [lenS]; omega)))), ?_⟩ | refine ⟨_, rfl, rfl, by (first | exact Nat.le_refl _ | exact Nat.le_of_ble_eq_true rfl | decide), ?_⟩ | refine ⟨_, rfl, by (first | exact Nat.le_refl _ | exact Nat.le_of_ble_eq_true rfl | decide), ?_⟩ | refine ⟨by (first | exact Nat.le_refl _ | exact Nat.le_of_ble_eq_true rfl | decide | exact rfl), ?_⟩ | refine ⟨show _ ≤ (9223372036854775807 : Nat) by (first | omega | (simp only [lenS]; omega)), ?_⟩ | refine ⟨show _ ≠ (0 : Int) by (first | omega | (simp only [lenS]; omega)), ?_⟩ | refine ⟨_, rfl, _, rfl, ?_⟩ | refine ⟨_, by assumption, Nat.le_of_ble_eq_true rfl, ?_⟩ | refine ⟨_, by assumption, _, rfl, ?_⟩ | refine ⟨_, rfl, ?_⟩ | fail)
              exact ⟨_, _, _, ⟨m + 1, rfl, hml, rfl, rfl⟩, by omega, Mv.of [.old 0, .old 1] rfl rfl rfl ⟨⟨rfl, .inl ⟨rfl, strsA_pure _⟩⟩, ⟨rfl, .inl ⟨rfl, strsA_pure _⟩⟩, trivial⟩ ⟨rfl, ⟨rfl, rfl, rfl⟩, ⟨rfl, rfl, rfl⟩, rfl, rfl, rfl, rfl, congrArg D.bool (decide_eq_decide.2 (hmem.trans (or_iff_right hin))), rfl, trivial⟩⟩
          · have hm' : m = props.length := by omega
            subst hm'
            rw [List.take_length]
            have hc3 := rValue_ok b (by omega)
            unfold keepB at hkk
            dsimp only at hkk
            by_cases hin : a ∈ props
            · rw [decide_eq_true hin] at hkk ⊢
              rw [Bool.true_and] at hkk
              cases hv : valB b with
              | true =>
                rw [hv] at hc3
                rw [if_pos hv] at hkk
                repeat' (first | refine PureC.use hc1 ?_ | refine PureC.use hc2 ?_ | refine PureC.use hc3 ?_ |                     refine ⟨fun _ => ?_, fun h => absurd h (by decide)⟩ | refine ⟨fun h => absurd h (by decide), fun _ => ?_⟩ | (refine ⟨fun h => ?_, fun h => ?_⟩ <;> (try simp only [decide_eq_true_eq, decide_eq_false_iff_not, Bool.not_eq_true', Bool.not_eq_false', Bool.not_eq_true, Bool.not_eq_false, not_true_eq_false, beq_iff_eq, beq_eq_false_iff_ne, ne_eq, decide_eq_decide, true_iff, false_iff, iff_true, iff_false, true_and, and_true, false_or, or_false, Bool.and_true, Bool.and_eq_true, Bool.and_eq_false_iff, Bool.or_eq_true, Bool.or_eq_false_iff, List.length_cons, List.length_nil] at h) <;> (try (exfalso; first | omega | exact h rfl | (cases h; done) | exact absurd h (by assumption) | exact h (by assumption) | (simp at h; done)))) | refine ⟨⟨by (first | omega | (simp only [lenS]; omega)), by (first | omega | (simp only [lenS]; omega))⟩, _, by assumption, by rfl, ?_⟩ | refine .inl ⟨⟨by (first | omega | (simp only [lenS]; omega)), by (first | omega | (simp only [lenS]; omega))⟩, ?_⟩ | refine ⟨⟨by (first | omega | (simp only [lenS]; omega)), by (first | omega | (simp only [lenS]; omega))⟩, ?_⟩ | refine ⟨⟨by (first | omega | (simp only [lenS]; omega)), by (first | omega | (simp only [lenS]; omega)), by (first | omega | (simp only [lenS]; omega))⟩, ?_⟩ | refine ⟨.inl rfl, ?_⟩ | refine ⟨.inr (.inl (by (first | omega | (simp only [lenS]; omega)))), ?_⟩ | refine ⟨_, rfl, rfl, by (first | exact Nat.le_refl _ | exact Nat.le_of_ble_eq_true rfl | decide), ?_⟩ | refine ⟨_, rfl, by (first | exact Nat.le_refl _ | exact Nat.le_of_ble_eq_true rfl | decide), ?_⟩ | refine ⟨by (first | exact Nat.le_refl _ | exact Nat.le_of_ble_eq_true rfl | decide | exact rfl), ?_⟩ | refine ⟨show _ ≤ (9223372036854775807 : Nat) by (first | omega | (simp only [lenS]; omega)), ?_⟩ | refine ⟨show _ ≠ (0 : Int) by (first | omega | (simp only [lenS]; omega)), ?_⟩ | refine ⟨_, rfl, _, rfl, ?_⟩ | refine ⟨_, by assumption, Nat.le_of_ble_eq_true rfl, ?_⟩ | refine ⟨_, by assumption, _, rfl, ?_⟩ | refine ⟨_, rfl, ?_⟩ | fail)
                refine ⟨strsA (Q.map Prod.fst), [_], congrArg some (takeAll hlN), rfl, (show srcLen (.own 0 0 Q.length) _ from hlN), rfl, (by rw [hlN]; show (Q.length + 1) * 16 ≤ 140737488355328; omega), Nat.le_of_ble_eq_true rfl, Nat.le_of_ble_eq_true rfl, rfl, rfl, strsA_rows _, rowsOne rfl rfl, ?_⟩
                repeat' (first | refine PureC.use hc1 ?_ | refine PureC.use hc2 ?_ | refine PureC.use hc3 ?_ |                     refine ⟨fun _ => ?_, fun h => absurd h (by decide)⟩ | refine ⟨fun h => absurd h (by decide), fun _ => ?_⟩ | (refine ⟨fun h => ?_, fun h => ?_⟩ <;> (try simp only [decide_eq_true_eq, decide_eq_false_iff_not, Bool.not_eq_true', Bool.not_eq_false', Bool.not_eq_true, Bool.not_eq_false, not_true_eq_false, beq_iff_eq, beq_eq_false_iff_ne, ne_eq, decide_eq_decide, true_iff, false_iff, iff_true, iff_false, true_and, and_true, false_or, or_false, Bool.and_true, Bool.and_eq_true, Bool.and_eq_false_iff, Bool.or_eq_true, Bool.or_eq_false_iff, List.length_cons, List.length_nil] at h) <;> (try (exfalso; first | omega | exact h rfl | (cases h; done) | exact absurd h (by assumption) | exact h (by assumption) | (simp at h; done)))) | refine ⟨⟨by (first | omega | (simp only [lenS]; omega)), by (first | omega | (simp only [lenS]; omega))⟩, _, by assumption, by rfl, ?_⟩ | refine .inl ⟨⟨by (first | omega | (simp only [lenS]; omega)), by (first | omega | (simp only [lenS]; omega))⟩, ?_⟩ | refine ⟨⟨by (first | omega | (simp only [lenS]; omega)), by (first | omega | (simp only [lenS]; omega))⟩, ?_⟩ | refine ⟨⟨by (first | omega | (simp only [lenS]; omega)), by (first | omega | (simp only [lenS]; omega)), by (first | omega | (simp only [lenS]; omega))⟩, ?_⟩ | refine ⟨.inl rfl, ?_⟩ | refine ⟨.inr (.inl (by (first | omega | (simp only [lenS]; omega)))), ?_⟩ | refine ⟨_, rfl, rfl, by (first | exact Nat.le_refl _ | exact Nat.le_of_ble_eq_true rfl | decide), ?_⟩ | refine ⟨_, rfl, by (first | exact Nat.le_refl _ | exact Nat.le_of_ble_eq_true rfl | decide), ?_⟩ | refine ⟨by (first | exact Nat.le_refl _ | exact Nat.le_of_ble_eq_true rfl | decide | exact rfl), ?_⟩ | refine ⟨show _ ≤ (9223372036854775807 : Nat) by (first | omega | (simp only [lenS]; omega)), ?_⟩ | refine ⟨show _ ≠ (0 : Int) by (first | omega | (simp only [lenS]; omega)), ?_⟩ | refine ⟨_, rfl, _, rfl, ?_⟩ | refine ⟨_, by assumption, Nat.le_of_ble_eq_true rfl, ?_⟩ | refine ⟨_, by assumption, _, rfl, ?_⟩ | refine ⟨_, rfl, ?_⟩ | fail)
                refine ⟨strsA (Q.map Prod.snd), [_], congrArg some (takeAll hlV), rfl, (show srcLen (.own 1 0 Q.length) _ from hlV), rfl, (by rw [hlV]; show (Q.length + 1) * 16 ≤ 140737488355328; omega), Nat.le_of_ble_eq_true rfl, Nat.le_of_ble_eq_true rfl, rfl, rfl, strsA_rows _, rowsOne rfl rfl, ?_⟩
                repeat' (first | refine PureC.use hc1 ?_ | refine PureC.use hc2 ?_ | refine PureC.use hc3 ?_ |                     refine ⟨fun _ => ?_, fun h => absurd h (by decide)⟩ | refine ⟨fun h => absurd h (by decide), fun _ => ?_⟩ | (refine ⟨fun h => ?_, fun h => ?_⟩ <;> (try simp only [decide_eq_true_eq, decide_eq_false_iff_not, Bool.not_eq_true', Bool.not_eq_false', Bool.not_eq_true, Bool.not_eq_false, not_true_eq_false, beq_iff_eq, beq_eq_false_iff_ne, ne_eq, decide_eq_decide, true_iff, false_iff, iff_true, iff_false, true_and, and_true, false_or, or_false, Bool.and_true, Bool.and_eq_true, Bool.and_eq_false_iff, Bool.or_eq_true, Bool.or_eq_false_iff, List.length_cons, List.length_nil] at h) <;> (try (exfalso; first | omega | exact h rfl | (cases h; done) | exact absurd h (by assumption) | exact h (by assumption) | (simp at h; done)))) | refine ⟨⟨by (first | omega | (simp only [lenS]; omega)), by (first | omega | (simp only [lenS]; omega))⟩, _, by assumption, by rfl, ?_⟩ | refine .inl ⟨⟨by (first | omega | (simp only [lenS]; omega)), by (first | omega | (simp only [lenS]; omega))⟩, ?_⟩ | refine ⟨⟨by (first | omega | (simp only [lenS]; omega)), by (first | omega | (simp only [lenS]; omega))⟩, ?_⟩ | refine ⟨⟨by (first | omega | (simp only [lenS]; omega)), by (first | omega | (simp only [lenS]; omega)), by (first | omega | (simp only [lenS]; omega))⟩, ?_⟩ | refine ⟨.inl rfl, ?_⟩ | refine ⟨.inr (.inl (by (first | omega | (simp only [lenS]; omega)))), ?_⟩ | refine ⟨_, rfl, rfl, by (first | exact Nat.le_refl _ | exact Nat.le_of_ble_eq_true rfl | decide), ?_⟩ | refine ⟨_, rfl, by (first | exact Nat.le_refl _ | exact Nat.le_of_ble_eq_true rfl | decide), ?_⟩ | refine ⟨by (first | exact Nat.le_refl _ | exact Nat.le_of_ble_eq_true rfl | decide | exact rfl), ?_⟩ | refine ⟨show _ ≤ (9223372036854775807 : Nat) by (first | omega | (simp only [lenS]; omega)), ?_⟩ | refine ⟨show _ ≠ (0 : Int) by (first | omega | (simp only [lenS]; omega)), ?_⟩ | refine ⟨_, rfl, _, rfl, ?_⟩ | refine ⟨_, by assumption, Nat.le_of_ble_eq_true rfl, ?_⟩ | refine ⟨_, by assumption, _, rfl, ?_⟩ | refine ⟨_, rfl, ?_⟩ | fail)
                exact ⟨_, _, _, ⟨k + 1, rfl, hlt, rfl, rfl⟩, by omega, Mv.of [.old 3, .old 5] rfl rfl rfl (by rw [hkk, List.map_append, List.map_append]; exact ⟨⟨rfl, .inl ⟨hst2, strsA_pure _⟩⟩, ⟨rfl, .inl ⟨hst1, strsA_pure _⟩⟩, trivial⟩) (by rw [hkk]; exact ⟨rfl, ⟨rfl, rfl, by simp [strsA_len]⟩, ⟨rfl, rfl, by simp [strsA_len]⟩, rfl, rfl, trivial⟩)⟩
              | false =>
                rw [hv] at hc3
                rw [if_neg (by rw [hv]; exact Bool.false_ne_true), List.append_nil] at hkk
                repeat' (first | refine PureC.use hc1 ?_ | refine PureC.use hc2 ?_ | refine PureC.use hc3 ?_ |                     refine ⟨fun _ => ?_, fun h => absurd h (by decide)⟩ | refine ⟨fun h => absurd h (by decide), fun _ => ?_⟩ | (refine ⟨fun h => ?_, fun h => ?_⟩ <;> (try simp only [decide_eq_true_eq, decide_eq_false_iff_not, Bool.not_eq_true', Bool.not_eq_false', Bool.not_eq_true, Bool.not_eq_false, not_true_eq_false, beq_iff_eq, beq_eq_false_iff_ne, ne_eq, decide_eq_decide, true_iff, false_iff, iff_true, iff_false, true_and, and_true, false_or, or_false, Bool.and_true, Bool.and_eq_true, Bool.and_eq_false_iff, Bool.or_eq_true, Bool.or_eq_false_iff, List.length_cons, List.length_nil] at h) <;> (try (exfalso; first | omega | exact h rfl | (cases h; done) | exact absurd h (by assumption) | exact h (by assumption) | (simp at h; done)))) | refine ⟨⟨by (first | omega | (simp only [lenS]; omega)), by (first | omega | (simp only [lenS]; omega))⟩, _, by assumption, by rfl, ?_⟩ | refine .inl ⟨⟨by (first | omega | (simp only [lenS]; omega)), by (first | omega | (simp only [lenS]; omega))⟩, ?_⟩ | refine ⟨⟨by (first | omega | (simp only [lenS]; omega)), by (first | omega | (simp only [lenS]; omega))⟩, ?_⟩ | refine ⟨⟨by (first | omega | (simp only [lenS]; omega)), by (first | omega | (simp only [lenS]; omega)), by (first | omega | (simp only [lenS]; omega))⟩, ?_⟩ | refine ⟨.inl rfl, ?_⟩ | refine ⟨.inr (.inl (by (first | omega | (simp only [lenS]; omega)))), ?_⟩ | refine ⟨_, rfl, rfl, by (first | exact Nat.le_refl _ | exact Nat.le_of_ble_eq_true rfl | decide), ?_⟩ | refine ⟨_, rfl, by (first | exact Nat.le_refl _ | exact Nat.le_of_ble_eq_true rfl | decide), ?_⟩ | refine ⟨by (first | exact Nat.le_refl _ | exact Nat.le_of_ble_eq_true rfl | decide | exact rfl), ?_⟩ | refine ⟨show _ ≤ (9223372036854775807 : Nat) by (first | omega | (simp only [lenS]; omega)), ?_⟩ | refine ⟨show _ ≠ (0 : Int) by (first | omega | (simp only [lenS]; omega)), ?_⟩ | refine ⟨_, rfl, _, rfl, ?_⟩ | refine ⟨_, by assumption, Nat.le_of_ble_eq_true rfl, ?_⟩ | refine ⟨_, by assumption, _, rfl, ?_⟩ | refine ⟨_, rfl, ?_⟩ | fail)
                exact ⟨_, _, _, ⟨k + 1, rfl, hlt, rfl, rfl⟩, by omega, Mv.of [.old 0, .old 1] rfl rfl rfl (by rw [hkk]; exact ⟨⟨rfl, .inl ⟨rfl, strsA_pure _⟩⟩, ⟨rfl, .inl ⟨rfl, strsA_pure _⟩⟩, trivial⟩) (by rw [hkk]; exact ⟨rfl, ⟨rfl, rfl, rfl⟩, ⟨rfl, rfl, rfl⟩, rfl, rfl, trivial⟩)⟩
            · rw [decide_eq_false hin] at hkk ⊢
              rw [Bool.false_and, if_neg Bool.false_ne_true, List.append_nil] at hkk
              repeat' (first | refine PureC.use hc1 ?_ | refine PureC.use hc2 ?_ | refine PureC.use hc3 ?_ |                     refine ⟨fun _ => ?_, fun h => absurd h (by decide)⟩ | refine ⟨fun h => absurd h (by decide), fun _ => ?_⟩ | (refine ⟨fun h => ?_, fun h => ?_⟩ <;> (try simp only [decide_eq_true_eq, decide_eq_false_iff_not, Bool.not_eq_true', Bool.not_eq_false', Bool.not_eq_true, Bool.not_eq_false, not_true_eq_false, beq_iff_eq, beq_eq_false_iff_ne, ne_eq, decide_eq_decide, true_iff, false_iff, iff_true, iff_false, true_and, and_true, false_or, or_false, Bool.and_true, Bool.and_eq_true, Bool.and_eq_false_iff, Bool.or_eq_true, Bool.or_eq_false_iff, List.length_cons, List.length_nil] at h) <;> (try (exfalso; first | omega | exact h rfl | (cases h; done) | exact absurd h (by assumption) | exact h (by assumption) | (simp at h; done)))) | refine ⟨⟨by (first | omega | (simp only [lenS]; omega)), by (first | omega | (simp only [lenS]; omega))⟩, _, by assumption, by rfl, ?_⟩ | refine .inl ⟨⟨by (first | omega | (simp only [lenS]; omega)), by (first | omega | (simp only [lenS]; omega))⟩, ?_⟩ | refine ⟨⟨by (first | omega | (simp only [lenS]; omega)), by (first | omega | (simp only [lenS]; omega))⟩, ?_⟩ | refine ⟨⟨by (first | omega | (simp only [lenS]; omega)), by (first | omega | (simp only [lenS]; omega)), by (first | omega | (simp only [lenS]; omega))⟩, ?_⟩ | refine ⟨.inl rfl, ?_⟩ | refine ⟨.inr (.inl (by (first | omega | (simp only [lenS]; omega)))), ?_⟩ | refine ⟨_, rfl, rfl, by (first | exact Nat.le_refl _ | exact Nat.le_of_ble_eq_true rfl | decide), ?_⟩ | refine ⟨_, rfl, by (first | exact Nat.le_refl _ | exact Nat.le_of_ble_eq_true rfl | decide), ?_⟩ | refine ⟨by (first | exact Nat.le_refl _ | exact Nat.le_of_ble_eq_true rfl | decide | exact rfl), ?_⟩ | refine ⟨show _ ≤ (9223372036854775807 : Nat) by (first | omega | (simp only [lenS]; omega)), ?_⟩ | refine ⟨show _ ≠ (0 : Int) by (first | omega | (simp only [lenS]; omega)), ?_⟩ | refine ⟨_, rfl, _, rfl, ?_⟩ | refine ⟨_, by assumption, Nat.le_of_ble_eq_true rfl, ?_⟩ | refine ⟨_, by assumption, _, rfl, ?_⟩ | refine ⟨_, rfl, ?_⟩ | fail)
              exact ⟨_, _, _, ⟨k + 1, rfl, hlt, rfl, rfl⟩, by omega, Mv.of [.old 0, .old 1] rfl rfl rfl (by rw [hkk]; exact ⟨⟨rfl, .inl ⟨rfl, strsA_pure _⟩⟩, ⟨rfl, .inl ⟨rfl, strsA_pure _⟩⟩, trivial⟩) (by rw [hkk]; exact ⟨rfl, ⟨rfl, rfl, rfl⟩, ⟨rfl, rfl, rfl⟩, rfl, rfl, trivial⟩)⟩
        · have hgc : ¬ ((p.getD ((j : Nat) : Int).toNat 0).toNat : Int) = 58 := fun e => hch (by rw [hgj] at e; exact UInt8.toNat_inj.1 (by have : (58 : UInt8).toNat = 58 := rfl; omega))
          have hno2 : (58 : UInt8) ∉ p.take (j + 1) := by
            rw [List.take_succ_eq_append_getElem hjl, List.mem_append, List.mem_singleton]
            exact fun h => h.elim hno (fun e => hch e.symm)
          repeat' (first | refine PureC.use hc1 ?_ | refine PureC.use hc2 ?_ | refine PureC.use hc3 ?_ |                     refine ⟨fun _ => ?_, fun h => absurd h (by decide)⟩ | refine ⟨fun h => absurd h (by decide), fun _ => ?_⟩ | (refine ⟨fun h => ?_, fun h => ?_⟩ <;> (try simp only [decide_eq_true_eq, decide_eq_false_iff_not, Bool.not_eq_true', Bool.not_eq_false', Bool.not_eq_true, Bool.not_eq_false, not_true_eq_false, beq_iff_eq, beq_eq_false_iff_ne, ne_eq, decide_eq_decide, true_iff, false_iff, iff_true, iff_false, true_and, and_true, false_or, or_false, Bool.and_true, Bool.and_eq_true, Bool.and_eq_false_iff, Bool.or_eq_true, Bool.or_eq_false_iff, List.length_cons, List.length_nil] at h) <;> (try (exfalso; first | omega | exact h rfl | (cases h; done) | exact absurd h (by assumption) | exact h (by assumption) | (simp at h; done)))) | refine ⟨⟨by (first | omega | (simp only [lenS]; omega)), by (first | omega | (simp only [lenS]; omega))⟩, _, by assumption, by rfl, ?_⟩ | refine .inl ⟨⟨by (first | omega | (simp only [lenS]; omega)), by (first | omega | (simp only [lenS]; omega))⟩, ?_⟩ | refine ⟨⟨by (first | omega | (simp only [lenS]; omega)), by (first | omega | (simp only [lenS]; omega))⟩, ?_⟩ | refine ⟨⟨by (first | omega | (simp only [lenS]; omega)), by (first | omega | (simp only [lenS]; omega)), by (first | omega | (simp only [lenS]; omega))⟩, ?_⟩ | refine ⟨.inl rfl, ?_⟩ | refine ⟨.inr (.inl (by (first | omega | (simp only [lenS]; omega)))), ?_⟩ | refine ⟨_, rfl, rfl, by (first | exact Nat.le_refl _ | exact Nat.le_of_ble_eq_true rfl | decide), ?_⟩ | refine ⟨_, rfl, by (first | exact Nat.le_refl _ | exact Nat.le_of_ble_eq_true rfl | decide), ?_⟩ | refine ⟨by (first | exact Nat.le_refl _ | exact Nat.le_of_ble_eq_true rfl | decide | exact rfl), ?_⟩ | refine ⟨show _ ≤ (9223372036854775807 : Nat) by (first | omega | (simp only [lenS]; omega)), ?_⟩ | refine ⟨show _ ≠ (0 : Int) by (first | omega | (simp only [lenS]; omega)), ?_⟩ | refine ⟨_, rfl, _, rfl, ?_⟩ | refine ⟨_, by assumption, Nat.le_of_ble_eq_true rfl, ?_⟩ | refine ⟨_, by assumption, _, rfl, ?_⟩ | refine ⟨_, rfl, ?_⟩ | fail)
          exact ⟨_, _, _, ⟨j + 1, rfl, hjl, hno2, rfl, rfl⟩, by omega, Mv.of [.old 0, .old 1] rfl rfl rfl ⟨⟨rfl, .inl ⟨rfl, strsA_pure _⟩⟩, ⟨rfl, .inl ⟨rfl, strsA_pure _⟩⟩, trivial⟩ ⟨rfl, ⟨rfl, rfl, rfl⟩, ⟨rfl, rfl, rfl⟩, rfl, rfl, rfl, trivial⟩⟩
      · have hj' : j = p.length := by omega
        subst hj'
        rw [List.take_length] at hno
        have hkk := hkn (cutAt_none hno)
        repeat' (first | refine PureC.use hc1 ?_ | refine PureC.use hc2 ?_ | refine PureC.use hc3 ?_ |                     refine ⟨fun _ => ?_, fun h => absurd h (by decide)⟩ | refine ⟨fun h => absurd h (by decide), fun _ => ?_⟩ | (refine ⟨fun h => ?_, fun h => ?_⟩ <;> (try simp only [decide_eq_true_eq, decide_eq_false_iff_not, Bool.not_eq_true', Bool.not_eq_false', Bool.not_eq_true, Bool.not_eq_false, not_true_eq_false, beq_iff_eq, beq_eq_false_iff_ne, ne_eq, decide_eq_decide, true_iff, false_iff, iff_true, iff_false, true_and, and_true, false_or, or_false, Bool.and_true, Bool.and_eq_true, Bool.and_eq_false_iff, Bool.or_eq_true, Bool.or_eq_false_iff, List.length_cons, List.length_nil] at h) <;> (try (exfalso; first | omega | exact h rfl | (cases h; done) | exact absurd h (by assumption) | exact h (by assumption) | (simp at h; done)))) | refine ⟨⟨by (first | omega | (simp only [lenS]; omega)), by (first | omega | (simp only [lenS]; omega))⟩, _, by assumption, by rfl, ?_⟩ | refine .inl ⟨⟨by (first | omega | (simp only [lenS]; omega)), by (first | omega | (simp only [lenS]; omega))⟩, ?_⟩ | refine ⟨⟨by (first | omega | (simp only [lenS]; omega)), by (first | omega | (simp only [lenS]; omega))⟩, ?_⟩ | refine ⟨⟨by (first | omega | (simp only [lenS]; omega)), by (first | omega | (simp only [lenS]; omega)), by (first | omega | (simp only [lenS]; omega))⟩, ?_⟩ | refine ⟨.inl rfl, ?_⟩ | refine ⟨.inr (.inl (by (first | omega | (simp only [lenS]; omega)))), ?_⟩ | refine ⟨_, rfl, rfl, by (first | exact Nat.le_refl _ | exact Nat.le_of_ble_eq_true rfl | decide), ?_⟩ | refine ⟨_, rfl, by (first | exact Nat.le_refl _ | exact Nat.le_of_ble_eq_true rfl | decide), ?_⟩ | refine ⟨by (first | exact Nat.le_refl _ | exact Nat.le_of_ble_eq_true rfl | decide | exact rfl), ?_⟩ | refine ⟨show _ ≤ (9223372036854775807 : Nat) by (first | omega | (simp only [lenS]; omega)), ?_⟩ | refine ⟨show _ ≠ (0 : Int) by (first | omega | (simp only [lenS]; omega)), ?_⟩ | refine ⟨_, rfl, _, rfl, ?_⟩ | refine ⟨_, by assumption, Nat.le_of_ble_eq_true rfl, ?_⟩ | refine ⟨_, by assumption, _, rfl, ?_⟩ | refine ⟨_, rfl, ?_⟩ | fail)
        exact ⟨_, _, _, ⟨k + 1, rfl, hlt, rfl, rfl⟩, by omega, Mv.of [.old 0, .old 1] rfl rfl rfl (by rw [hkk]; exact ⟨⟨rfl, .inl ⟨rfl, strsA_pure _⟩⟩, ⟨rfl, .inl ⟨rfl, strsA_pure _⟩⟩, trivial⟩) (by rw [hkk]; exact ⟨rfl, ⟨rfl, rfl, rfl⟩, ⟨rfl, rfl, rfl⟩, rfl, rfl, trivial⟩)⟩
    · have hk' : k = ps.length := by omega
      subst hk'
      rw [List.take_length]
      repeat' (first | refine PureC.use hc1 ?_ | refine PureC.use hc2 ?_ | refine PureC.use hc3 ?_ |                     refine ⟨fun _ => ?_, fun h => absurd h (by decide)⟩ | refine ⟨fun h => absurd h (by decide), fun _ => ?_⟩ | (refine ⟨fun h => ?_, fun h => ?_⟩ <;> (try simp only [decide_eq_true_eq, decide_eq_false_iff_not, Bool.not_eq_true', Bool.not_eq_false', Bool.not_eq_true, Bool.not_eq_false, not_true_eq_false, beq_iff_eq, beq_eq_false_iff_ne, ne_eq, decide_eq_decide, true_iff, false_iff, iff_true, iff_false, true_and, and_true, false_or, or_false, Bool.and_true, Bool.and_eq_true, Bool.and_eq_false_iff, Bool.or_eq_true, Bool.or_eq_false_iff, List.length_cons, List.length_nil] at h) <;> (try (exfalso; first | omega | exact h rfl | (cases h; done) | exact absurd h (by assumption) | exact h (by assumption) | (simp at h; done)))) | refine ⟨⟨by (first | omega | (simp only [lenS]; omega)), by (first | omega | (simp only [lenS]; omega))⟩, _, by assumption, by rfl, ?_⟩ | refine .inl ⟨⟨by (first | omega | (simp only [lenS]; omega)), by (first | omega | (simp only [lenS]; omega))⟩, ?_⟩ | refine ⟨⟨by (first | omega | (simp only [lenS]; omega)), by (first | omega | (simp only [lenS]; omega))⟩, ?_⟩ | refine ⟨⟨by (first | omega | (simp only [lenS]; omega)), by (first | omega | (simp only [lenS]; omega)), by (first | omega | (simp only [lenS]; omega))⟩, ?_⟩ | refine ⟨.inl rfl, ?_⟩ | refine ⟨.inr (.inl (by (first | omega | (simp only [lenS]; omega)))), ?_⟩ | refine ⟨_, rfl, rfl, by (first | exact Nat.le_refl _ | exact Nat.le_of_ble_eq_true rfl | decide), ?_⟩ | refine ⟨_, rfl, by (first | exact Nat.le_refl _ | exact Nat.le_of_ble_eq_true rfl | decide), ?_⟩ | refine ⟨by (first | exact Nat.le_refl _ | exact Nat.le_of_ble_eq_true rfl | decide | exact rfl), ?_⟩ | refine ⟨show _ ≤ (9223372036854775807 : Nat) by (first | omega | (simp only [lenS]; omega)), ?_⟩ | refine ⟨show _ ≠ (0 : Int) by (first | omega | (simp only [lenS]; omega)), ?_⟩ | refine ⟨_, rfl, _, rfl, ?_⟩ | refine ⟨_, by assumption, Nat.le_of_ble_eq_true rfl, ?_⟩ | refine ⟨_, by assumption, _, rfl, ?_⟩ | refine ⟨_, rfl, ?_⟩ | fail)
      exact ⟨_, _, ⟨rfl, rfl⟩, Mv.of [.old 0, .old 1] rfl rfl rfl ⟨⟨rfl, .inl ⟨rfl, strsA_pure _⟩⟩, ⟨rfl, .inl ⟨rfl, strsA_pure _⟩⟩, trivial⟩ ⟨⟨rfl, rfl, rfl⟩, ⟨rfl, rfl, rfl⟩, trivial⟩⟩
  · rintro _ _ ⟨rfl, rfl⟩
    have hKl := keptL_len props ps
    rw [← sumB_join]
    generalize keptL props ps = K at *
    refine E.fm (s' := [(5, .d (.sl (strsD (K.map Prod.fst)))), (6, .d (.sl (strsD (K.map Prod.snd))))]) (σ' := ⟨2, [(1, .dead), (0, .dead), (1, .rows (1, 9) (strsA (K.map Prod.snd))), (0, .rows (1, 9) (strsA (K.map Prod.fst)))]⟩) (two_data (K.map Prod.fst) (K.map Prod.snd) K.length (by rw [List.length_map]) (by rw [List.length_map])) ?_
    refine E.seq (E.of Tryd.wf Tryd.tab_ok ?_)
    refine midT Tryd.wf Tryd.tab_ok (fun s' σ => s' = [(14, .d (.str (sumB [] K)))] ∧ σ = ⟨0, []⟩) ?_ ?_
    · have hnN : (strsD (K.map Prod.fst)).length = K.length := by rw [strsD_len, List.length_map]
      have hnV : (strsD (K.map Prod.snd)).length = K.length := by rw [strsD_len, List.length_map]
      refine loopT Tryd.wf Tryd.tab_ok (fun n s' σ => ∃ (i : Nat) (out : List UInt8), n = K.length - i ∧ i ≤ K.length ∧ out.length ≤ i * (s.length + 4) ∧ sumB out (K.drop i) = sumB [] K ∧ s' = [(5, .d (.sl (strsD (K.map Prod.fst)))), (6, .d (.sl (strsD (K.map Prod.snd)))), (14, .d (.str out)), (15, .d (.int .i64 i))] ∧ σ = ⟨0, []⟩)
        ⟨0, [], rfl, Nat.zero_le _, Nat.zero_le _, rfl, rfl, rfl⟩ (Mv.of [] rfl rfl rfl trivial ⟨rfl, rfl, rfl, rfl, trivial⟩) ?_
      rintro _ _ _ ⟨i, out, rfl, hi, hob, hI, rfl, rfl⟩
      by_cases hlt : i < K.length
      · have hgN := pairD_get Prod.fst K i hlt
        have hgV := pairD_get Prod.snd K i hlt
        have hdr := List.drop_eq_getElem_cons hlt
        have hKi := hKb K[i] (List.getElem_mem hlt)
        have hbig : i * (s.length + 4) ≤ 100002 * 100004 := Nat.mul_le_mul (by omega) (by omega)
        have hnx : (i + 1) * (s.length + 4) = i * (s.length + 4) + (s.length + 4) := Nat.succ_mul _ _
        have htx : (txtB K[i]).length = K[i].1.length + 2 + K[i].2.length := by simp [txtB]; omega
        rw [hdr, sumB] at hI
        repeat' (first | refine PureC.use hc1 ?_ | refine PureC.use hc2 ?_ | refine PureC.use hc3 ?_ |                     refine ⟨fun _ => ?_, fun h => absurd h (by decide)⟩ | refine ⟨fun h => absurd h (by decide), fun _ => ?_⟩ | (refine ⟨fun h => ?_, fun h => ?_⟩ <;> (try simp only [decide_eq_true_eq, decide_eq_false_iff_not, Bool.not_eq_true', Bool.not_eq_false', Bool.not_eq_true, Bool.not_eq_false, not_true_eq_false, beq_iff_eq, beq_eq_false_iff_ne, ne_eq, decide_eq_decide, true_iff, false_iff, iff_true, iff_false, true_and, and_true, false_or, or_false, Bool.and_true, Bool.and_eq_true, Bool.and_eq_false_iff, Bool.or_eq_true, Bool.or_eq_false_iff, List.length_cons, List.length_nil] at h) <;> (try (exfalso; first | omega | exact h rfl | (cases h; done) | exact absurd h (by assumption) | exact h (by assumption) | (simp at h; done)))) | refine ⟨⟨by (first | omega | (simp only [lenS]; omega)), by (first | omega | (simp only [lenS]; omega))⟩, _, by assumption, by rfl, ?_⟩ | refine .inl ⟨⟨by (first | omega | (simp only [lenS]; omega)), by (first | omega | (simp only [lenS]; omega))⟩, ?_⟩ | refine ⟨⟨by (first | omega | (simp only [lenS]; omega)), by (first | omega | (simp only [lenS]; omega))⟩, ?_⟩ | refine ⟨⟨by (first | omega | (simp only [lenS]; omega)), by (first | omega | (simp only [lenS]; omega)), by (first | omega | (simp only [lenS]; omega))⟩, ?_⟩ | refine ⟨.inl rfl, ?_⟩ | refine ⟨.inr (.inl (by (first | omega | (simp only [lenS]; omega)))), ?_⟩ | refine ⟨_, rfl, rfl, by (first | exact Nat.le_refl _ | exact Nat.le_of_ble_eq_true rfl | decide), ?_⟩ | refine ⟨_, rfl, by (first | exact Nat.le_refl _ | exact Nat.le_of_ble_eq_true rfl | decide), ?_⟩ | refine ⟨by (first | exact Nat.le_refl _ | exact Nat.le_of_ble_eq_true rfl | decide | exact rfl), ?_⟩ | refine ⟨show _ ≤ (9223372036854775807 : Nat) by (first | omega | (simp only [lenS]; omega)), ?_⟩ | refine ⟨show _ ≠ (0 : Int) by (first | omega | (simp only [lenS]; omega)), ?_⟩ | refine ⟨_, rfl, _, rfl, ?_⟩ | refine ⟨_, by assumption, Nat.le_of_ble_eq_true rfl, ?_⟩ | refine ⟨_, by assumption, _, rfl, ?_⟩ | refine ⟨_, rfl, ?_⟩ | fail)
        refine loopT Tryd.wf Tryd.tab_ok (fun n s' σ => ∃ j : Nat, n = K.length - j ∧ i + 1 ≤ j ∧ j ≤ K.length ∧ s' = [(5, .d (.sl (strsD (K.map Prod.fst)))), (6, .d (.sl (strsD (K.map Prod.snd)))), (14, .d (.str out)), (15, .d (.int .i64 i)), (16, .d (.bool (!decide (K[i].1 ∈ ((K.take j).drop (i + 1)).map Prod.fst)))), (17, .d (.int .i64 j))] ∧ σ = ⟨0, []⟩)
          (s0 := [(5, .d (.sl (strsD (K.map Prod.fst)))), (6, .d (.sl (strsD (K.map Prod.snd)))), (14, .d (.str out)), (15, .d (.int .i64 i)), (16, .d (.bool (!decide (K[i].1 ∈ ((K.take (i + 1)).drop (i + 1)).map Prod.fst)))), (17, .d (.int .i64 ((i + 1 : Nat) : Int)))]) (σ0 := ⟨0, []⟩)
          ⟨i + 1, rfl, Nat.le_refl _, hlt, rfl, rfl⟩ (Mv.of [] rfl rfl rfl trivial ⟨rfl, rfl, rfl, rfl, congrArg D.bool (by simp), rfl, trivial⟩) ?_
        rintro _ _ _ ⟨j, rfl, hij, hj, rfl, rfl⟩
        by_cases hjl : j < K.length
        · have hgj := pairD_get Prod.fst K j hjl
          have hmem : K[i].1 ∈ ((K.take (j + 1)).drop (i + 1)).map Prod.fst ↔ K[i].1 ∈ ((K.take j).drop (i + 1)).map Prod.fst ∨ K[j].1 = K[i].1 := by
            rw [List.take_succ_eq_append_getElem hjl, List.drop_append_of_le_length (by rw [List.length_take]; omega), List.map_append, List.mem_append]
            simp only [List.map_cons, List.map_nil, List.mem_singleton]
            exact ⟨fun h => h.imp id Eq.symm, fun h => h.imp id Eq.symm⟩
          by_cases hin : K[i].1 ∈ ((K.take j).drop (i + 1)).map Prod.fst
          · rw [decide_eq_true hin, Bool.not_true]
            repeat' (first | refine PureC.use hc1 ?_ | refine PureC.use hc2 ?_ | refine PureC.use hc3 ?_ |                     refine ⟨fun _ => ?_, fun h => absurd h (by decide)⟩ | refine ⟨fun h => absurd h (by decide), fun _ => ?_⟩ | (refine ⟨fun h => ?_, fun h => ?_⟩ <;> (try simp only [decide_eq_true_eq, decide_eq_false_iff_not, Bool.not_eq_true', Bool.not_eq_false', Bool.not_eq_true, Bool.not_eq_false, not_true_eq_false, beq_iff_eq, beq_eq_false_iff_ne, ne_eq, decide_eq_decide, true_iff, false_iff, iff_true, iff_false, true_and, and_true, false_or, or_false, Bool.and_true, Bool.and_eq_true, Bool.and_eq_false_iff, Bool.or_eq_true, Bool.or_eq_false_iff, List.length_cons, List.length_nil] at h) <;> (try (exfalso; first | omega | exact h rfl | (cases h; done) | exact absurd h (by assumption) | exact h (by assumption) | (simp at h; done)))) | refine ⟨⟨by (first | omega | (simp only [lenS]; omega)), by (first | omega | (simp only [lenS]; omega))⟩, _, by assumption, by rfl, ?_⟩ | refine .inl ⟨⟨by (first | omega | (simp only [lenS]; omega)), by (first | omega | (simp only [lenS]; omega))⟩, ?_⟩ | refine ⟨⟨by (first | omega | (simp only [lenS]; omega)), by (first | omega | (simp only [lenS]; omega))⟩, ?_⟩ | refine ⟨⟨by (first | omega | (simp only [lenS]; omega)), by (first | omega | (simp only [lenS]; omega)), by (first | omega | (simp only [lenS]; omega))⟩, ?_⟩ | refine ⟨.inl rfl, ?_⟩ | refine ⟨.inr (.inl (by (first | omega | (simp only [lenS]; omega)))), ?_⟩ | refine ⟨_, rfl, rfl, by (first | exact Nat.le_refl _ | exact Nat.le_of_ble_eq_true rfl | decide), ?_⟩ | refine ⟨_, rfl, by (first | exact Nat.le_refl _ | exact Nat.le_of_ble_eq_true rfl | decide), ?_⟩ | refine ⟨by (first | exact Nat.le_refl _ | exact Nat.le_of_ble_eq_true rfl | decide | exact rfl), ?_⟩ | refine ⟨show _ ≤ (9223372036854775807 : Nat) by (first | omega | (simp only [lenS]; omega)), ?_⟩ | refine ⟨show _ ≠ (0 : Int) by (first | omega | (simp only [lenS]; omega)), ?_⟩ | refine ⟨_, rfl, _, rfl, ?_⟩ | refine ⟨_, by assumption, Nat.le_of_ble_eq_true rfl, ?_⟩ | refine ⟨_, by assumption, _, rfl, ?_⟩ | refine ⟨_, rfl, ?_⟩ | fail)
            refine drawnT Tryd.wf Tryd.tab_ok Tryd.mixed (by decide +kernel) ?_; repeat' (first |       refine qskip rfl rfl ?_ | refine qstep (r := .d (.bool true)) rfl rfl (fin_eq (congrArg (fun b => AV.d (.bool b)) (decide_eq_true (by omega)))) ?_ | refine qstep (r := .d (.bool false)) rfl rfl (fin_eq (congrArg (fun b => AV.d (.bool b)) (decide_eq_false (by omega)))) ?_ | refine qstep rfl rfl ⟨fun _ => FinMove.refl _ _ _, fun h => absurd h (by decide)⟩ ?_ | refine qstep rfl rfl ⟨fun h => absurd h (by decide), fun _ => FinMove.refl _ _ _⟩ ?_ | refine qstep rfl rfl (FinMove.refl _ _ _) ?_ |     refine qstep rfl rfl (PureC.use hc1 (FinMove.refl _ _ _)) ?_ | refine qstep rfl rfl (PureC.use hc2 (FinMove.refl _ _ _)) ?_ | refine qstep rfl rfl (PureC.use hc3 (FinMove.refl _ _ _)) ?_ |      refine qstep rfl rfl ⟨⟨by (first | omega | (simp only [lenS]; omega)), by (first | omega | (simp only [lenS]; omega))⟩, _, by assumption, by rfl, FinMove.refl _ _ _⟩ ?_ | refine qstep rfl rfl (.inl ⟨⟨by (first | omega | (simp only [lenS]; omega)), by (first | omega | (simp only [lenS]; omega))⟩, FinMove.refl _ _ _⟩) ?_ | refine qstep rfl rfl ⟨⟨by (first | omega | (simp only [lenS]; omega)), by (first | omega | (simp only [lenS]; omega))⟩, FinMove.refl _ _ _⟩ ?_ | refine qstep rfl rfl ⟨⟨by (first | omega | (simp only [lenS]; omega)), by (first | omega | (simp only [lenS]; omega)), by (first | omega | (simp only [lenS]; omega))⟩, FinMove.refl _ _ _⟩ ?_ | refine qstep rfl rfl ⟨⟨by (first | omega | (simp only [lenS]; omega)), by (first | omega | (simp only [lenS]; omega)), by (first | omega | (simp only [lenS]; omega))⟩, .inl rfl, FinMove.refl _ _ _⟩ ?_ | refine qstep rfl rfl ⟨_, rfl, _, rfl, FinMove.refl _ _ _⟩ ?_ | refine qstep rfl rfl ⟨_, rfl, FinMove.refl _ _ _⟩ ?_ | refine qstep rfl rfl ⟨_, rfl, Nat.le_refl _, FinMove.refl _ _ _⟩ ?_ | refine qstep rfl rfl ⟨Nat.le_refl _, FinMove.refl _ _ _⟩ ?_ | refine qstep rfl rfl ⟨by decide, FinMove.refl _ _ _⟩ ?_ | refine qstep rfl rfl ⟨show _ ≤ (9223372036854775807 : Nat) by (first | omega | (simp only [lenS]; omega)), FinMove.refl _ _ _⟩ ?_ | fail)
            repeat' (first | refine PureC.use hc1 ?_ | refine PureC.use hc2 ?_ | refine PureC.use hc3 ?_ |                     refine ⟨fun _ => ?_, fun h => absurd h (by decide)⟩ | refine ⟨fun h => absurd h (by decide), fun _ => ?_⟩ | (refine ⟨fun h => ?_, fun h => ?_⟩ <;> (try simp only [decide_eq_true_eq, decide_eq_false_iff_not, Bool.not_eq_true', Bool.not_eq_false', Bool.not_eq_true, Bool.not_eq_false, not_true_eq_false, beq_iff_eq, beq_eq_false_iff_ne, ne_eq, decide_eq_decide, true_iff, false_iff, iff_true, iff_false, true_and, and_true, false_or, or_false, Bool.and_true, Bool.and_eq_true, Bool.and_eq_false_iff, Bool.or_eq_true, Bool.or_eq_false_iff, List.length_cons, List.length_nil] at h) <;> (try (exfalso; first | omega | exact h rfl | (cases h; done) | exact absurd h (by assumption) | exact h (by assumption) | (simp at h; done)))) | refine ⟨⟨by (first | omega | (simp only [lenS]; omega)), by (first | omega | (simp only [lenS]; omega))⟩, _, by assumption, by rfl, ?_⟩ | refine .inl ⟨⟨by (first | omega | (simp only [lenS]; omega)), by (first | omega | (simp only [lenS]; omega))⟩, ?_⟩ | refine ⟨⟨by (first | omega | (simp only [lenS]; omega)), by (first | omega | (simp only [lenS]; omega))⟩, ?_⟩ | refine ⟨⟨by (first | omega | (simp only [lenS]; omega)), by (first | omega | (simp only [lenS]; omega)), by (first | omega | (simp only [lenS]; omega))⟩, ?_⟩ | refine ⟨.inl rfl, ?_⟩ | refine ⟨.inr (.inl (by (first | omega | (simp only [lenS]; omega)))), ?_⟩ | refine ⟨_, rfl, rfl, by (first | exact Nat.le_refl _ | exact Nat.le_of_ble_eq_true rfl | decide), ?_⟩ | refine ⟨_, rfl, by (first | exact Nat.le_refl _ | exact Nat.le_of_ble_eq_true rfl | decide), ?_⟩ | refine ⟨by (first | exact Nat.le_refl _ | exact Nat.le_of_ble_eq_true rfl | decide | exact rfl), ?_⟩ | refine ⟨show _ ≤ (9223372036854775807 : Nat) by (first | omega | (simp only [lenS]; omega)), ?_⟩ | refine ⟨show _ ≠ (0 : Int) by (first | omega | (simp only [lenS]; omega)), ?_⟩ | refine ⟨_, rfl, _, rfl, ?_⟩ | refine ⟨_, by assumption, Nat.le_of_ble_eq_true rfl, ?_⟩ | refine ⟨_, by assumption, _, rfl, ?_⟩ | refine ⟨_, rfl, ?_⟩ | fail)
            exact ⟨_, _, _, ⟨j + 1, rfl, by omega, hjl, rfl, rfl⟩, by omega, Mv.of [] rfl rfl rfl trivial ⟨rfl, rfl, rfl, rfl, congrArg D.bool (by rw [decide_eq_true (hmem.2 (.inl hin))]; rfl), rfl, trivial⟩⟩
          · rw [decide_eq_false hin, Bool.not_false]
            repeat' (first | refine PureC.use hc1 ?_ | refine PureC.use hc2 ?_ | refine PureC.use hc3 ?_ |                     refine ⟨fun _ => ?_, fun h => absurd h (by decide)⟩ | refine ⟨fun h => absurd h (by decide), fun _ => ?_⟩ | (refine ⟨fun h => ?_, fun h => ?_⟩ <;> (try simp only [decide_eq_true_eq, decide_eq_false_iff_not, Bool.not_eq_true', Bool.not_eq_false', Bool.not_eq_true, Bool.not_eq_false, not_true_eq_false, beq_iff_eq, beq_eq_false_iff_ne, ne_eq, decide_eq_decide, true_iff, false_iff, iff_true, iff_false, true_and, and_true, false_or, or_false, Bool.and_true, Bool.and_eq_true, Bool.and_eq_false_iff, Bool.or_eq_true, Bool.or_eq_false_iff, List.length_cons, List.length_nil] at h) <;> (try (exfalso; first | omega | exact h rfl | (cases h; done) | exact absurd h (by assumption) | exact h (by assumption) | (simp at h; done)))) | refine ⟨⟨by (first | omega | (simp only [lenS]; omega)), by (first | omega | (simp only [lenS]; omega))⟩, _, by assumption, by rfl, ?_⟩ | refine .inl ⟨⟨by (first | omega | (simp only [lenS]; omega)), by (first | omega | (simp only [lenS]; omega))⟩, ?_⟩ | refine ⟨⟨by (first | omega | (simp only [lenS]; omega)), by (first | omega | (simp only [lenS]; omega))⟩, ?_⟩ | refine ⟨⟨by (first | omega | (simp only [lenS]; omega)), by (first | omega | (simp only [lenS]; omega)), by (first | omega | (simp only [lenS]; omega))⟩, ?_⟩ | refine ⟨.inl rfl, ?_⟩ | refine ⟨.inr (.inl (by (first | omega | (simp only [lenS]; omega)))), ?_⟩ | refine ⟨_, rfl, rfl, by (first | exact Nat.le_refl _ | exact Nat.le_of_ble_eq_true rfl | decide), ?_⟩ | refine ⟨_, rfl, by (first | exact Nat.le_refl _ | exact Nat.le_of_ble_eq_true rfl | decide), ?_⟩ | refine ⟨by (first | exact Nat.le_refl _ | exact Nat.le_of_ble_eq_true rfl | decide | exact rfl), ?_⟩ | refine ⟨show _ ≤ (9223372036854775807 : Nat) by (first | omega | (simp only [lenS]; omega)), ?_⟩ | refine ⟨show _ ≠ (0 : Int) by (first | omega | (simp only [lenS]; omega)), ?_⟩ | refine ⟨_, rfl, _, rfl, ?_⟩ | refine ⟨_, by assumption, Nat.le_of_ble_eq_true rfl, ?_⟩ | refine ⟨_, by assumption, _, rfl, ?_⟩ | refine ⟨_, rfl, ?_⟩ | fail)
            refine drawnT Tryd.wf Tryd.tab_ok Tryd.mixed (by decide +kernel) ?_; repeat' (first |       refine qskip rfl rfl ?_ | refine qstep (r := .d (.bool true)) rfl rfl (fin_eq (congrArg (fun b => AV.d (.bool b)) (decide_eq_true (by omega)))) ?_ | refine qstep (r := .d (.bool false)) rfl rfl (fin_eq (congrArg (fun b => AV.d (.bool b)) (decide_eq_false (by omega)))) ?_ | refine qstep rfl rfl ⟨fun _ => FinMove.refl _ _ _, fun h => absurd h (by decide)⟩ ?_ | refine qstep rfl rfl ⟨fun h => absurd h (by decide), fun _ => FinMove.refl _ _ _⟩ ?_ | refine qstep rfl rfl (FinMove.refl _ _ _) ?_ |     refine qstep rfl rfl (PureC.use hc1 (FinMove.refl _ _ _)) ?_ | refine qstep rfl rfl (PureC.use hc2 (FinMove.refl _ _ _)) ?_ | refine qstep rfl rfl (PureC.use hc3 (FinMove.refl _ _ _)) ?_ |      refine qstep rfl rfl ⟨⟨by (first | omega | (simp only [lenS]; omega)), by (first | omega | (simp only [lenS]; omega))⟩, _, by assumption, by rfl, FinMove.refl _ _ _⟩ ?_ | refine qstep rfl rfl (.inl ⟨⟨by (first | omega | (simp only [lenS]; omega)), by (first | omega | (simp only [lenS]; omega))⟩, FinMove.refl _ _ _⟩) ?_ | refine qstep rfl rfl ⟨⟨by (first | omega | (simp only [lenS]; omega)), by (first | omega | (simp only [lenS]; omega))⟩, FinMove.refl _ _ _⟩ ?_ | refine qstep rfl rfl ⟨⟨by (first | omega | (simp only [lenS]; omega)), by (first | omega | (simp only [lenS]; omega)), by (first | omega | (simp only [lenS]; omega))⟩, FinMove.refl _ _ _⟩ ?_ | refine qstep rfl rfl ⟨⟨by (first | omega | (simp only [lenS]; omega)), by (first | omega | (simp only [lenS]; omega)), by (first | omega | (simp only [lenS]; omega))⟩, .inl rfl, FinMove.refl _ _ _⟩ ?_ | refine qstep rfl rfl ⟨_, rfl, _, rfl, FinMove.refl _ _ _⟩ ?_ | refine qstep rfl rfl ⟨_, rfl, FinMove.refl _ _ _⟩ ?_ | refine qstep rfl rfl ⟨_, rfl, Nat.le_refl _, FinMove.refl _ _ _⟩ ?_ | refine qstep rfl rfl ⟨Nat.le_refl _, FinMove.refl _ _ _⟩ ?_ | refine qstep rfl rfl ⟨by decide, FinMove.refl _ _ _⟩ ?_ | refine qstep rfl rfl ⟨show _ ≤ (9223372036854775807 : Nat) by (first | omega | (simp only [lenS]; omega)), FinMove.refl _ _ _⟩ ?_ | fail)
            repeat' (first | refine PureC.use hc1 ?_ | refine PureC.use hc2 ?_ | refine PureC.use hc3 ?_ |                     refine ⟨fun _ => ?_, fun h => absurd h (by decide)⟩ | refine ⟨fun h => absurd h (by decide), fun _ => ?_⟩ | (refine ⟨fun h => ?_, fun h => ?_⟩ <;> (try simp only [decide_eq_true_eq, decide_eq_false_iff_not, Bool.not_eq_true', Bool.not_eq_false', Bool.not_eq_true, Bool.not_eq_false, not_true_eq_false, beq_iff_eq, beq_eq_false_iff_ne, ne_eq, decide_eq_decide, true_iff, false_iff, iff_true, iff_false, true_and, and_true, false_or, or_false, Bool.and_true, Bool.and_eq_true, Bool.and_eq_false_iff, Bool.or_eq_true, Bool.or_eq_false_iff, List.length_cons, List.length_nil] at h) <;> (try (exfalso; first | omega | exact h rfl | (cases h; done) | exact absurd h (by assumption) | exact h (by assumption) | (simp at h; done)))) | refine ⟨⟨by (first | omega | (simp only [lenS]; omega)), by (first | omega | (simp only [lenS]; omega))⟩, _, by assumption, by rfl, ?_⟩ | refine .inl ⟨⟨by (first | omega | (simp only [lenS]; omega)), by (first | omega | (simp only [lenS]; omega))⟩, ?_⟩ | refine ⟨⟨by (first | omega | (simp only [lenS]; omega)), by (first | omega | (simp only [lenS]; omega))⟩, ?_⟩ | refine ⟨⟨by (first | omega | (simp only [lenS]; omega)), by (first | omega | (simp only [lenS]; omega)), by (first | omega | (simp only [lenS]; omega))⟩, ?_⟩ | refine ⟨.inl rfl, ?_⟩ | refine ⟨.inr (.inl (by (first | omega | (simp only [lenS]; omega)))), ?_⟩ | refine ⟨_, rfl, rfl, by (first | exact Nat.le_refl _ | exact Nat.le_of_ble_eq_true rfl | decide), ?_⟩ | refine ⟨_, rfl, by (first | exact Nat.le_refl _ | exact Nat.le_of_ble_eq_true rfl | decide), ?_⟩ | refine ⟨by (first | exact Nat.le_refl _ | exact Nat.le_of_ble_eq_true rfl | decide | exact rfl), ?_⟩ | refine ⟨show _ ≤ (9223372036854775807 : Nat) by (first | omega | (simp only [lenS]; omega)), ?_⟩ | refine ⟨show _ ≠ (0 : Int) by (first | omega | (simp only [lenS]; omega)), ?_⟩ | refine ⟨_, rfl, _, rfl, ?_⟩ | refine ⟨_, by assumption, Nat.le_of_ble_eq_true rfl, ?_⟩ | refine ⟨_, by assumption, _, rfl, ?_⟩ | refine ⟨_, rfl, ?_⟩ | fail)
            exact ⟨_, _, _, ⟨j + 1, rfl, by omega, hjl, rfl, rfl⟩, by omega, Mv.of [] rfl rfl rfl trivial ⟨rfl, rfl, rfl, rfl, congrArg D.bool (by rw [decide_eq_decide.2 (hmem.trans (or_iff_right hin))]), rfl, trivial⟩⟩
        · have hj' : j = K.length := by omega
          subst hj'
          rw [List.take_length]
          by_cases hm : K[i].1 ∈ (K.drop (i + 1)).map Prod.fst
          · rw [if_pos hm] at hI
            rw [decide_eq_true hm, Bool.not_true]
            repeat' (first | refine PureC.use hc1 ?_ | refine PureC.use hc2 ?_ | refine PureC.use hc3 ?_ |                     refine ⟨fun _ => ?_, fun h => absurd h (by decide)⟩ | refine ⟨fun h => absurd h (by decide), fun _ => ?_⟩ | (refine ⟨fun h => ?_, fun h => ?_⟩ <;> (try simp only [decide_eq_true_eq, decide_eq_false_iff_not, Bool.not_eq_true', Bool.not_eq_false', Bool.not_eq_true, Bool.not_eq_false, not_true_eq_false, beq_iff_eq, beq_eq_false_iff_ne, ne_eq, decide_eq_decide, true_iff, false_iff, iff_true, iff_false, true_and, and_true, false_or, or_false, Bool.and_true, Bool.and_eq_true, Bool.and_eq_false_iff, Bool.or_eq_true, Bool.or_eq_false_iff, List.length_cons, List.length_nil] at h) <;> (try (exfalso; first | omega | exact h rfl | (cases h; done) | exact absurd h (by assumption) | exact h (by assumption) | (simp at h; done)))) | refine ⟨⟨by (first | omega | (simp only [lenS]; omega)), by (first | omega | (simp only [lenS]; omega))⟩, _, by assumption, by rfl, ?_⟩ | refine .inl ⟨⟨by (first | omega | (simp only [lenS]; omega)), by (first | omega | (simp only [lenS]; omega))⟩, ?_⟩ | refine ⟨⟨by (first | omega | (simp only [lenS]; omega)), by (first | omega | (simp only [lenS]; omega))⟩, ?_⟩ | refine ⟨⟨by (first | omega | (simp only [lenS]; omega)), by (first | omega | (simp only [lenS]; omega)), by (first | omega | (simp only [lenS]; omega))⟩, ?_⟩ | refine ⟨.inl rfl, ?_⟩ | refine ⟨.inr (.inl (by (first | omega | (simp only [lenS]; omega)))), ?_⟩ | refine ⟨_, rfl, rfl, by (first | exact Nat.le_refl _ | exact Nat.le_of_ble_eq_true rfl | decide), ?_⟩ | refine ⟨_, rfl, by (first | exact Nat.le_refl _ | exact Nat.le_of_ble_eq_true rfl | decide), ?_⟩ | refine ⟨by (first | exact Nat.le_refl _ | exact Nat.le_of_ble_eq_true rfl | decide | exact rfl), ?_⟩ | refine ⟨show _ ≤ (9223372036854775807 : Nat) by (first | omega | (simp only [lenS]; omega)), ?_⟩ | refine ⟨show _ ≠ (0 : Int) by (first | omega | (simp only [lenS]; omega)), ?_⟩ | refine ⟨_, rfl, _, rfl, ?_⟩ | refine ⟨_, by assumption, Nat.le_of_ble_eq_true rfl, ?_⟩ | refine ⟨_, by assumption, _, rfl, ?_⟩ | refine ⟨_, rfl, ?_⟩ | fail)
            exact ⟨_, _, _, ⟨i + 1, out, rfl, hlt, by omega, hI, rfl, rfl⟩, by omega, Mv.of [] rfl rfl rfl trivial ⟨rfl, rfl, rfl, rfl, trivial⟩⟩
          · rw [if_neg hm] at hI
            rw [decide_eq_false hm, Bool.not_false]
            by_cases ho : out = []
            · subst ho
              rw [if_pos rfl] at hI
              repeat' (first | refine PureC.use hc1 ?_ | refine PureC.use hc2 ?_ | refine PureC.use hc3 ?_ |                     refine ⟨fun _ => ?_, fun h => absurd h (by decide)⟩ | refine ⟨fun h => absurd h (by decide), fun _ => ?_⟩ | (refine ⟨fun h => ?_, fun h => ?_⟩ <;> (try simp only [decide_eq_true_eq, decide_eq_false_iff_not, Bool.not_eq_true', Bool.not_eq_false', Bool.not_eq_true, Bool.not_eq_false, not_true_eq_false, beq_iff_eq, beq_eq_false_iff_ne, ne_eq, decide_eq_decide, true_iff, false_iff, iff_true, iff_false, true_and, and_true, false_or, or_false, Bool.and_true, Bool.and_eq_true, Bool.and_eq_false_iff, Bool.or_eq_true, Bool.or_eq_false_iff, List.length_cons, List.length_nil] at h) <;> (try (exfalso; first | omega | exact h rfl | (cases h; done) | exact absurd h (by assumption) | exact h (by assumption) | (simp at h; done)))) | refine ⟨⟨by (first | omega | (simp only [lenS]; omega)), by (first | omega | (simp only [lenS]; omega))⟩, _, by assumption, by rfl, ?_⟩ | refine .inl ⟨⟨by (first | omega | (simp only [lenS]; omega)), by (first | omega | (simp only [lenS]; omega))⟩, ?_⟩ | refine ⟨⟨by (first | omega | (simp only [lenS]; omega)), by (first | omega | (simp only [lenS]; omega))⟩, ?_⟩ | refine ⟨⟨by (first | omega | (simp only [lenS]; omega)), by (first | omega | (simp only [lenS]; omega)), by (first | omega | (simp only [lenS]; omega))⟩, ?_⟩ | refine ⟨.inl rfl, ?_⟩ | refine ⟨.inr (.inl (by (first | omega | (simp only [lenS]; omega)))), ?_⟩ | refine ⟨_, rfl, rfl, by (first | exact Nat.le_refl _ | exact Nat.le_of_ble_eq_true rfl | decide), ?_⟩ | refine ⟨_, rfl, by (first | exact Nat.le_refl _ | exact Nat.le_of_ble_eq_true rfl | decide), ?_⟩ | refine ⟨by (first | exact Nat.le_refl _ | exact Nat.le_of_ble_eq_true rfl | decide | exact rfl), ?_⟩ | refine ⟨show _ ≤ (9223372036854775807 : Nat) by (first | omega | (simp only [lenS]; omega)), ?_⟩ | refine ⟨show _ ≠ (0 : Int) by (first | omega | (simp only [lenS]; omega)), ?_⟩ | refine ⟨_, rfl, _, rfl, ?_⟩ | refine ⟨_, by assumption, Nat.le_of_ble_eq_true rfl, ?_⟩ | refine ⟨_, by assumption, _, rfl, ?_⟩ | refine ⟨_, rfl, ?_⟩ | fail)
              refine drawnT Tryd.wf Tryd.tab_ok Tryd.mixed (by decide +kernel) ?_; repeat' (first |       refine qskip rfl rfl ?_ | refine qstep (r := .d (.bool true)) rfl rfl (fin_eq (congrArg (fun b => AV.d (.bool b)) (decide_eq_true (by omega)))) ?_ | refine qstep (r := .d (.bool false)) rfl rfl (fin_eq (congrArg (fun b => AV.d (.bool b)) (decide_eq_false (by omega)))) ?_ | refine qstep rfl rfl ⟨fun _ => FinMove.refl _ _ _, fun h => absurd h (by decide)⟩ ?_ | refine qstep rfl rfl ⟨fun h => absurd h (by decide), fun _ => FinMove.refl _ _ _⟩ ?_ | refine qstep rfl rfl (FinMove.refl _ _ _) ?_ |     refine qstep rfl rfl (PureC.use hc1 (FinMove.refl _ _ _)) ?_ | refine qstep rfl rfl (PureC.use hc2 (FinMove.refl _ _ _)) ?_ | refine qstep rfl rfl (PureC.use hc3 (FinMove.refl _ _ _)) ?_ |      refine qstep rfl rfl ⟨⟨by (first | omega | (simp only [lenS]; omega)), by (first | omega | (simp only [lenS]; omega))⟩, _, by assumption, by rfl, FinMove.refl _ _ _⟩ ?_ | refine qstep rfl rfl (.inl ⟨⟨by (first | omega | (simp only [lenS]; omega)), by (first | omega | (simp only [lenS]; omega))⟩, FinMove.refl _ _ _⟩) ?_ | refine qstep rfl rfl ⟨⟨by (first | omega | (simp only [lenS]; omega)), by (first | omega | (simp only [lenS]; omega))⟩, FinMove.refl _ _ _⟩ ?_ | refine qstep rfl rfl ⟨⟨by (first | omega | (simp only [lenS]; omega)), by (first | omega | (simp only [lenS]; omega)), by (first | omega | (simp only [lenS]; omega))⟩, FinMove.refl _ _ _⟩ ?_ | refine qstep rfl rfl ⟨⟨by (first | omega | (simp only [lenS]; omega)), by (first | omega | (simp only [lenS]; omega)), by (first | omega | (simp only [lenS]; omega))⟩, .inl rfl, FinMove.refl _ _ _⟩ ?_ | refine qstep rfl rfl ⟨_, rfl, _, rfl, FinMove.refl _ _ _⟩ ?_ | refine qstep rfl rfl ⟨_, rfl, FinMove.refl _ _ _⟩ ?_ | refine qstep rfl rfl ⟨_, rfl, Nat.le_refl _, FinMove.refl _ _ _⟩ ?_ | refine qstep rfl rfl ⟨Nat.le_refl _, FinMove.refl _ _ _⟩ ?_ | refine qstep rfl rfl ⟨by decide, FinMove.refl _ _ _⟩ ?_ | refine qstep rfl rfl ⟨show _ ≤ (9223372036854775807 : Nat) by (first | omega | (simp only [lenS]; omega)), FinMove.refl _ _ _⟩ ?_ | fail)
              repeat' (first | refine PureC.use hc1 ?_ | refine PureC.use hc2 ?_ | refine PureC.use hc3 ?_ |                     refine ⟨fun _ => ?_, fun h => absurd h (by decide)⟩ | refine ⟨fun h => absurd h (by decide), fun _ => ?_⟩ | (refine ⟨fun h => ?_, fun h => ?_⟩ <;> (try simp only [decide_eq_true_eq, decide_eq_false_iff_not, Bool.not_eq_true', Bool.not_eq_false', Bool.not_eq_true, Bool.not_eq_false, not_true_eq_false, beq_iff_eq, beq_eq_false_iff_ne, ne_eq, decide_eq_decide, true_iff, false_iff, iff_true, iff_false, true_and, and_true, false_or, or_false, Bool.and_true, Bool.and_eq_true, Bool.and_eq_false_iff, Bool.or_eq_true, Bool.or_eq_false_iff, List.length_cons, List.length_nil] at h) <;> (try (exfalso; first | omega | exact h rfl | (cases h; done) | exact absurd h (by assumption) | exact h (by assumption) | (simp at h; done)))) | refine ⟨⟨by (first | omega | (simp only [lenS]; omega)), by (first | omega | (simp only [lenS]; omega))⟩, _, by assumption, by rfl, ?_⟩ | refine .inl ⟨⟨by (first | omega | (simp only [lenS]; omega)), by (first | omega | (simp only [lenS]; omega))⟩, ?_⟩ | refine ⟨⟨by (first | omega | (simp only [lenS]; omega)), by (first | omega | (simp only [lenS]; omega))⟩, ?_⟩ | refine ⟨⟨by (first | omega | (simp only [lenS]; omega)), by (first | omega | (simp only [lenS]; omega)), by (first | omega | (simp only [lenS]; omega))⟩, ?_⟩ | refine ⟨.inl rfl, ?_⟩ | refine ⟨.inr (.inl (by (first | omega | (simp only [lenS]; omega)))), ?_⟩ | refine ⟨_, rfl, rfl, by (first | exact Nat.le_refl _ | exact Nat.le_of_ble_eq_true rfl | decide), ?_⟩ | refine ⟨_, rfl, by (first | exact Nat.le_refl _ | exact Nat.le_of_ble_eq_true rfl | decide), ?_⟩ | refine ⟨by (first | exact Nat.le_refl _ | exact Nat.le_of_ble_eq_true rfl | decide | exact rfl), ?_⟩ | refine ⟨show _ ≤ (9223372036854775807 : Nat) by (first | omega | (simp only [lenS]; omega)), ?_⟩ | refine ⟨show _ ≠ (0 : Int) by (first | omega | (simp only [lenS]; omega)), ?_⟩ | refine ⟨_, rfl, _, rfl, ?_⟩ | refine ⟨_, by assumption, Nat.le_of_ble_eq_true rfl, ?_⟩ | refine ⟨_, by assumption, _, rfl, ?_⟩ | refine ⟨_, rfl, ?_⟩ | fail)
              exact ⟨_, _, _, ⟨i + 1, [] ++ txtB K[i], rfl, hlt, by rw [List.nil_append]; omega, hI, rfl, rfl⟩, by omega, Mv.of [] rfl rfl rfl trivial ⟨rfl, rfl, congrArg D.str (by simp [txtB]), rfl, trivial⟩⟩
            · rw [if_neg ho] at hI
              have hol : (out ++ [59, 32]).length = out.length + 2 := by simp
              repeat' (first | refine PureC.use hc1 ?_ | refine PureC.use hc2 ?_ | refine PureC.use hc3 ?_ |                     refine ⟨fun _ => ?_, fun h => absurd h (by decide)⟩ | refine ⟨fun h => absurd h (by decide), fun _ => ?_⟩ | (refine ⟨fun h => ?_, fun h => ?_⟩ <;> (try simp only [decide_eq_true_eq, decide_eq_false_iff_not, Bool.not_eq_true', Bool.not_eq_false', Bool.not_eq_true, Bool.not_eq_false, not_true_eq_false, beq_iff_eq, beq_eq_false_iff_ne, ne_eq, decide_eq_decide, true_iff, false_iff, iff_true, iff_false, true_and, and_true, false_or, or_false, Bool.and_true, Bool.and_eq_true, Bool.and_eq_false_iff, Bool.or_eq_true, Bool.or_eq_false_iff, List.length_cons, List.length_nil] at h) <;> (try (exfalso; first | omega | exact h rfl | (cases h; done) | exact absurd h (by assumption) | exact h (by assumption) | (simp at h; done)))) | refine ⟨⟨by (first | omega | (simp only [lenS]; omega)), by (first | omega | (simp only [lenS]; omega))⟩, _, by assumption, by rfl, ?_⟩ | refine .inl ⟨⟨by (first | omega | (simp only [lenS]; omega)), by (first | omega | (simp only [lenS]; omega))⟩, ?_⟩ | refine ⟨⟨by (first | omega | (simp only [lenS]; omega)), by (first | omega | (simp only [lenS]; omega))⟩, ?_⟩ | refine ⟨⟨by (first | omega | (simp only [lenS]; omega)), by (first | omega | (simp only [lenS]; omega)), by (first | omega | (simp only [lenS]; omega))⟩, ?_⟩ | refine ⟨.inl rfl, ?_⟩ | refine ⟨.inr (.inl (by (first | omega | (simp only [lenS]; omega)))), ?_⟩ | refine ⟨_, rfl, rfl, by (first | exact Nat.le_refl _ | exact Nat.le_of_ble_eq_true rfl | decide), ?_⟩ | refine ⟨_, rfl, by (first | exact Nat.le_refl _ | exact Nat.le_of_ble_eq_true rfl | decide), ?_⟩ | refine ⟨by (first | exact Nat.le_refl _ | exact Nat.le_of_ble_eq_true rfl | decide | exact rfl), ?_⟩ | refine ⟨show _ ≤ (9223372036854775807 : Nat) by (first | omega | (simp only [lenS]; omega)), ?_⟩ | refine ⟨show _ ≠ (0 : Int) by (first | omega | (simp only [lenS]; omega)), ?_⟩ | refine ⟨_, rfl, _, rfl, ?_⟩ | refine ⟨_, by assumption, Nat.le_of_ble_eq_true rfl, ?_⟩ | refine ⟨_, by assumption, _, rfl, ?_⟩ | refine ⟨_, rfl, ?_⟩ | fail)
              refine drawnT Tryd.wf Tryd.tab_ok Tryd.mixed (by decide +kernel) ?_; repeat' (first |       refine qskip rfl rfl ?_ | refine qstep (r := .d (.bool true)) rfl rfl (fin_eq (congrArg (fun b => AV.d (.bool b)) (decide_eq_true (by omega)))) ?_ | refine qstep (r := .d (.bool false)) rfl rfl (fin_eq (congrArg (fun b => AV.d (.bool b)) (decide_eq_false (by omega)))) ?_ | refine qstep rfl rfl ⟨fun _ => FinMove.refl _ _ _, fun h => absurd h (by decide)⟩ ?_ | refine qstep rfl rfl ⟨fun h => absurd h (by decide), fun _ => FinMove.refl _ _ _⟩ ?_ | refine qstep rfl rfl (FinMove.refl _ _ _) ?_ |     refine qstep rfl rfl (PureC.use hc1 (FinMove.refl _ _ _)) ?_ | refine qstep rfl rfl (PureC.use hc2 (FinMove.refl _ _ _)) ?_ | refine qstep rfl rfl (PureC.use hc3 (FinMove.refl _ _ _)) ?_ |      refine qstep rfl rfl ⟨⟨by (first | omega | (simp only [lenS]; omega)), by (first | omega | (simp only [lenS]; omega))⟩, _, by assumption, by rfl, FinMove.refl _ _ _⟩ ?_ | refine qstep rfl rfl (.inl ⟨⟨by (first | omega | (simp only [lenS]; omega)), by (first | omega | (simp only [lenS]; omega))⟩, FinMove.refl _ _ _⟩) ?_ | refine qstep rfl rfl ⟨⟨by (first | omega | (simp only [lenS]; omega)), by (first | omega | (simp only [lenS]; omega))⟩, FinMove.refl _ _ _⟩ ?_ | refine qstep rfl rfl ⟨⟨by (first | omega | (simp only [lenS]; omega)), by (first | omega | (simp only [lenS]; omega)), by (first | omega | (simp only [lenS]; omega))⟩, FinMove.refl _ _ _⟩ ?_ | refine qstep rfl rfl ⟨⟨by (first | omega | (simp only [lenS]; omega)), by (first | omega | (simp only [lenS]; omega)), by (first | omega | (simp only [lenS]; omega))⟩, .inl rfl, FinMove.refl _ _ _⟩ ?_ | refine qstep rfl rfl ⟨_, rfl, _, rfl, FinMove.refl _ _ _⟩ ?_ | refine qstep rfl rfl ⟨_, rfl, FinMove.refl _ _ _⟩ ?_ | refine qstep rfl rfl ⟨_, rfl, Nat.le_refl _, FinMove.refl _ _ _⟩ ?_ | refine qstep rfl rfl ⟨Nat.le_refl _, FinMove.refl _ _ _⟩ ?_ | refine qstep rfl rfl ⟨by decide, FinMove.refl _ _ _⟩ ?_ | refine qstep rfl rfl ⟨show _ ≤ (9223372036854775807 : Nat) by (first | omega | (simp only [lenS]; omega)), FinMove.refl _ _ _⟩ ?_ | fail)
              repeat' (first | refine PureC.use hc1 ?_ | refine PureC.use hc2 ?_ | refine PureC.use hc3 ?_ |                     refine ⟨fun _ => ?_, fun h => absurd h (by decide)⟩ | refine ⟨fun h => absurd h (by decide), fun _ => ?_⟩ | (refine ⟨fun h => ?_, fun h => ?_⟩ <;> (try simp only [decide_eq_true_eq, decide_eq_false_iff_not, Bool.not_eq_true', Bool.not_eq_false', Bool.not_eq_true, Bool.not_eq_false, not_true_eq_false, beq_iff_eq, beq_eq_false_iff_ne, ne_eq, decide_eq_decide, true_iff, false_iff, iff_true, iff_false, true_and, and_true, false_or, or_false, Bool.and_true, Bool.and_eq_true, Bool.and_eq_false_iff, Bool.or_eq_true, Bool.or_eq_false_iff, List.length_cons, List.length_nil] at h) <;> (try (exfalso; first | omega | exact h rfl | (cases h; done) | exact absurd h (by assumption) | exact h (by assumption) | (simp at h; done)))) | refine ⟨⟨by (first | omega | (simp only [lenS]; omega)), by (first | omega | (simp only [lenS]; omega))⟩, _, by assumption, by rfl, ?_⟩ | refine .inl ⟨⟨by (first | omega | (simp only [lenS]; omega)), by (first | omega | (simp only [lenS]; omega))⟩, ?_⟩ | refine ⟨⟨by (first | omega | (simp only [lenS]; omega)), by (first | omega | (simp only [lenS]; omega))⟩, ?_⟩ | refine ⟨⟨by (first | omega | (simp only [lenS]; omega)), by (first | omega | (simp only [lenS]; omega)), by (first | omega | (simp only [lenS]; omega))⟩, ?_⟩ | refine ⟨.inl rfl, ?_⟩ | refine ⟨.inr (.inl (by (first | omega | (simp only [lenS]; omega)))), ?_⟩ | refine ⟨_, rfl, rfl, by (first | exact Nat.le_refl _ | exact Nat.le_of_ble_eq_true rfl | decide), ?_⟩ | refine ⟨_, rfl, by (first | exact Nat.le_refl _ | exact Nat.le_of_ble_eq_true rfl | decide), ?_⟩ | refine ⟨by (first | exact Nat.le_refl _ | exact Nat.le_of_ble_eq_true rfl | decide | exact rfl), ?_⟩ | refine ⟨show _ ≤ (9223372036854775807 : Nat) by (first | omega | (simp only [lenS]; omega)), ?_⟩ | refine ⟨show _ ≠ (0 : Int) by (first | omega | (simp only [lenS]; omega)), ?_⟩ | refine ⟨_, rfl, _, rfl, ?_⟩ | refine ⟨_, by assumption, Nat.le_of_ble_eq_true rfl, ?_⟩ | refine ⟨_, by assumption, _, rfl, ?_⟩ | refine ⟨_, rfl, ?_⟩ | fail)
              exact ⟨_, _, _, ⟨i + 1, out ++ [59, 32] ++ txtB K[i], rfl, hlt, by rw [List.length_append]; omega, hI, rfl, rfl⟩, by omega, Mv.of [] rfl rfl rfl trivial ⟨rfl, rfl, congrArg D.str (by simp [txtB]), rfl, trivial⟩⟩
      · have hi' : i = K.length := by omega
        subst hi'
        rw [List.drop_length] at hI
        repeat' (first | refine PureC.use hc1 ?_ | refine PureC.use hc2 ?_ | refine PureC.use hc3 ?_ |                     refine ⟨fun _ => ?_, fun h => absurd h (by decide)⟩ | refine ⟨fun h => absurd h (by decide), fun _ => ?_⟩ | (refine ⟨fun h => ?_, fun h => ?_⟩ <;> (try simp only [decide_eq_true_eq, decide_eq_false_iff_not, Bool.not_eq_true', Bool.not_eq_false', Bool.not_eq_true, Bool.not_eq_false, not_true_eq_false, beq_iff_eq, beq_eq_false_iff_ne, ne_eq, decide_eq_decide, true_iff, false_iff, iff_true, iff_false, true_and, and_true, false_or, or_false, Bool.and_true, Bool.and_eq_true, Bool.and_eq_false_iff, Bool.or_eq_true, Bool.or_eq_false_iff, List.length_cons, List.length_nil] at h) <;> (try (exfalso; first | omega | exact h rfl | (cases h; done) | exact absurd h (by assumption) | exact h (by assumption) | (simp at h; done)))) | refine ⟨⟨by (first | omega | (simp only [lenS]; omega)), by (first | omega | (simp only [lenS]; omega))⟩, _, by assumption, by rfl, ?_⟩ | refine .inl ⟨⟨by (first | omega | (simp only [lenS]; omega)), by (first | omega | (simp only [lenS]; omega))⟩, ?_⟩ | refine ⟨⟨by (first | omega | (simp only [lenS]; omega)), by (first | omega | (simp only [lenS]; omega))⟩, ?_⟩ | refine ⟨⟨by (first | omega | (simp only [lenS]; omega)), by (first | omega | (simp only [lenS]; omega)), by (first | omega | (simp only [lenS]; omega))⟩, ?_⟩ | refine ⟨.inl rfl, ?_⟩ | refine ⟨.inr (.inl (by (first | omega | (simp only [lenS]; omega)))), ?_⟩ | refine ⟨_, rfl, rfl, by (first | exact Nat.le_refl _ | exact Nat.le_of_ble_eq_true rfl | decide), ?_⟩ | refine ⟨_, rfl, by (first | exact Nat.le_refl _ | exact Nat.le_of_ble_eq_true rfl | decide), ?_⟩ | refine ⟨by (first | exact Nat.le_refl _ | exact Nat.le_of_ble_eq_true rfl | decide | exact rfl), ?_⟩ | refine ⟨show _ ≤ (9223372036854775807 : Nat) by (first | omega | (simp only [lenS]; omega)), ?_⟩ | refine ⟨show _ ≠ (0 : Int) by (first | omega | (simp only [lenS]; omega)), ?_⟩ | refine ⟨_, rfl, _, rfl, ?_⟩ | refine ⟨_, by assumption, Nat.le_of_ble_eq_true rfl, ?_⟩ | refine ⟨_, by assumption, _, rfl, ?_⟩ | refine ⟨_, rfl, ?_⟩ | fail)
        exact ⟨_, _, ⟨rfl, rfl⟩, Mv.of [] rfl rfl rfl trivial ⟨congrArg D.str hI.symm, trivial⟩⟩
    · rintro _ _ ⟨rfl, rfl⟩
      refine E.of Tryd.wf Tryd.tab_ok ?_
      exact ⟨_, _, fin_out rfl, rfl, rfl⟩
end Go.Proofs.YtfchacihhljfhaaDoor

namespace Go.Proofs.YtfchacihhljfhaaDoor
open Go.Aw
set_option maxHeartbeats 1600000
set_option linter.unusedSimpArgs false
set_option linter.unusedVariables false
/-- A tree, as plain data. -/
inductive Node where
  | mk (name : List UInt8) (attrs : List (List UInt8 × List UInt8)) (text : List UInt8) (kids : List Node)
def Node.name : Node → List UInt8
  | .mk n _ _ _ => n
def Node.attrs : Node → List (List UInt8 × List UInt8)
  | .mk _ a _ _ => a
def Node.text : Node → List UInt8
  | .mk _ _ t _ => t
def Node.kids : Node → List Node
  | .mk _ _ _ k => k
def attrD (a : List UInt8 × List UInt8) : List D := [.str a.1, .str a.2]
def attrsD (l : List (List UInt8 × List UInt8)) : List (List D) := l.map attrD
mutual
def nodeD : Node → List D
  | .mk n a t k => [.str n, .sl (attrsD a), .str t, .sl (nodesD k)]
def nodesD : List Node → List (List D)
  | [] => []
  | n :: r => nodeD n :: nodesD r
end
theorem nodesD_map : ∀ l : List Node, nodesD l = l.map nodeD
  | [] => by unfold nodesD; rfl
  | n :: r => by unfold nodesD; rw [nodesD_map r]; rfl
theorem nodeD_eq (n : Node) : nodeD n = [.str n.name, .sl (attrsD n.attrs), .str n.text, .sl (nodesD n.kids)] := by
  cases n; unfold nodeD; rfl
theorem nodesD_len (l : List Node) : (nodesD l).length = l.length := by rw [nodesD_map]; simp
theorem attrsD_len (l : List (List UInt8 × List UInt8)) : (attrsD l).length = l.length := by simp [attrsD]
theorem nodesD_get (l : List Node) (k : Nat) (h : k < l.length) : (nodesD l)[((k : Nat) : Int).toNat]? = some [.str l[k].name, .sl (attrsD l[k].attrs), .str l[k].text, .sl (nodesD l[k].kids)] := by
  rw [nodesD_map, Int.toNat_natCast]; simp [h, nodeD_eq]
theorem attrsD_get (l : List (List UInt8 × List UInt8)) (k : Nat) (h : k < l.length) : (attrsD l)[((k : Nat) : Int).toNat]? = some [.str l[k].1, .str l[k].2] := by
  rw [Int.toNat_natCast]; simp [attrsD, attrD, h]
mutual
def szN : Node → Nat
  | .mk _ _ _ k => 1 + szL k
def szL : List Node → Nat
  | [] => 0
  | n :: r => szN n + szL r
end
theorem szN_eq (n : Node) : szN n = 1 + szL n.kids := by cases n; unfold szN; rfl
theorem szL_cons (n : Node) (r : List Node) : szL (n :: r) = szN n + szL r := by rw [szL]
theorem sz_mem {l : List Node} {n : Node} (h : n ∈ l) : szN n ≤ szL l := by
  induction l with
  | nil => simp at h
  | cons m r ih =>
    rw [szL_cons]
    rcases List.mem_cons.1 h with rfl | h
    · omega
    · have := ih h; omega
theorem kids_lt {l : List Node} {n : Node} (h : n ∈ l) : szL n.kids < szL l := by
  have := sz_mem h
  rw [szN_eq] at this; omega
def voids : List (List UInt8) := [[97, 114, 101, 97], [98, 97, 115, 101], [98, 114], [99, 111, 108], [101, 109, 98, 101, 100], [104, 114], [105, 109, 103], [105, 110, 112, 117, 116], [108, 105, 110, 107], [109, 101, 116, 97], [112, 97, 114, 97, 109], [115, 111, 117, 114, 99, 101], [116, 114, 97, 99, 107], [119, 98, 114]]
def blocks : List (List UInt8) := [[97, 100, 100, 114, 101, 115, 115], [97, 114, 116, 105, 99, 108, 101], [97, 115, 105, 100, 101], [98, 108, 111, 99, 107, 113, 117, 111, 116, 101], [100, 105, 118], [100, 108], [102, 105, 101, 108, 100, 115, 101, 116], [102, 105, 103, 117, 114, 101], [102, 111, 111, 116, 101, 114], [102, 111, 114, 109], [104, 49], [104, 50], [104, 51], [104, 52], [104, 53], [104, 54], [104, 101, 97, 100, 101, 114], [104, 114], [108, 105], [109, 97, 105, 110], [110, 97, 118], [111, 108], [112], [112, 114, 101], [115, 101, 99, 116, 105, 111, 110], [116, 97, 98, 108, 101], [117, 108]]
def raws : List (List UInt8) := [[115, 99, 114, 105, 112, 116], [115, 116, 121, 108, 101], [120, 109, 112], [105, 102, 114, 97, 109, 101], [110, 111, 101, 109, 98, 101, 100], [110, 111, 102, 114, 97, 109, 101, 115], [112, 108, 97, 105, 110, 116, 101, 120, 116]]
def softs : List (List UInt8) := [[116, 101, 120, 116, 97, 114, 101, 97], [116, 105, 116, 108, 101]]
def rawV (s : List UInt8) : AV := .tup [.d (.bool (decide (s ∈ raws) || decide (s ∈ softs))), .d (.bool (decide (s ∉ raws) && decide (s ∈ softs)))]
theorem rawV_pure (s : List UInt8) : (rawV s).pure = true := rfl
set_option maxRecDepth 100000 in
theorem Void_ok (s : List UInt8) : PureC Tryd.prog 86 [.d (.str s)] (.d (.bool (decide (s ∈ voids)))) := by
  refine pure_okT Tryd.wf Tryd.tab_ok Tryd.func86 (by decide +kernel) rfl rfl rfl rfl ?_
  have yes : ∀ σ : Store, s ∈ voids → ∃ r2 σ2, FinMove ⟨0, []⟩ (AV.d (.bool true)) σ r2 σ2 ∧ r2 = AV.d (.bool (decide (s ∈ voids))) := fun σ h => ⟨_, _, fin_out rfl, by rw [decide_eq_true h]⟩
  iterate 14 (refine ⟨fun h => yes _ (by rw [of_decide_eq_true h]; decide), fun h => ?_⟩; replace h := of_decide_eq_false h)
  refine ⟨_, _, fin_out rfl, congrArg (fun b => AV.d (.bool b)) (decide_eq_false ?_).symm⟩
  simp_all [voids]
set_option maxRecDepth 100000 in
theorem Block_ok (s : List UInt8) : PureC Tryd.prog 76 [.d (.str s)] (.d (.bool (decide (s ∈ blocks)))) := by
  refine pure_okT Tryd.wf Tryd.tab_ok Tryd.func76 (by decide +kernel) rfl rfl rfl rfl ?_
  have yes : ∀ σ : Store, s ∈ blocks → ∃ r2 σ2, FinMove ⟨0, []⟩ (AV.d (.bool true)) σ r2 σ2 ∧ r2 = AV.d (.bool (decide (s ∈ blocks))) := fun σ h => ⟨_, _, fin_out rfl, by rw [decide_eq_true h]⟩
  iterate 27 (refine ⟨fun h => yes _ (by rw [of_decide_eq_true h]; decide), fun h => ?_⟩; replace h := of_decide_eq_false h)
  refine ⟨_, _, fin_out rfl, congrArg (fun b => AV.d (.bool b)) (decide_eq_false ?_).symm⟩
  simp_all [blocks]
set_option maxRecDepth 100000 in
theorem tRaw_ok (s : List UInt8) : PureC Tryd.prog 66 [.d (.str s)] (rawV s) := by
  refine pure_okT Tryd.wf Tryd.tab_ok Tryd.func66 (by decide +kernel) rfl rfl rfl (rawV_pure s) ?_
  have yes : ∀ σ : Store, s ∈ raws → ∃ r2 σ2, FinMove ⟨0, []⟩ (AV.tup [.d (.bool true), .d (.bool false)]) σ r2 σ2 ∧ r2 = rawV s := fun σ h => ⟨_, _, fin_out rfl, by simp [rawV, h]⟩
  iterate 7 (refine ⟨fun h => yes _ (by rw [of_decide_eq_true h]; decide), fun h => ?_⟩; replace h := of_decide_eq_false h)
  have hno : s ∉ raws := by simp_all [raws]
  have yes2 : ∀ σ : Store, s ∈ softs → ∃ r2 σ2, FinMove ⟨0, []⟩ (AV.tup [.d (.bool true), .d (.bool true)]) σ r2 σ2 ∧ r2 = rawV s := fun σ h => ⟨_, _, fin_out rfl, by simp [rawV, h, hno]⟩
  iterate 2 (refine ⟨fun h => yes2 _ (by rw [of_decide_eq_true h]; decide), fun h => ?_⟩; replace h := of_decide_eq_false h)
  have hno2 : s ∉ softs := by simp_all [softs]
  have e : rawV s = .tup [.d (.bool false), .d (.bool false)] := by simp [rawV, hno, hno2]
  exact ⟨_, _, fin_out rfl, e.symm⟩
end Go.Proofs.YtfchacihhljfhaaDoor

namespace Go.Proofs.YtfchacihhljfhaaDoor
open Go.Aw
set_option maxHeartbeats 1600000
set_option linter.unusedSimpArgs false
set_option linter.unusedVariables false
def letB (c : UInt8) : Bool := decide (97 ≤ c.toNat) && decide (c.toNat ≤ 122)
def digB (c : UInt8) : Bool := decide (48 ≤ c.toNat) && decide (c.toNat ≤ 57)
/-- A small letter, and such, digits and others behind it. -/
def smallT (o : List UInt8) (s : List UInt8) : Bool := s.all fun c => letB c || (digB c || decide (c ∈ o))
def small (s o : List UInt8) : Bool := match s with
  | [] => false
  | c :: r => letB c && smallT o r
theorem idx_mem (c : UInt8) (o : List UInt8) (h : o.length ≤ 9223372036854775807) : (decide (0 ≤ idxB c o)) = decide (c ∈ o) := by
  by_cases hm : c ∈ o
  · obtain ⟨a, b, rfl, ha⟩ := split_first hm
    rw [idxB_some ha, decide_eq_true hm, decide_eq_true (by omega)]
  · rw [idxB_none hm, decide_eq_false hm]; rfl
/-- What holds of a text up to a place. -/
def upto (s o : List UInt8) (k : Nat) : Bool := decide (k = 0) || small (s.take k) o
theorem upto_step (s o : List UInt8) (k : Nat) (h : k < s.length) : upto s o (k + 1) = (upto s o k && (letB s[k] || decide (0 < k) && (digB s[k] || decide (s[k] ∈ o)))) := by
  cases k with
  | zero =>
    have e : s.take (0 + 1) = [s[0]] := by rw [List.take_succ_eq_append_getElem h]; rfl
    unfold upto
    rw [e]
    simp [small, smallT]
  | succ j =>
    cases s with
    | nil => simp at h
    | cons c r =>
      simp only [List.length_cons] at h
      have hj : j < r.length := by omega
      unfold upto
      simp only [List.take_succ_cons, List.getElem_cons_succ, small]
      rw [List.take_succ_eq_append_getElem hj]
      simp only [smallT, List.all_append, List.all_cons, List.all_nil, Bool.and_true]
      simp [Bool.and_assoc]
theorem upto_end (s o : List UInt8) : (upto s o s.length && !decide (s = [])) = small s o := by
  unfold upto
  cases s with
  | nil => rfl
  | cons c r => simp
theorem upto_bad : ∀ (s o : List UInt8) (k : Nat), k ≤ s.length → upto s o k = false → small s o = false := by
  intro s o k hk h
  unfold upto at h
  rw [Bool.or_eq_false_iff] at h
  have hk0 : k ≠ 0 := by simpa using h.1
  cases s with
  | nil => simp at hk; omega
  | cons c r =>
    obtain ⟨j, rfl⟩ : ∃ j, k = j + 1 := ⟨k - 1, by omega⟩
    have h2 := h.2
    simp only [List.take_succ_cons, small] at h2 ⊢
    rw [Bool.and_eq_false_iff] at h2 ⊢
    rcases h2 with h2 | h2
    · exact .inl h2
    · refine .inr ?_
      unfold smallT at h2 ⊢
      rw [← List.take_append_drop j r, List.all_append, h2]; rfl
set_option maxRecDepth 100000 in
theorem small_ok (s o : List UInt8) (hs : s.length ≤ 4611686018427387904) (ho : o.length ≤ 9223372036854775807) : PureC Tryd.prog 85 [.d (.str s), .d (.str o)] (.d (.bool (small s o))) := by
  refine pure_okT Tryd.wf Tryd.tab_ok Tryd.func85 (by decide +kernel) rfl rfl rfl rfl ?_
  refine loopT Tryd.wf Tryd.tab_ok (fun n s' σ => ∃ k : Nat, n = s.length - k ∧ k ≤ s.length ∧ upto s o k = true ∧ s' = [(0, .d (.str s)), (1, .d (.str o)), (8, .d (.int .i64 s.length)), (9, .d (.int .i64 k))] ∧ σ = ⟨0, []⟩)
    ⟨0, rfl, Nat.zero_le _, rfl, rfl, rfl⟩ (Mv.of [] rfl rfl rfl trivial ⟨rfl, rfl, rfl, rfl, trivial⟩) ?_
  rintro _ _ _ ⟨k, rfl, hk, hI, rfl, rfl⟩
  refine ⟨fun h => ?_, fun h => ?_⟩
  · have hlt : k < s.length := by have := of_decide_eq_true h; omega
    clear h
    have hg := getD_at s k hlt
    have hst := upto_step s o k hlt
    rw [hI, Bool.true_and] at hst
    refine ⟨⟨by omega, by omega⟩, ?_⟩
    rw [hg]
    generalize hc : s[k] = c at *
    have hx := idx_mem c o ho
    have no : ∀ σ : Store, (letB c || decide (0 < k) && (digB c || decide (c ∈ o))) = false → ∃ r2 σ2, FinMove ⟨0, []⟩ (AV.d (.bool false)) σ r2 σ2 ∧ r2 = AV.d (.bool (small s o)) := fun σ h => ⟨_, _, fin_out rfl, by rw [upto_bad s o (k + 1) hlt (hst.trans h)]⟩
    have go : (letB c || decide (0 < k) && (digB c || decide (c ∈ o))) = true → upto s o (k + 1) = true := fun h => hst.trans h
    by_cases hl : 97 ≤ c.toNat ∧ c.toNat ≤ 122
    · repeat (first | refine ⟨fun _ => ?_, fun h => absurd (of_decide_eq_false h) (by omega)⟩ | refine ⟨fun h => absurd (of_decide_eq_true h) (by omega), fun _ => ?_⟩ | refine ⟨fun _ => ?_, fun h => absurd (of_decide_eq_true h) (by omega)⟩ | refine ⟨fun h => absurd (of_decide_eq_false h) (by omega), fun _ => ?_⟩ | refine .inl ⟨⟨by omega, by omega⟩, ?_⟩ | refine ⟨⟨by omega, by omega⟩, ?_⟩)
      exact ⟨_, _, _, ⟨k + 1, rfl, hlt, go (by simp [letB, hl]), rfl, rfl⟩, by omega, Mv.of [] rfl rfl rfl trivial ⟨rfl, rfl, rfl, rfl, trivial⟩⟩
    · have hlb : letB c = false := by simp [letB]; omega
      rw [hlb, Bool.false_or] at no go
      have hl2 : c.toNat < 97 ∨ 122 < c.toNat := by omega
      by_cases hk0 : k = 0
      · subst hk0
        rcases hl2 with hl2 | hl2
        all_goals
          repeat (first | refine ⟨fun _ => ?_, fun h => absurd (of_decide_eq_false h) (by omega)⟩ | refine ⟨fun h => absurd (of_decide_eq_true h) (by omega), fun _ => ?_⟩ | refine ⟨fun _ => ?_, fun h => absurd (of_decide_eq_true h) (by omega)⟩ | refine ⟨fun h => absurd (of_decide_eq_false h) (by omega), fun _ => ?_⟩ | refine .inl ⟨⟨by omega, by omega⟩, ?_⟩ | refine ⟨⟨by omega, by omega⟩, ?_⟩)
          exact no _ rfl
      · rw [decide_eq_true (show 0 < k by omega), Bool.true_and] at no go
        by_cases hd : 48 ≤ c.toNat ∧ c.toNat ≤ 57
        · have hdb : digB c = true := by simp [digB, hd]
          replace hl2 : c.toNat < 97 := by omega
          repeat (first | refine ⟨fun _ => ?_, fun h => absurd (of_decide_eq_false h) (by omega)⟩ | refine ⟨fun h => absurd (of_decide_eq_true h) (by omega), fun _ => ?_⟩ | refine ⟨fun _ => ?_, fun h => absurd (of_decide_eq_true h) (by omega)⟩ | refine ⟨fun h => absurd (of_decide_eq_false h) (by omega), fun _ => ?_⟩ | refine .inl ⟨⟨by omega, by omega⟩, ?_⟩ | refine ⟨⟨by omega, by omega⟩, ?_⟩)
          exact ⟨_, _, _, ⟨k + 1, rfl, hlt, go (by rw [hdb]; rfl), rfl, rfl⟩, by omega, Mv.of [] rfl rfl rfl trivial ⟨rfl, rfl, rfl, rfl, trivial⟩⟩
        · have hdb : digB c = false := by simp [digB]; omega
          have hd2 : c.toNat < 48 ∨ 57 < c.toNat := by omega
          rw [hdb, Bool.false_or, ← hx] at no go
          have hc1 := IndexByte_ok o c
          generalize idxB c o = x at *
          have hh : (c.toNat < 97 ∧ c.toNat < 48) ∨ (c.toNat < 97 ∧ 57 < c.toNat) ∨ (122 < c.toNat ∧ 57 < c.toNat) := by omega
          clear hl2 hd2 hl hd
          rcases hh with hh | hh | hh
          all_goals
            obtain ⟨hl2, hd2⟩ := hh
            repeat (first | refine ⟨fun _ => ?_, fun h => absurd (of_decide_eq_false h) (by omega)⟩ | refine ⟨fun h => absurd (of_decide_eq_true h) (by omega), fun _ => ?_⟩ | refine ⟨fun _ => ?_, fun h => absurd (of_decide_eq_true h) (by omega)⟩ | refine ⟨fun h => absurd (of_decide_eq_false h) (by omega), fun _ => ?_⟩ | refine .inl ⟨⟨by omega, by omega⟩, ?_⟩ | refine ⟨⟨by omega, by omega⟩, ?_⟩)
            refine PureC.use hc1 ?_
            by_cases hp : 0 ≤ x
            · repeat (first | refine ⟨fun _ => ?_, fun h => absurd (of_decide_eq_false h) (by omega)⟩ | refine ⟨fun h => absurd (of_decide_eq_true h) (by omega), fun _ => ?_⟩ | refine ⟨fun _ => ?_, fun h => absurd (of_decide_eq_true h) (by omega)⟩ | refine ⟨fun h => absurd (of_decide_eq_false h) (by omega), fun _ => ?_⟩ | refine .inl ⟨⟨by omega, by omega⟩, ?_⟩ | refine ⟨⟨by omega, by omega⟩, ?_⟩)
              exact ⟨_, _, _, ⟨k + 1, rfl, hlt, go (decide_eq_true hp), rfl, rfl⟩, by omega, Mv.of [] rfl rfl rfl trivial ⟨rfl, rfl, rfl, rfl, trivial⟩⟩
            · repeat (first | refine ⟨fun _ => ?_, fun h => absurd (of_decide_eq_false h) (by omega)⟩ | refine ⟨fun h => absurd (of_decide_eq_true h) (by omega), fun _ => ?_⟩ | refine ⟨fun _ => ?_, fun h => absurd (of_decide_eq_true h) (by omega)⟩ | refine ⟨fun h => absurd (of_decide_eq_false h) (by omega), fun _ => ?_⟩ | refine .inl ⟨⟨by omega, by omega⟩, ?_⟩ | refine ⟨⟨by omega, by omega⟩, ?_⟩)
              exact no _ (decide_eq_false hp)
  · have hk' : k = s.length := by have := of_decide_eq_false h; omega
    subst hk'
    refine ⟨_, _, fin_out rfl, congrArg (fun b => AV.d (.bool b)) ?_⟩
    rw [← upto_end, hI, Bool.true_and]
end Go.Proofs.YtfchacihhljfhaaDoor

namespace Go.Proofs.YtfchacihhljfhaaDoor
open Go.Aw
set_option maxHeartbeats 1600000
set_option linter.unusedSimpArgs false
set_option linter.unusedVariables false
def enc (n : Int) : List UInt8 := (Utf8.encode n).data.toList
def nameTab : List (List UInt8 × Int) := [([97, 109, 112], 38), ([108, 116], 60), ([103, 116], 62), ([113, 117, 111, 116], 34), ([97, 112, 111, 115], 39), ([110, 98, 115, 112], 160), ([99, 111, 112, 121], 169), ([114, 101, 103], 174), ([100, 101, 103], 176), ([109, 105, 100, 100, 111, 116], 183), ([108, 97, 113, 117, 111], 171), ([114, 97, 113, 117, 111], 187), ([116, 105, 109, 101, 115], 215), ([101, 97, 99, 117, 116, 101], 233), ([110, 100, 97, 115, 104], 8211), ([109, 100, 97, 115, 104], 8212), ([108, 115, 113, 117, 111], 8216), ([114, 115, 113, 117, 111], 8217), ([108, 100, 113, 117, 111], 8220), ([114, 100, 113, 117, 111], 8221), ([104, 101, 108, 108, 105, 112], 8230), ([101, 117, 114, 111], 8364)]
def named (s : List UInt8) : Option (List UInt8) := (nameTab.find? fun e => decide (e.1 = s)).map fun e => enc e.2
def fixN (n : Int) : Int := if n = 0 ∨ n = 13 ∨ (55296 ≤ n ∧ n ≤ 57343) ∨ 1114111 < n then 65533 else n
/-- A digit's worth. -/
def hexv (c : UInt8) : Option Nat := if 48 ≤ c.toNat ∧ c.toNat ≤ 57 then some (c.toNat - 48) else if 97 ≤ c.toNat ∧ c.toNat ≤ 102 then some (c.toNat - 87) else if 65 ≤ c.toNat ∧ c.toNat ≤ 70 then some (c.toNat - 55) else none
def digs (base : Nat) : List UInt8 → Nat → Option Nat
  | [], n => some n
  | c :: r, n => match hexv c with
    | some d => if d < base then digs base r (n * base + d) else none
    | none => none
def number (s : List UInt8) (base most : Nat) : Option Nat := if s = [] ∨ most < s.length then none else digs base s 0
def hashN (d : List UInt8) : Option Nat := match d with
  | 120 :: e => number e 16 6
  | 88 :: e => number e 16 6
  | _ => number d 10 7
def stands (s : List UInt8) : Option (List UInt8) := match s with
  | 35 :: d => (hashN d).map fun (n : Nat) => enc (fixN (n : Int))
  | _ => named s
def oneR (r : List UInt8) : Option (List UInt8 × List UInt8) :=
  if r.findIdx (fun c => decide (c = 59)) ≤ 10 ∧ r.findIdx (fun c => decide (c = 59)) < r.length then
    (stands (r.take (r.findIdx fun c => decide (c = 59)))).map fun t => (t, r.drop (r.findIdx (fun c => decide (c = 59)) + 1))
  else none
def rsv : Nat → List UInt8 → List UInt8
  | 0, _ => []
  | _ + 1, [] => []
  | n + 1, c :: r => if c = 38 then (match oneR r with
      | some (t, r') => t ++ rsv n r'
      | none => 38 :: rsv n r) else c :: rsv n r
def resolve (s : List UInt8) : List UInt8 := rsv s.length s
/-- How many bytes the right sequence has that a text begins with. -/
def lead (c : UInt8) : Nat × Nat × Nat :=
  if 194 ≤ c.toNat ∧ c.toNat ≤ 223 then (2, 128, 191)
  else if 224 ≤ c.toNat ∧ c.toNat ≤ 239 then (3, if c.toNat = 224 then 160 else 128, if c.toNat = 237 then 159 else 191)
  else if 240 ≤ c.toNat ∧ c.toNat ≤ 244 then (4, if c.toNat = 240 then 144 else 128, if c.toNat = 244 then 143 else 191)
  else (0, 128, 191)
def goesB (c : UInt8) : Bool := decide (128 ≤ c.toNat) && decide (c.toNat ≤ 191)
def right (s : List UInt8) : Nat := match s with
  | [] => 0
  | c :: r => if c.toNat < 128 then 1 else
    if (lead c).1 = 0 ∨ s.length < (lead c).1 ∨ (r.getD 0 0).toNat < (lead c).2.1 ∨ (lead c).2.2 < (r.getD 0 0).toNat then 0 else
    if ((r.drop 1).take ((lead c).1 - 2)).all goesB then (lead c).1 else 0
end Go.Proofs.YtfchacihhljfhaaDoor

namespace Go.Proofs.YtfchacihhljfhaaDoor
open Go.Aw
set_option maxHeartbeats 1600000
set_option linter.unusedSimpArgs false
set_option linter.unusedVariables false
def rawB (s : List UInt8) : Bool := decide (s ∈ raws) || decide (s ∈ softs)
def attrsFrom : List (List UInt8) → List (List UInt8 × List UInt8) → Bool
  | _, [] => true
  | seen, a :: r => (small a.1 [45, 95, 58] && !decide (a.1 ∈ seen)) && attrsFrom (seen ++ [a.1]) r
def ownB (n : Node) : Bool := !(rawB n.name || !small n.name [45] || !decide (n.text = []) || decide (n.name ∈ voids) && !decide (n.kids = [])) && attrsFrom [] n.attrs
theorem rawV_fst (s : List UInt8) : rawV s = .tup [.d (.bool (rawB s)), .d (.bool (decide (s ∉ raws) && decide (s ∈ softs)))] := rfl
def Short (l : List (List UInt8 × List UInt8)) : Prop := l.length ≤ 1000000000 ∧ ∀ a ∈ l, a.1.length ≤ 1000000000 ∧ a.2.length ≤ 1000000000
end Go.Proofs.YtfchacihhljfhaaDoor

namespace Go.Proofs.YtfchacihhljfhaaDoor
open Go.Aw
set_option maxHeartbeats 1600000
set_option linter.unusedSimpArgs false
set_option linter.unusedVariables false
/-- A policy, as plain data. -/
structure Pol where
  ep : Int
  el : List (List UInt8)
  at' : List (List UInt8)
  sc : List (List UInt8)
  cl : List (List UInt8)
  pr : List (List UInt8)
  dp : Int
  nd : Int
  by' : Int
deriving DecidableEq
def polD (p : Pol) : List D := [.int .i64 p.ep, .sl (strsD p.el), .sl (strsD p.at'), .sl (strsD p.sc), .sl (strsD p.cl), .sl (strsD p.pr), .int .i64 p.dp, .int .i64 p.nd, .int .i64 p.by']
def polA (p : Pol) : AV := .agg ((polD p).map .d)
def FitsL (l : List (List UInt8)) : Prop := l.length ≤ 1000000 ∧ ∀ s ∈ l, s.length ≤ 1000000
structure Fits (p : Pol) : Prop where
  el : FitsL p.el
  at' : FitsL p.at'
  sc : FitsL p.sc
  cl : FitsL p.cl
  pr : FitsL p.pr
end Go.Proofs.YtfchacihhljfhaaDoor

namespace Go.Proofs.YtfchacihhljfhaaDoor
open Go.Aw
set_option maxHeartbeats 1600000
set_option linter.unusedSimpArgs false
set_option linter.unusedVariables false
/-- The policy's own cell, and the cell of the function that looks into its elements. -/
def boxO (p : Pol) : Ob := .rows (9, 24) [(polD p).map .d]
theorem box_pure (p : Pol) : ∀ row ∈ [(polD p).map AV.d], pureL row = true := fun row h => by rw [List.mem_singleton.1 h]; rfl
end Go.Proofs.YtfchacihhljfhaaDoor

namespace Go.Proofs.YtfchacihhljfhaaDoor
open Go.Aw
set_option maxHeartbeats 1600000
set_option linter.unusedSimpArgs false
set_option linter.unusedVariables false
set_option maxRecDepth 100000 in
theorem rHas_ok (l : List (List UInt8)) (v : List UInt8) (hl : l.length ≤ 4611686018427387903) : PureC Tryd.prog 23 [.d (.sl (strsD l)), .d (.str v)] (.d (.bool (decide (v ∈ l)))) := by
  refine pure_okT Tryd.wf Tryd.tab_ok Tryd.func23 (by decide +kernel) rfl rfl rfl rfl ?_
  have hn := strsD_len l
  repeat' (first |                        refine ⟨fun _ => ?_, fun h => absurd h (by decide)⟩ | refine ⟨fun h => absurd h (by decide), fun _ => ?_⟩ | (refine ⟨fun h => ?_, fun h => ?_⟩ <;> (try simp only [decide_eq_true_eq, decide_eq_false_iff_not, Bool.not_eq_true', Bool.not_eq_false', Bool.not_eq_true, Bool.not_eq_false, not_true_eq_false, beq_iff_eq, beq_eq_false_iff_ne, ne_eq, decide_eq_decide, true_iff, false_iff, iff_true, iff_false, true_and, and_true, false_or, or_false, Bool.and_true, Bool.and_eq_true, Bool.and_eq_false_iff, Bool.or_eq_true, Bool.or_eq_false_iff, List.length_cons, List.length_nil] at h) <;> (try (exfalso; first | omega | exact h rfl | (cases h; done) | exact absurd h (by assumption) | exact h (by assumption) | (simp at h; done)))) | refine ⟨⟨by (first | omega | (simp only [lenS]; omega)), by (first | omega | (simp only [lenS]; omega))⟩, _, by assumption, by rfl, ?_⟩ | refine .inl ⟨⟨by (first | omega | (simp only [lenS]; omega)), by (first | omega | (simp only [lenS]; omega))⟩, ?_⟩ | refine ⟨⟨by (first | omega | (simp only [lenS]; omega)), by (first | omega | (simp only [lenS]; omega))⟩, ?_⟩ | refine ⟨⟨by (first | omega | (simp only [lenS]; omega)), by (first | omega | (simp only [lenS]; omega)), by (first | omega | (simp only [lenS]; omega))⟩, ?_⟩ | refine ⟨.inl rfl, ?_⟩ | refine ⟨.inr (.inl (by (first | omega | (simp only [lenS]; omega)))), ?_⟩ | refine ⟨_, rfl, rfl, by (first | exact Nat.le_refl _ | exact Nat.le_of_ble_eq_true rfl | decide), ?_⟩ | refine ⟨_, rfl, by (first | exact Nat.le_refl _ | exact Nat.le_of_ble_eq_true rfl | decide), ?_⟩ | refine ⟨by (first | exact Nat.le_refl _ | exact Nat.le_of_ble_eq_true rfl | decide | exact rfl), ?_⟩ | refine ⟨show _ ≤ (9223372036854775807 : Nat) by (first | omega | (simp only [lenS]; omega)), ?_⟩ | refine ⟨show _ ≠ (0 : Int) by (first | omega | (simp only [lenS]; omega)), ?_⟩ | refine ⟨_, rfl, _, rfl, ?_⟩ | refine ⟨_, by assumption, Nat.le_of_ble_eq_true rfl, ?_⟩ | refine ⟨_, by assumption, _, rfl, ?_⟩ | refine ⟨_, rfl, ?_⟩ | fail)
  refine loopT Tryd.wf Tryd.tab_ok (fun n s' σ => ∃ k : Nat, n = l.length - k ∧ k ≤ l.length ∧ v ∉ l.take k ∧ s' = [(0, .d (.sl (strsD l))), (1, .d (.str v)), (5, .d (.int .i64 k))] ∧ σ = ⟨0, []⟩)
    ⟨0, rfl, Nat.zero_le _, by simp, rfl, rfl⟩ (Mv.of [] rfl rfl rfl trivial ⟨rfl, rfl, rfl, trivial⟩) ?_
  rintro _ _ _ ⟨k, rfl, hk, hI, rfl, rfl⟩
  refine ⟨fun h => ?_, fun h => ?_⟩
  · have hlt : k < l.length := by have := of_decide_eq_true h; omega
    clear h
    have hg := strsD_get l k hlt
    repeat' (first |                        refine ⟨fun _ => ?_, fun h => absurd h (by decide)⟩ | refine ⟨fun h => absurd h (by decide), fun _ => ?_⟩ | (refine ⟨fun h => ?_, fun h => ?_⟩ <;> (try simp only [decide_eq_true_eq, decide_eq_false_iff_not, Bool.not_eq_true', Bool.not_eq_false', Bool.not_eq_true, Bool.not_eq_false, not_true_eq_false, beq_iff_eq, beq_eq_false_iff_ne, ne_eq, decide_eq_decide, true_iff, false_iff, iff_true, iff_false, true_and, and_true, false_or, or_false, Bool.and_true, Bool.and_eq_true, Bool.and_eq_false_iff, Bool.or_eq_true, Bool.or_eq_false_iff, List.length_cons, List.length_nil] at h) <;> (try (exfalso; first | omega | exact h rfl | (cases h; done) | exact absurd h (by assumption) | exact h (by assumption) | (simp at h; done)))) | refine ⟨⟨by (first | omega | (simp only [lenS]; omega)), by (first | omega | (simp only [lenS]; omega))⟩, _, by assumption, by rfl, ?_⟩ | refine .inl ⟨⟨by (first | omega | (simp only [lenS]; omega)), by (first | omega | (simp only [lenS]; omega))⟩, ?_⟩ | refine ⟨⟨by (first | omega | (simp only [lenS]; omega)), by (first | omega | (simp only [lenS]; omega))⟩, ?_⟩ | refine ⟨⟨by (first | omega | (simp only [lenS]; omega)), by (first | omega | (simp only [lenS]; omega)), by (first | omega | (simp only [lenS]; omega))⟩, ?_⟩ | refine ⟨.inl rfl, ?_⟩ | refine ⟨.inr (.inl (by (first | omega | (simp only [lenS]; omega)))), ?_⟩ | refine ⟨_, rfl, rfl, by (first | exact Nat.le_refl _ | exact Nat.le_of_ble_eq_true rfl | decide), ?_⟩ | refine ⟨_, rfl, by (first | exact Nat.le_refl _ | exact Nat.le_of_ble_eq_true rfl | decide), ?_⟩ | refine ⟨by (first | exact Nat.le_refl _ | exact Nat.le_of_ble_eq_true rfl | decide | exact rfl), ?_⟩ | refine ⟨show _ ≤ (9223372036854775807 : Nat) by (first | omega | (simp only [lenS]; omega)), ?_⟩ | refine ⟨show _ ≠ (0 : Int) by (first | omega | (simp only [lenS]; omega)), ?_⟩ | refine ⟨_, rfl, _, rfl, ?_⟩ | refine ⟨_, by assumption, Nat.le_of_ble_eq_true rfl, ?_⟩ | refine ⟨_, by assumption, _, rfl, ?_⟩ | refine ⟨_, rfl, ?_⟩ | fail)
    · exact ⟨_, _, fin_out rfl, congrArg (fun b => AV.d (.bool b)) (decide_eq_true (h ▸ List.getElem_mem hlt)).symm⟩
    · refine ⟨_, _, _, ⟨k + 1, rfl, hlt, ?_, rfl, rfl⟩, by omega, Mv.of [] rfl rfl rfl trivial ⟨rfl, rfl, rfl, trivial⟩⟩
      rw [List.take_succ_eq_append_getElem hlt]
      simp only [List.mem_append, not_or, List.mem_singleton]
      exact ⟨hI, fun e => h e.symm⟩
  · have hk' : k = l.length := by have := of_decide_eq_false h; omega
    subst hk'
    rw [List.take_length] at hI
    exact ⟨_, _, fin_out rfl, congrArg (fun b => AV.d (.bool b)) (decide_eq_false hI).symm⟩
end Go.Proofs.YtfchacihhljfhaaDoor

namespace Go.Proofs.YtfchacihhljfhaaDoor
open Go.Aw
set_option maxHeartbeats 1600000
set_option linter.unusedSimpArgs false
set_option linter.unusedVariables false
def sp (c : UInt8) : Bool := decide (c.toNat ≤ 32)
def trimL (s : List UInt8) : List UInt8 := s.dropWhile sp
def trimR (s : List UInt8) : List UInt8 := (s.reverse.dropWhile sp).reverse
def kept (c : UInt8) : Bool := !(decide (c.toNat = 9) || decide (c.toNat = 10) || decide (c.toNat = 13))
def bare (s : List UInt8) : List UInt8 := (trimR (trimL s)).filter kept
theorem trimR_snoc (t : List UInt8) (c : UInt8) : trimR (t ++ [c]) = if sp c then trimR t else t ++ [c] := by
  unfold trimR
  rw [List.reverse_append]
  simp only [List.reverse_cons, List.reverse_nil, List.nil_append, List.singleton_append, List.dropWhile_cons]
  split <;> simp
theorem split_last (t : List UInt8) (h : t ≠ []) : t = t.take (t.length - 1) ++ [t.getD (t.length - 1) 0] := by
  have hl : t.length - 1 < t.length := by have := List.length_pos_iff.2 h; omega
  have := List.take_succ_eq_append_getElem hl
  rw [List.getD_eq_getElem?_getD, List.getElem?_eq_getElem hl, Option.getD_some, ← this, List.take_of_length_le (by omega)]
set_option maxRecDepth 10000 in
theorem Bare_ok (s : List UInt8) (hs : s.length ≤ 9223372036854775807) (hs2 : s.length ≤ 140737488355328) : PureC Tryd.prog 35 [.d (.str s)] (.d (.str (bare s))) := by
  refine PureC.of rfl rfl (fn_okTE Tryd.wf Tryd.tab_ok Tryd.func35 (by decide +kernel) rfl rfl ?_)
  refine E.seq (E.of Tryd.wf Tryd.tab_ok ?_)
  refine scopeE ?_
  refine midT Tryd.wf Tryd.tab_ok (fun s' σ => ∃ t : List UInt8, t.length ≤ s.length ∧ t = trimL s ∧ s' = [(0, .d (.str t))] ∧ σ = ⟨0, []⟩) ?_ ?_
  · refine loopT Tryd.wf Tryd.tab_ok (fun n s' σ => ∃ t : List UInt8, n = t.length ∧ t.length ≤ s.length ∧ trimL t = trimL s ∧ s' = [(0, .d (.str t))] ∧ σ = ⟨0, []⟩) ⟨s, rfl, Nat.le_refl _, rfl, rfl, rfl⟩ (Mv.of [] rfl rfl rfl trivial ⟨rfl, trivial⟩) ?_
    rintro _ _ _ ⟨t, rfl, hl, ht, rfl, rfl⟩
    refine ⟨fun h => ?_, fun h => ?_⟩
    · have h' : t ≠ [] := by intro e; subst e; exact absurd h (by decide)
      obtain ⟨c, r, rfl⟩ : ∃ c r, t = c :: r := by cases t with | nil => exact absurd rfl h' | cons c r => exact ⟨c, r, rfl⟩
      refine ⟨⟨by omega, by simp⟩, ⟨fun h2 => ?_, fun h2 => ?_⟩⟩
      · have hsp : sp c = true := by have := of_decide_eq_true h2; simp [sp] at this ⊢; omega
        refine ⟨⟨by omega, by simp; omega, by simp⟩, _, _, _, ⟨r, rfl, by simp at hl; omega, ?_, rfl, rfl⟩, by simp, Mv.of [] rfl rfl rfl trivial ⟨?_, trivial⟩⟩
        · rw [← ht]; simp [trimL, List.dropWhile_cons, hsp]
        · exact congrArg D.str (by simp)
      · have hsp : sp c = false := by have := of_decide_eq_false h2; simp [sp] at this ⊢; omega
        refine ⟨_, _, ⟨c :: r, hl, ?_, rfl, rfl⟩, Mv.of [] rfl rfl rfl trivial ⟨rfl, trivial⟩⟩
        rw [← ht]; simp [trimL, List.dropWhile_cons, hsp]
    · have h' : t = [] := by have : decide (t = []) = true := by simpa using h
                             exact of_decide_eq_true this
      subst h'
      exact ⟨_, _, ⟨[], Nat.zero_le _, ht, rfl, rfl⟩, Mv.of [] rfl rfl rfl trivial ⟨rfl, trivial⟩⟩
  rintro _ _ ⟨t0, hl0, rfl, rfl, rfl⟩
  refine midT Tryd.wf Tryd.tab_ok (fun s' σ => ∃ t : List UInt8, t.length ≤ s.length ∧ t = trimR (trimL s) ∧ s' = [(0, .d (.str t))] ∧ σ = ⟨0, []⟩) ?_ ?_
  · refine loopT Tryd.wf Tryd.tab_ok (fun n s' σ => ∃ t : List UInt8, n = t.length ∧ t.length ≤ s.length ∧ trimR t = trimR (trimL s) ∧ s' = [(0, .d (.str t))] ∧ σ = ⟨0, []⟩) ⟨trimL s, rfl, hl0, rfl, rfl, rfl⟩ (Mv.of [] rfl rfl rfl trivial ⟨rfl, trivial⟩) ?_
    rintro _ _ _ ⟨t, rfl, hl, ht, rfl, rfl⟩
    refine ⟨fun h => ?_, fun h => ?_⟩
    · have h' : t ≠ [] := by intro e; subst e; exact absurd h (by decide)
      have hpos := List.length_pos_iff.2 h'
      have e1 : ((t.length : Int) - 1).toNat = t.length - 1 := by omega
      refine .inl ⟨⟨by omega, by omega⟩, ⟨by omega, by omega⟩, ⟨fun h2 => ?_, fun h2 => ?_⟩⟩
      · have hsp : sp (t.getD (t.length - 1) 0) = true := by have := of_decide_eq_true h2; rw [e1] at this; simp [sp] at this ⊢; omega
        refine .inl ⟨⟨by omega, by omega⟩, ⟨by omega, by omega, by omega⟩, _, _, _, ⟨t.take (t.length - 1), rfl, by simp; omega, ?_, rfl, rfl⟩, by simp; omega, Mv.of [] rfl rfl rfl trivial ⟨?_, trivial⟩⟩
        · have := trimR_snoc (t.take (t.length - 1)) (t.getD (t.length - 1) 0)
          rw [← split_last t h', hsp] at this
          rw [if_pos rfl] at this
          rw [← this]; exact ht
        · exact congrArg D.str (by rw [e1]; rfl)
      · have hsp : sp (t.getD (t.length - 1) 0) = false := by have := of_decide_eq_false h2; rw [e1] at this; simp [sp] at this ⊢; omega
        refine ⟨_, _, ⟨t, hl, ?_, rfl, rfl⟩, Mv.of [] rfl rfl rfl trivial ⟨rfl, trivial⟩⟩
        have := trimR_snoc (t.take (t.length - 1)) (t.getD (t.length - 1) 0)
        rw [← split_last t h', hsp] at this
        rw [← ht, this]; rfl
    · have h' : t = [] := by have : decide (t = []) = true := by simpa using h
                             exact of_decide_eq_true this
      subst h'
      exact ⟨_, _, ⟨[], Nat.zero_le _, ht, rfl, rfl⟩, Mv.of [] rfl rfl rfl trivial ⟨rfl, trivial⟩⟩
  rintro _ _ ⟨t, hl, ht, rfl, rfl⟩
  refine E.of Tryd.wf Tryd.tab_ok ?_
  refine loopT Tryd.wf Tryd.tab_ok (fun n s' σ => ∃ k : Nat, n = t.length - k ∧ k ≤ t.length ∧ s' = [(0, .d (.str t)), (3, .ref 0 0 0), (30, .d (.int .i64 t.length)), (31, .d (.int .i64 k))] ∧ σ = ⟨1, [(0, .bld 77 5 ((t.take k).filter kept))]⟩)
    ⟨0, rfl, Nat.zero_le _, rfl, rfl⟩ (Mv.of [.old 0] rfl rfl rfl ⟨⟨rfl, rfl, rfl⟩, trivial⟩ ⟨rfl, ⟨rfl, rfl, rfl⟩, rfl, rfl, trivial⟩) ?_
  rintro _ _ _ ⟨k, rfl, hk, rfl, rfl⟩
  refine ⟨fun h => ?_, fun h => ?_⟩
  · have hlt : k < t.length := by have := of_decide_eq_true h; omega
    have hg : t.getD ((k : Nat) : Int).toNat 0 = t[k] := by rw [Int.toNat_natCast, List.getD_eq_getElem?_getD, List.getElem?_eq_getElem hlt, Option.getD_some]
    have step : ∀ b, kept t[k] = b → (t.take (k + 1)).filter kept = (t.take k).filter kept ++ (if b then [t[k]] else []) := by
      intro b hb
      rw [List.take_succ_eq_append_getElem hlt, List.filter_append]
      cases b <;> simp [hb]
    have skip : ∀ {s0 : St} {σ0 : Store}, kept t[k] = false → True := fun _ => trivial
    refine ⟨⟨by omega, by omega⟩, ⟨fun h9 => ?_, fun h9 => ?_⟩⟩
    · have hkp : kept t[k] = false := by have := of_decide_eq_true h9; rw [hg] at this; simp [kept]; omega
      refine .inl ⟨⟨by omega, by omega⟩, _, _, _, ⟨k + 1, rfl, hlt, rfl, rfl⟩, by omega, Mv.of [.old 0] rfl rfl rfl ⟨⟨rfl, rfl, ?_⟩, trivial⟩ ⟨rfl, ⟨rfl, rfl, rfl⟩, rfl, rfl, trivial⟩⟩
      rw [step _ hkp]; simp
    · refine ⟨fun h10 => ?_, fun h10 => ?_⟩
      · have hkp : kept t[k] = false := by have := of_decide_eq_true h10; rw [hg] at this; simp [kept]; omega
        refine .inl ⟨⟨by omega, by omega⟩, _, _, _, ⟨k + 1, rfl, hlt, rfl, rfl⟩, by omega, Mv.of [.old 0] rfl rfl rfl ⟨⟨rfl, rfl, ?_⟩, trivial⟩ ⟨rfl, ⟨rfl, rfl, rfl⟩, rfl, rfl, trivial⟩⟩
        rw [step _ hkp]; simp
      · refine ⟨fun h13 => ?_, fun h13 => ?_⟩
        · have hkp : kept t[k] = false := by have := of_decide_eq_true h13; rw [hg] at this; simp [kept]; omega
          refine .inl ⟨⟨by omega, by omega⟩, _, _, _, ⟨k + 1, rfl, hlt, rfl, rfl⟩, by omega, Mv.of [.old 0] rfl rfl rfl ⟨⟨rfl, rfl, ?_⟩, trivial⟩ ⟨rfl, ⟨rfl, rfl, rfl⟩, rfl, rfl, trivial⟩⟩
          rw [step _ hkp]; simp
        · have hkp : kept t[k] = true := by
            have h1 := of_decide_eq_false h9; have h2 := of_decide_eq_false h10; have h3 := of_decide_eq_false h13
            rw [hg] at h1 h2 h3; simp [kept]; omega
          have hlen : ((t.take k).filter kept).length ≤ k := Nat.le_trans (List.length_filter_le _ _) (by simp; omega)
          refine ⟨⟨by omega, by omega⟩, CallsAbs.frame (WriteByte_ok ((t.take k).filter kept) (t.getD ((k : Nat) : Int).toNat 0) (by omega)) [.old 0] ⟨Nat.zero_le _, rfl, rfl, ⟨⟨rfl, rfl, rfl⟩, trivial⟩⟩ ⟨⟨rfl, rfl, rfl⟩, rfl, trivial⟩ ?_⟩
          rintro _ _ ⟨rfl, rfl⟩
          refine ⟨.nili, [(0, .bld 77 5 ((t.take (k + 1)).filter kept))], ⟨⟨rfl, rfl, ?_⟩, trivial⟩, rfl, trivial, ?_⟩
          · rw [step _ hkp, hg]; rfl
          · exact .inl ⟨⟨by omega, by omega⟩, _, _, _, ⟨k + 1, rfl, hlt, rfl, rfl⟩, by omega, Mv.of [.old 0] rfl rfl rfl ⟨⟨rfl, rfl, rfl⟩, trivial⟩ ⟨rfl, ⟨rfl, rfl, rfl⟩, rfl, rfl, trivial⟩⟩
  · have hk' : k = t.length := by have := of_decide_eq_false h; omega
    subst hk'
    rw [List.take_length]
    have hlen : (t.filter kept).length ≤ t.length := List.length_filter_le _ _
    refine CallsAbs.frame (String_ok (t.filter kept) (by omega)) [.old 0] ⟨Nat.zero_le _, rfl, rfl, ⟨⟨rfl, rfl, rfl⟩, trivial⟩⟩ ⟨⟨rfl, rfl, rfl⟩, trivial⟩ ?_
    rintro _ _ ⟨rfl, rfl⟩
    refine ⟨.d (.str (t.filter kept)), [(0, .dead)], ⟨trivial, trivial⟩, rfl, rfl, ?_⟩
    refine ⟨.d (.str (bare s)), ⟨0, []⟩, fin_mv [] rfl rfl rfl trivial ?_, rfl, rfl⟩
    exact congrArg D.str (by rw [bare, ← ht])
theorem trimL_drop (s : List UInt8) (k : Nat) (h : k < s.length) : trimL (s.drop k) = if sp s[k] then trimL (s.drop (k + 1)) else s.drop k := by
  unfold trimL
  rw [List.drop_eq_getElem_cons h, List.dropWhile_cons]
theorem cut_snoc (s : List UInt8) (k e : Nat) (h1 : k < e) (h2 : e ≤ s.length) : (s.take e).drop k = (s.take (e - 1)).drop k ++ [s[e - 1]] := by
  have h3 : e - 1 < s.length := by omega
  have := List.take_succ_eq_append_getElem h3
  rw [show e - 1 + 1 = e by omega] at this
  rw [this, List.drop_append_of_le_length (by simp; omega)]
theorem cut_snoc1 (s : List UInt8) (k i : Nat) (h1 : k ≤ i) (h2 : i < s.length) : (s.take (i + 1)).drop k = (s.take i).drop k ++ [s[i]] := by
  rw [List.take_succ_eq_append_getElem h2, List.drop_append_of_le_length (by simp; omega)]
set_option maxRecDepth 10000 in
theorem rBare_ok (s : List UInt8) (hs : s.length ≤ 4611686018427387903) : PureC Tryd.prog 59 [.d (.str s)] (.d (.str (bare s))) := by
  refine PureC.of rfl rfl (fn_okTE Tryd.wf Tryd.tab_ok Tryd.func59 (by decide +kernel) rfl rfl ?_)
  refine E.seq (E.of Tryd.wf Tryd.tab_ok ?_)
  refine E.seq (E.of Tryd.wf Tryd.tab_ok ?_)
  refine midT Tryd.wf Tryd.tab_ok (fun s' σ => ∃ k : Nat, k ≤ s.length ∧ s.drop k = trimL s ∧ s' = [(0, .d (.str s)), (3, .d (.int .i64 k))] ∧ σ = ⟨0, []⟩) ?_ ?_
  · refine loopT Tryd.wf Tryd.tab_ok (fun n s' σ => ∃ k : Nat, n = s.length - k ∧ k ≤ s.length ∧ trimL (s.drop k) = trimL s ∧ s' = [(0, .d (.str s)), (3, .d (.int .i64 k))] ∧ σ = ⟨0, []⟩) ⟨0, rfl, Nat.zero_le _, rfl, rfl, rfl⟩ (Mv.of [] rfl rfl rfl trivial ⟨rfl, rfl, trivial⟩) ?_
    rintro _ _ _ ⟨k, rfl, hk, ht, rfl, rfl⟩
    refine ⟨fun h => ?_, fun h => ?_⟩
    · have hlt : k < s.length := by have := of_decide_eq_true h; omega
      rw [trimL_drop s k hlt] at ht
      refine ⟨⟨by omega, by omega⟩, ⟨fun h2 => ?_, fun h2 => ?_⟩⟩
      · have h3 := of_decide_eq_true h2
        rw [getD_at s k hlt] at h3
        have hsp : sp s[k] = true := by simp [sp]; omega
        rw [if_pos hsp] at ht
        exact .inl ⟨⟨by omega, by omega⟩, _, _, _, ⟨k + 1, rfl, hlt, ht, rfl, rfl⟩, by omega, Mv.of [] rfl rfl rfl trivial ⟨rfl, rfl, trivial⟩⟩
      · have h3 := of_decide_eq_false h2
        rw [getD_at s k hlt] at h3
        have hsp : ¬ sp s[k] = true := by simp [sp]; omega
        rw [if_neg hsp] at ht
        exact ⟨_, _, ⟨k, hk, ht, rfl, rfl⟩, Mv.of [] rfl rfl rfl trivial ⟨rfl, rfl, trivial⟩⟩
    · have hk' : k = s.length := by have := of_decide_eq_false h; omega
      subst hk'
      refine ⟨_, _, ⟨s.length, hk, ?_, rfl, rfl⟩, Mv.of [] rfl rfl rfl trivial ⟨rfl, rfl, trivial⟩⟩
      rw [← ht]; simp [trimL]
  rintro _ _ ⟨k, hk, hkt, rfl, rfl⟩
  refine E.seq (E.of Tryd.wf Tryd.tab_ok ?_)
  refine midT Tryd.wf Tryd.tab_ok (fun s' σ => ∃ e : Nat, k ≤ e ∧ e ≤ s.length ∧ (s.take e).drop k = trimR (trimL s) ∧ s' = [(0, .d (.str s)), (3, .d (.int .i64 k)), (4, .d (.int .i64 e))] ∧ σ = ⟨0, []⟩) ?_ ?_
  · refine loopT Tryd.wf Tryd.tab_ok (fun n s' σ => ∃ e : Nat, n = 0 + e ∧ k ≤ e ∧ e ≤ s.length ∧ trimR ((s.take e).drop k) = trimR (trimL s) ∧ s' = [(0, .d (.str s)), (3, .d (.int .i64 k)), (4, .d (.int .i64 e))] ∧ σ = ⟨0, []⟩) ⟨s.length, rfl, hk, Nat.le_refl _, by rw [List.take_length, hkt], rfl, rfl⟩ (Mv.of [] rfl rfl rfl trivial ⟨rfl, rfl, rfl, trivial⟩) ?_
    rintro _ _ _ ⟨e, rfl, hke, he, ht, rfl, rfl⟩
    refine ⟨fun h => ?_, fun h => ?_⟩
    · have hlt : k < e := by have := of_decide_eq_true h; omega
      have e1 : ((e : Nat) : Int) - 1 = ((e - 1 : Nat) : Int) := by omega
      have hget := getD_at s (e - 1) (by omega)
      rw [← e1] at hget
      refine .inl ⟨⟨by omega, by omega⟩, ⟨by omega, by omega⟩, ⟨fun h2 => ?_, fun h2 => ?_⟩⟩
      · have h3 := of_decide_eq_true h2
        rw [hget] at h3
        have hsp : sp s[e - 1] = true := by simp [sp]; omega
        rw [cut_snoc s k e hlt he, trimR_snoc, if_pos hsp] at ht
        exact .inl ⟨⟨by omega, by omega⟩, _, _, _, ⟨e - 1, rfl, by omega, by omega, ht, rfl, rfl⟩, by omega, Mv.of [] rfl rfl rfl trivial ⟨rfl, rfl, congrArg (D.int .i64) e1.symm, trivial⟩⟩
      · have h3 := of_decide_eq_false h2
        rw [hget] at h3
        have hsp : ¬ sp s[e - 1] = true := by simp [sp]; omega
        rw [cut_snoc s k e hlt he, trimR_snoc, if_neg hsp, ← cut_snoc s k e hlt he] at ht
        exact ⟨_, _, ⟨e, hke, he, ht, rfl, rfl⟩, Mv.of [] rfl rfl rfl trivial ⟨rfl, rfl, rfl, trivial⟩⟩
    · have hk' : e = k := by have := of_decide_eq_false h; omega
      subst hk'
      refine ⟨_, _, ⟨e, hke, he, ?_, rfl, rfl⟩, Mv.of [] rfl rfl rfl trivial ⟨rfl, rfl, rfl, trivial⟩⟩
      have h0 : (s.take e).drop e = [] := List.drop_eq_nil_of_le (by simp; omega)
      rw [h0] at ht ⊢
      rw [← ht]; rfl
  rintro _ _ ⟨e, hke, he, het, rfl, rfl⟩
  refine E.of Tryd.wf Tryd.tab_ok ?_
  refine loopT Tryd.wf Tryd.tab_ok (fun n s' σ => ∃ i : Nat, n = e - i ∧ k ≤ i ∧ i ≤ e ∧ s' = [(0, .d (.str s)), (4, .d (.int .i64 e)), (5, .d (.str (((s.take i).drop k).filter kept))), (6, .d (.int .i64 i))] ∧ σ = ⟨0, []⟩)
    ⟨k, rfl, Nat.le_refl _, hke, rfl, rfl⟩ (Mv.of [] rfl rfl rfl trivial ⟨rfl, rfl, congrArg D.str (by rw [List.drop_eq_nil_of_le (by simp; omega)]; rfl), rfl, trivial⟩) ?_
  rintro _ _ _ ⟨i, rfl, hki, hie, rfl, rfl⟩
  refine ⟨fun h => ?_, fun h => ?_⟩
  · have hlt : i < e := by have := of_decide_eq_true h; omega
    have hg := getD_at s i (by omega)
    have step : ∀ b, kept s[i] = b → ((s.take (i + 1)).drop k).filter kept = ((s.take i).drop k).filter kept ++ (if b then [s[i]] else []) := by
      intro b hb
      rw [cut_snoc1 s k i hki (by omega), List.filter_append]
      cases b <;> simp [hb]
    refine ⟨⟨by omega, by omega⟩, ⟨fun h9 => ?_, fun h9 => ?_⟩⟩
    · refine ⟨⟨by omega, by omega⟩, ⟨fun h10 => ?_, fun h10 => ?_⟩⟩
      · refine ⟨⟨by omega, by omega⟩, ⟨fun h13 => ?_, fun h13 => ?_⟩⟩
        · have hkp : kept s[i] = true := by
            rw [hg] at h9 h10 h13
            simp at h9 h10 h13
            simp [kept]; omega
          have hlen : (((s.take i).drop k).filter kept).length ≤ s.length := Nat.le_trans (List.length_filter_le _ _) (by simp; omega)
          have e2 : ((s.take ((i : Int) + 1).toNat).drop ((i : Nat) : Int).toNat) = [s[i]] := by
            rw [Int.toNat_natCast, show ((i : Int) + 1).toNat = i + 1 by omega, cut_snoc1 s i i (Nat.le_refl _) (by omega)]
            simp
          refine .inl ⟨⟨by omega, by omega⟩, ⟨by omega, by omega, by omega⟩, ?_, .inl ⟨⟨by omega, by omega⟩, _, _, _, ⟨i + 1, rfl, by omega, hlt, rfl, rfl⟩, by omega, Mv.of [] rfl rfl rfl trivial ⟨rfl, rfl, congrArg D.str ?_, rfl, trivial⟩⟩⟩
          · rw [e2]; simp; omega
          · rw [step _ hkp]; show _ = _ ++ _; rw [e2]; rfl
        · have hkp : kept s[i] = false := by
            rw [hg] at h13
            simp at h13
            simp [kept]; omega
          exact .inl ⟨⟨by omega, by omega⟩, _, _, _, ⟨i + 1, rfl, by omega, hlt, rfl, rfl⟩, by omega, Mv.of [] rfl rfl rfl trivial ⟨rfl, rfl, congrArg D.str (by rw [step _ hkp]; simp), rfl, trivial⟩⟩
      · have hkp : kept s[i] = false := by
          rw [hg] at h10
          simp at h10
          simp [kept]; omega
        exact .inl ⟨⟨by omega, by omega⟩, _, _, _, ⟨i + 1, rfl, by omega, hlt, rfl, rfl⟩, by omega, Mv.of [] rfl rfl rfl trivial ⟨rfl, rfl, congrArg D.str (by rw [step _ hkp]; simp), rfl, trivial⟩⟩
    · have hkp : kept s[i] = false := by
        rw [hg] at h9
        simp at h9
        simp [kept]; omega
      exact .inl ⟨⟨by omega, by omega⟩, _, _, _, ⟨i + 1, rfl, by omega, hlt, rfl, rfl⟩, by omega, Mv.of [] rfl rfl rfl trivial ⟨rfl, rfl, congrArg D.str (by rw [step _ hkp]; simp), rfl, trivial⟩⟩
  · have hie' : i = e := by have := of_decide_eq_false h; omega
    subst hie'
    refine ⟨.d (.str (bare s)), ⟨0, []⟩, fin_mv [] rfl rfl rfl trivial (congrArg D.str ?_), rfl, rfl⟩
    rw [bare, ← het]
def letter (c : UInt8) : Bool := decide (97 ≤ c.toNat) && decide (c.toNat ≤ 122)
def tailc (c : UInt8) : Bool := (decide (48 ≤ c.toNat) && decide (c.toNat ≤ 57)) || decide (c.toNat = 43) || decide (c.toNat = 45) || decide (c.toNat = 46)
def scan (acc : List UInt8) : List UInt8 → Option (List UInt8)
  | [] => none
  | c :: r => if letter c then scan (acc ++ [c]) r else if acc = [] then none else if c.toNat = 58 then some acc else if tailc c then scan (acc ++ [c]) r else none
def schemeO (s : List UInt8) : Option (List UInt8) := scan [] (lower (bare s))
def schemeS (s : List UInt8) : List UInt8 := (schemeO s).getD []
def schemeB (s : List UInt8) : Bool := (schemeO s).isSome
theorem bare_len (s : List UInt8) : (bare s).length ≤ s.length := by
  have h1 : (trimL s).length ≤ s.length := (List.dropWhile_suffix _).length_le
  have h2 : (trimR (trimL s)).length ≤ (trimL s).length := by
    unfold trimR
    rw [List.length_reverse]
    exact Nat.le_trans (List.dropWhile_suffix _).length_le (by simp)
  exact Nat.le_trans (List.length_filter_le _ _) (Nat.le_trans h2 h1)
theorem lower_len (s : List UInt8) : (lower s).length = s.length := by simp [lower]
/-- What the scan does at a place. -/
theorem scan_at (b : List UInt8) (k : Nat) (h : k < b.length) : scan (b.take k) (b.drop k) =
    if letter b[k] then scan (b.take (k + 1)) (b.drop (k + 1)) else if k = 0 then none else if b[k].toNat = 58 then some (b.take k) else if tailc b[k] then scan (b.take (k + 1)) (b.drop (k + 1)) else none := by
  rw [List.drop_eq_getElem_cons h, scan, ← List.take_succ_eq_append_getElem h]
  have : b.take k = [] ↔ k = 0 := by
    rw [List.take_eq_nil_iff]
    constructor
    · rintro (h | h)
      · exact h
      · subst h; simp at h
    · exact .inl
  simp only [this]
theorem scan_end (b : List UInt8) : scan (b.take b.length) (b.drop b.length) = none := by
  rw [List.drop_length]; rfl
def schemeV (s : List UInt8) : AV := .tup [.d (.str (schemeS s)), .d (.bool (schemeB s))]
theorem schemeV_none {s : List UInt8} (h : schemeO s = none) : schemeV s = .tup [.d (.str []), .d (.bool false)] := by simp [schemeV, schemeS, schemeB, h]
theorem schemeV_some {s x : List UInt8} (h : schemeO s = some x) : schemeV s = .tup [.d (.str x), .d (.bool true)] := by simp [schemeV, schemeS, schemeB, h]
set_option maxRecDepth 10000 in
theorem Scheme_ok (s : List UInt8) (hs : s.length ≤ 140737488355328) : PureC Tryd.prog 34 [.d (.str s)] (schemeV s) := by
  refine pure_okT Tryd.wf Tryd.tab_ok Tryd.func34 (by decide +kernel) rfl rfl rfl rfl ?_
  refine PureC.use (Bare_ok s (by omega) hs) (PureC.use (Lower_ok (bare s) (by have := bare_len s; omega)) ?_)
  generalize hb : lower (bare s) = b
  have hO : schemeO s = scan [] b := by rw [schemeO, hb]
  have hbl : b.length ≤ 140737488355328 := by rw [← hb, lower_len]; have := bare_len s; omega
  refine loopT Tryd.wf Tryd.tab_ok (fun n s' σ => ∃ k : Nat, n = b.length - k ∧ k ≤ b.length ∧ schemeO s = scan (b.take k) (b.drop k) ∧ s' = [(4, .d (.str b)), (11, .d (.int .i64 b.length)), (12, .d (.int .i64 k))] ∧ σ = ⟨0, []⟩)
    ⟨0, rfl, Nat.zero_le _, hO, rfl, rfl⟩ (Mv.of [] rfl rfl rfl trivial ⟨rfl, rfl, rfl, trivial⟩) ?_
  rintro _ _ _ ⟨k, rfl, hk, hI, rfl, rfl⟩
  have no : schemeO s = none → ∃ r2 σ2, FinMove ⟨0, []⟩ (.tup [.d (.str []), .d (.bool false)]) ⟨0, []⟩ r2 σ2 ∧ r2 = schemeV s := fun h => ⟨_, _, FinMove.refl _ _ _, (schemeV_none h).symm⟩
  refine ⟨fun h => ?_, fun h => ?_⟩
  · have hlt : k < b.length := by have := of_decide_eq_true h; omega
    have hg := getD_at b k hlt
    have hu := b[k].toNat_lt
    rw [scan_at b k hlt] at hI
    have go : schemeO s = scan (b.take (k + 1)) (b.drop (k + 1)) → (∃ k' : Nat, b.length - (k + 1) = b.length - k' ∧ k' ≤ b.length ∧ schemeO s = scan (b.take k') (b.drop k') ∧ [(4, .d (.str b)), (11, .d (.int .i64 b.length)), (12, .d (.int .i64 ((k + 1 : Nat) : Int)))] = [(4, AV.d (.str b)), (11, .d (.int .i64 b.length)), (12, .d (.int .i64 k'))] ∧ (⟨0, []⟩ : Store) = ⟨0, []⟩) :=
      fun h => ⟨k + 1, rfl, hlt, h, rfl, rfl⟩
    -- behind the test for a letter
    have rest : letter b[k] = false → schemeO s = if k = 0 then none else if b[k].toNat = 58 then some (b.take k) else if tailc b[k] then scan (b.take (k + 1)) (b.drop (k + 1)) else none := fun hle => by rw [hI]; simp [hle]
    have hT : ∀ {p : Int → Prop} [DecidablePred p], decide (p ((b.getD ((k : Nat) : Int).toNat 0).toNat : Int)) = true → p (b[k].toNat : Int) := fun {p} _ h => by rw [hg] at h; exact of_decide_eq_true h
    have hF : ∀ {p : Int → Prop} [DecidablePred p], decide (p ((b.getD ((k : Nat) : Int).toNat 0).toNat : Int)) = false → ¬ p (b[k].toNat : Int) := fun {p} _ h => by rw [hg] at h; exact of_decide_eq_false h
    refine ⟨⟨by omega, by omega⟩, ⟨fun h1 => ⟨fun h2 => ?_, fun h2 => ?_⟩, fun h1 => ?_⟩⟩
    · have h1' := hT (p := fun x => 97 ≤ x) h1
      have h2' := hT (p := fun x => x ≤ 122) h2
      have hle : letter b[k] = true := by simp [letter]; omega
      rw [if_pos hle] at hI
      exact .inl ⟨⟨by omega, by omega⟩, _, _, _, go hI, by omega, Mv.of [] rfl rfl rfl trivial ⟨rfl, rfl, rfl, trivial⟩⟩
    all_goals
      have hr := rest (by first | (have := hT (p := fun x => 97 ≤ x) h1; have := hF (p := fun x => x ≤ 122) h2; simp [letter]; omega) | (have := hF (p := fun x => 97 ≤ x) h1; simp [letter]; omega))
      refine ⟨fun h0 => ?_, fun h0 => ?_⟩
      · have h0' := of_decide_eq_true h0
        exact no (by rw [hr, if_pos (by omega)])
      · have h0' := of_decide_eq_false h0
        rw [if_neg (by omega)] at hr
        refine ⟨fun h58 => ?_, fun h58 => ?_⟩
        · have h58' := hT (p := fun x => x = 58) h58
          rw [if_pos (by omega)] at hr
          exact ⟨⟨by omega, by omega, by omega⟩, _, _, FinMove.refl _ _ _, (schemeV_some hr).symm⟩
        · have h58' := hF (p := fun x => x = 58) h58
          rw [if_neg (by omega)] at hr
          refine ⟨fun h48 => ⟨fun h57 => ⟨fun h43 => ⟨fun h45 => ⟨fun h46 => ?_, fun h46 => ?_⟩, fun h45 => ?_⟩, fun h43 => ?_⟩, fun h57 => ?_⟩, fun h48 => ⟨fun h43 => ⟨fun h45 => ⟨fun h46 => ?_, fun h46 => ?_⟩, fun h45 => ?_⟩, fun h43 => ?_⟩⟩
          · have := hT (p := fun x => x = 46) h46
            exact .inl ⟨⟨by omega, by omega⟩, _, _, _, go (by rw [hr, if_pos (by simp [tailc]; omega)]), by omega, Mv.of [] rfl rfl rfl trivial ⟨rfl, rfl, rfl, trivial⟩⟩
          · have := hF (p := fun x => x = 46) h46; have := hF (p := fun x => x = 45) h45; have := hF (p := fun x => x = 43) h43; have := hF (p := fun x => x ≤ 57) h57
            exact no (by rw [hr, if_neg (by simp [tailc]; omega)])
          · have := hT (p := fun x => x = 45) h45
            exact .inl ⟨⟨by omega, by omega⟩, _, _, _, go (by rw [hr, if_pos (by simp [tailc]; omega)]), by omega, Mv.of [] rfl rfl rfl trivial ⟨rfl, rfl, rfl, trivial⟩⟩
          · have := hT (p := fun x => x = 43) h43
            exact .inl ⟨⟨by omega, by omega⟩, _, _, _, go (by rw [hr, if_pos (by simp [tailc]; omega)]), by omega, Mv.of [] rfl rfl rfl trivial ⟨rfl, rfl, rfl, trivial⟩⟩
          · have := hT (p := fun x => x ≤ 57) h57; have := hT (p := fun x => 48 ≤ x) h48
            exact .inl ⟨⟨by omega, by omega⟩, _, _, _, go (by rw [hr, if_pos (by simp [tailc]; omega)]), by omega, Mv.of [] rfl rfl rfl trivial ⟨rfl, rfl, rfl, trivial⟩⟩
          · have := hT (p := fun x => x = 46) h46
            exact .inl ⟨⟨by omega, by omega⟩, _, _, _, go (by rw [hr, if_pos (by simp [tailc]; omega)]), by omega, Mv.of [] rfl rfl rfl trivial ⟨rfl, rfl, rfl, trivial⟩⟩
          · have := hF (p := fun x => x = 46) h46; have := hF (p := fun x => x = 45) h45; have := hF (p := fun x => x = 43) h43; have := hF (p := fun x => 48 ≤ x) h48
            exact no (by rw [hr, if_neg (by simp [tailc]; omega)])
          · have := hT (p := fun x => x = 45) h45
            exact .inl ⟨⟨by omega, by omega⟩, _, _, _, go (by rw [hr, if_pos (by simp [tailc]; omega)]), by omega, Mv.of [] rfl rfl rfl trivial ⟨rfl, rfl, rfl, trivial⟩⟩
          · have := hT (p := fun x => x = 43) h43
            exact .inl ⟨⟨by omega, by omega⟩, _, _, _, go (by rw [hr, if_pos (by simp [tailc]; omega)]), by omega, Mv.of [] rfl rfl rfl trivial ⟨rfl, rfl, rfl, trivial⟩⟩
  · have hk' : k = b.length := by have := of_decide_eq_false h; omega
    subst hk'
    exact no (hI.trans (scan_end b))
def stop (c : UInt8) (k : Nat) : Bool := !letter c && (decide (k = 0) || !tailc c)
set_option maxRecDepth 10000 in
theorem rScheme_ok (s : List UInt8) (hs : s.length ≤ 140737488355328) : PureC Tryd.prog 58 [.d (.str s)] (schemeV s) := by
  refine pure_okT Tryd.wf Tryd.tab_ok Tryd.func58 (by decide +kernel) rfl rfl rfl rfl ?_
  refine PureC.use (rBare_ok s (by omega)) (PureC.use (rLower_ok (bare s) (by have := bare_len s; omega)) ?_)
  generalize hb : lower (bare s) = b
  have hO : schemeO s = scan [] b := by rw [schemeO, hb]
  have hbl : b.length ≤ 140737488355328 := by rw [← hb, lower_len]; have := bare_len s; omega
  refine loopE (fun n s' σ => ∃ k : Nat, n = b.length - k ∧ k ≤ b.length ∧ schemeO s = scan (b.take k) (b.drop k) ∧ s' = [(4, .d (.str b)), (5, .d (.int .i64 k))] ∧ σ = ⟨0, []⟩)
    ⟨0, rfl, Nat.zero_le _, hO, rfl, rfl⟩ (Mv.of [] rfl rfl rfl trivial ⟨rfl, rfl, trivial⟩) ?_
  rintro _ _ _ ⟨k, rfl, hk, hI, rfl, rfl⟩
  have no : schemeO s = none → ∃ r2 σ2, FinMove ⟨0, []⟩ (.tup [.d (.str []), .d (.bool false)]) ⟨0, []⟩ r2 σ2 ∧ r2 = schemeV s := fun h => ⟨_, _, FinMove.refl _ _ _, (schemeV_none h).symm⟩
  refine E.seq (E.of Tryd.wf Tryd.tab_ok ?_)
  refine ⟨fun h => ?_, fun h => ?_⟩
  · have hlt : k < b.length := by have := of_decide_eq_true h; omega
    have hg := getD_at b k hlt
    have hu := b[k].toNat_lt
    rw [scan_at b k hlt] at hI
    clear h
    refine E.seq (blockE ?_)
    refine E.seq (E.of Tryd.wf Tryd.tab_ok ?_)
    refine ⟨⟨by omega, by omega⟩, ?_⟩
    refine midT Tryd.wf Tryd.tab_ok (fun s' σ => s' = [(4, .d (.str b)), (5, .d (.int .i64 k)), (6, .d (.int .u8 b[k].toNat)), (7, .d (.bool (letter b[k])))] ∧ σ = ⟨0, []⟩) ?_ ?_
    · refine ⟨fun h1 => ?_, fun h1 => ?_⟩
      · rw [hg] at h1
        have := of_decide_eq_true h1
        refine ⟨_, _, ⟨rfl, rfl⟩, Mv.of [] rfl rfl rfl trivial ⟨rfl, rfl, congrArg (fun x : UInt8 => D.int .u8 x.toNat) hg.symm, congrArg D.bool (Bool.eq_iff_iff.2 ?_), trivial⟩⟩
        rw [hg]; simp [letter]; omega
      · rw [hg] at h1
        have := of_decide_eq_false h1
        refine ⟨_, _, ⟨rfl, rfl⟩, Mv.of [] rfl rfl rfl trivial ⟨rfl, rfl, congrArg (fun x : UInt8 => D.int .u8 x.toNat) hg.symm, congrArg D.bool ?_, trivial⟩⟩
        simp [letter]; omega
    rintro _ _ ⟨rfl, rfl⟩
    refine midT Tryd.wf Tryd.tab_ok (fun s' σ => ¬ (b[k].toNat = 58 ∧ 0 < k) ∧ s' = [(4, .d (.str b)), (5, .d (.int .i64 k)), (6, .d (.int .u8 b[k].toNat)), (7, .d (.bool (letter b[k])))] ∧ σ = ⟨0, []⟩) ?_ ?_
    · refine ⟨fun h1 => ⟨fun h2 => ?_, fun h2 => ?_⟩, fun h1 => ?_⟩
      · have h1' := of_decide_eq_true h1
        have h2' := of_decide_eq_true h2
        have hr : schemeO s = some (b.take k) := by rw [hI, if_neg (by simp [letter]; omega), if_neg (by omega), if_pos (by omega)]
        exact ⟨⟨by omega, by omega, by omega⟩, _, _, FinMove.refl _ _ _, (schemeV_some hr).symm⟩
      · have h2' := of_decide_eq_false h2
        exact ⟨_, _, ⟨by omega, rfl, rfl⟩, Mv.of [] rfl rfl rfl trivial ⟨rfl, rfl, rfl, rfl, trivial⟩⟩
      · have h1' := of_decide_eq_false h1
        exact ⟨_, _, ⟨by omega, rfl, rfl⟩, Mv.of [] rfl rfl rfl trivial ⟨rfl, rfl, rfl, rfl, trivial⟩⟩
    rintro _ _ ⟨hn, rfl, rfl⟩
    refine midK Tryd.wf Tryd.tab_ok (fun s' σ => s' = [(4, .d (.str b)), (5, .d (.int .i64 k)), (61, .d (.bool (stop b[k] k)))] ∧ σ = ⟨0, []⟩) ?_ ?_
    · intro K' _ hK
      refine ⟨fun n => ⟨fun z => ⟨fun d48 => ⟨fun d57 => ⟨fun e43 => ⟨fun e45 => ?_, fun e45 => ?_⟩, fun e43 => ?_⟩, fun d57 => ?_⟩, fun d48 => ⟨fun e43 => ⟨fun e45 => ?_, fun e45 => ?_⟩, fun e43 => ?_⟩⟩, fun z => ?_⟩, fun n => ?_⟩
      all_goals
        simp only [Bool.not_eq_true', Bool.not_eq_false', Bool.not_eq_eq_eq_not, Bool.not_true, Bool.not_false] at n
        try simp only [decide_eq_true_eq, decide_eq_false_iff_not] at z
        try simp only [decide_eq_true_eq, decide_eq_false_iff_not] at d48
        try simp only [decide_eq_true_eq, decide_eq_false_iff_not, Bool.not_eq_true', Bool.not_eq_false', Bool.not_eq_eq_eq_not, Bool.not_true, Bool.not_false] at d57
        try simp only [decide_eq_true_eq, decide_eq_false_iff_not, Bool.not_eq_true', Bool.not_eq_false', Bool.not_eq_eq_eq_not, Bool.not_true, Bool.not_false] at e43
        try simp only [decide_eq_true_eq, decide_eq_false_iff_not, Bool.not_eq_true', Bool.not_eq_false', Bool.not_eq_eq_eq_not, Bool.not_true, Bool.not_false] at e45
        refine hK _ _ _ _ ⟨rfl, rfl⟩ (Mv.of [] rfl rfl rfl trivial ⟨rfl, rfl, congrArg D.bool (Bool.eq_iff_iff.2 ?_), trivial⟩)
        simp [stop, tailc, n]
        try omega
    rintro _ _ ⟨rfl, rfl⟩
    refine E.of Tryd.wf Tryd.tab_ok ?_
    refine ⟨fun h => ?_, fun h => ?_⟩
    · refine no ?_
      simp only [stop, Bool.and_eq_true, Bool.or_eq_true, Bool.not_eq_true', decide_eq_true_eq] at h
      rw [hI, h.1, if_neg (by simp)]
      rcases h.2 with h2 | h2
      · rw [if_pos h2]
      · by_cases hk0 : k = 0
        · rw [if_pos hk0]
        · rw [if_neg hk0, if_neg (by omega), h2, if_neg (by simp)]
    · have hnx : schemeO s = scan (b.take (k + 1)) (b.drop (k + 1)) := by
        rw [hI]
        cases hl : letter b[k] with
        | true => rfl
        | false =>
          simp only [stop, hl, Bool.not_false, Bool.true_and, Bool.or_eq_false_iff, Bool.not_eq_false', decide_eq_false_iff_not] at h
          rw [if_neg (by simp), if_neg h.1, if_neg (by omega), h.2, if_pos rfl]
      refine E.of Tryd.wf Tryd.tab_ok ?_
      exact .inl ⟨⟨by omega, by omega⟩, _, _, _, ⟨k + 1, rfl, hlt, hnx, rfl, rfl⟩, by omega, Mv.of [] rfl rfl rfl trivial ⟨rfl, rfl, trivial⟩⟩
  · have hk' : k = b.length := by have := of_decide_eq_false h; omega
    subst hk'
    exact no (hI.trans (scan_end b))
def badc (c : UInt8) : Bool := decide (c.toNat < 32) || decide (c.toNat = 92) || decide (c.toNat = 127)
def allowed (s : List UInt8) (l : List (List UInt8)) : Bool := if schemeB s then decide (schemeS s ∈ l) else !hasPre (bare s) [47, 47] && (bare s).all fun c => !badc c
theorem all_split (b : List UInt8) (k : Nat) (h : k < b.length) : (b.drop k).all (fun c => !badc c) = (!badc b[k] && (b.drop (k + 1)).all fun c => !badc c) := by
  rw [List.drop_eq_getElem_cons h, List.all_cons]
set_option maxRecDepth 10000 in
theorem Allowed_ok (s : List UInt8) (l : List (List UInt8)) (hs : s.length ≤ 140737488355328) (hl : l.length ≤ 4611686018427387903) : PureC Tryd.prog 16 [.d (.str s), .d (.sl (strsD l))] (.d (.bool (allowed s l))) := by
  refine pure_okT Tryd.wf Tryd.tab_ok Tryd.func16 (by decide +kernel) rfl rfl rfl rfl ?_
  refine PureC.use (Scheme_ok s hs) ⟨fun h => ?_, fun h => ?_⟩
  · have hb : schemeB s = true := h
    exact PureC.use (Contains_ok l (schemeS s) hl) ⟨_, _, FinMove.refl _ _ _, congrArg (fun b => AV.d (.bool b)) (by rw [allowed, if_pos hb])⟩
  · have hb : ¬ schemeB s = true := by rw [show schemeB s = false from h]; simp
    have hal : allowed s l = (!hasPre (bare s) [47, 47] && (bare s).all fun c => !badc c) := by rw [allowed, if_neg hb]
    have hbl := bare_len s
    refine PureC.use (Bare_ok s (by omega) hs) (PureC.use (HasPrefix_ok (bare s) [47, 47]) ⟨fun h2 => ?_, fun h2 => ?_⟩)
    · exact ⟨_, _, FinMove.refl _ _ _, congrArg (fun b => AV.d (.bool b)) (by rw [hal, h2]; rfl)⟩
    · rw [h2] at hal
      generalize bare s = b at *
      refine loopT Tryd.wf Tryd.tab_ok (fun n s' σ => ∃ k : Nat, n = b.length - k ∧ k ≤ b.length ∧ allowed s l = ((b.drop k).all fun c => !badc c) ∧ s' = [(7, .d (.str b)), (23, .d (.int .i64 b.length)), (24, .d (.int .i64 k))] ∧ σ = ⟨0, []⟩)
        ⟨0, rfl, Nat.zero_le _, by rw [hal]; simp, rfl, rfl⟩ (Mv.of [] rfl rfl rfl trivial ⟨rfl, rfl, rfl, trivial⟩) ?_
      rintro _ _ _ ⟨k, rfl, hk, hI, rfl, rfl⟩
      have no : allowed s l = false → ∃ r2 σ2, FinMove ⟨0, []⟩ (.d (.bool false)) ⟨0, []⟩ r2 σ2 ∧ r2 = AV.d (.bool (allowed s l)) := fun h => ⟨_, _, FinMove.refl _ _ _, by rw [h]⟩
      refine ⟨fun h3 => ?_, fun h3 => ?_⟩
      · have hlt : k < b.length := by have := of_decide_eq_true h3; omega
        have hg := getD_at b k hlt
        rw [all_split b k hlt] at hI
        clear h3
        refine ⟨⟨by omega, by omega⟩, ⟨fun a => ⟨⟨by omega, by omega⟩, ⟨fun c => ⟨⟨by omega, by omega⟩, ⟨fun d => ?_, fun d => ?_⟩⟩, fun c => ?_⟩⟩, fun a => ?_⟩⟩
        all_goals
          try simp only [hg, decide_eq_true_eq, decide_eq_false_iff_not] at a
          try simp only [hg, decide_eq_true_eq, decide_eq_false_iff_not] at c
          try simp only [hg, decide_eq_true_eq, decide_eq_false_iff_not] at d
        · exact no (by rw [hI]; simp [badc]; omega)
        · refine .inl ⟨⟨by omega, by omega⟩, _, _, _, ⟨k + 1, rfl, hlt, ?_, rfl, rfl⟩, by omega, Mv.of [] rfl rfl rfl trivial ⟨rfl, rfl, rfl, trivial⟩⟩
          have : badc b[k] = false := by simp [badc]; omega
          rw [hI, this]; rfl
        · exact no (by rw [hI]; simp [badc]; omega)
        · exact no (by rw [hI]; simp [badc]; omega)
      · have hk' : k = b.length := by have := of_decide_eq_false h3; omega
        subst hk'
        exact ⟨_, _, FinMove.refl _ _ _, congrArg (fun b => AV.d (.bool b)) (by rw [hI]; simp)⟩
set_option maxRecDepth 10000 in
theorem rAllowed_ok (s : List UInt8) (l : List (List UInt8)) (hs : s.length ≤ 140737488355328) (hl : l.length ≤ 4611686018427387903) : PureC Tryd.prog 27 [.d (.str s), .d (.sl (strsD l))] (.d (.bool (allowed s l))) := by
  refine pure_okT Tryd.wf Tryd.tab_ok Tryd.func27 (by decide +kernel) rfl rfl rfl rfl ?_
  have hn := strsD_len l
  refine PureC.use (rScheme_ok s hs) ⟨fun h => ?_, fun h => ?_⟩
  · have hb : schemeB s = true := h
    have hal : allowed s l = decide (schemeS s ∈ l) := by rw [allowed, if_pos hb]
    refine loopT Tryd.wf Tryd.tab_ok (fun n s' σ => ∃ k : Nat, n = l.length - k ∧ k ≤ l.length ∧ (∀ j (h : j < k) (h2 : j < l.length), l[j] ≠ schemeS s) ∧ s' = [(1, .d (.sl (strsD l))), (5, .d (.str (schemeS s))), (7, .d (.int .i64 k))] ∧ σ = ⟨0, []⟩)
      ⟨0, rfl, Nat.zero_le _, fun j h => absurd h (by omega), rfl, rfl⟩ (Mv.of [] rfl rfl rfl trivial ⟨rfl, rfl, rfl, trivial⟩) ?_
    rintro _ _ _ ⟨k, rfl, hk, hI, rfl, rfl⟩
    refine ⟨fun h3 => ?_, fun h3 => ?_⟩
    · have hlt : k < l.length := by have := of_decide_eq_true h3; rw [hn] at this; omega
      refine ⟨⟨by omega, by rw [hn]; omega⟩, _, strsD_get l k hlt, rfl, _, rfl, ⟨fun h1 => ?_, fun h1 => ?_⟩⟩
      · have h1' := of_decide_eq_true h1
        refine ⟨_, _, FinMove.refl _ _ _, congrArg (fun b => AV.d (.bool b)) ?_⟩
        rw [hal, ← h1']; simp
      · have h1' := of_decide_eq_false h1
        exact .inl ⟨⟨by omega, by omega⟩, _, _, _, ⟨k + 1, rfl, hlt, fun j hj h2 => by
          by_cases e : j = k
          · subst e; exact h1'
          · exact hI j (by omega) h2, rfl, rfl⟩, by omega, Mv.of [] rfl rfl rfl trivial ⟨rfl, rfl, rfl, trivial⟩⟩
    · have hk' : k = l.length := by have := of_decide_eq_false h3; rw [hn] at this; omega
      subst hk'
      refine ⟨_, _, FinMove.refl _ _ _, congrArg (fun b => AV.d (.bool b)) ?_⟩
      rw [hal]
      refine (decide_eq_false fun hm => ?_).symm
      obtain ⟨j, hj, e⟩ := List.mem_iff_getElem.1 hm
      exact hI j hj hj e
  · have hb : ¬ schemeB s = true := by rw [show schemeB s = false from h]; simp
    have hal : allowed s l = (!hasPre (bare s) [47, 47] && (bare s).all fun c => !badc c) := by rw [allowed, if_neg hb]
    have hbl := bare_len s
    refine PureC.use (rBare_ok s (by omega)) ?_
    generalize bare s = b at *
    have no : allowed s l = false → ∃ r2 σ2, FinMove ⟨0, []⟩ (.d (.bool false)) ⟨0, []⟩ r2 σ2 ∧ r2 = AV.d (.bool (allowed s l)) := fun h => ⟨_, _, FinMove.refl _ _ _, by rw [h]⟩
    refine ⟨fun h2 => ⟨⟨by omega, by omega, ?_⟩, ⟨fun h4 => ?_, fun h4 => ?_⟩⟩, fun h2 => ?_⟩
    · have := of_decide_eq_true h2; omega
    · have h4' := of_decide_eq_true h4
      have h2' := of_decide_eq_true h2
      refine no ?_
      have : hasPre b [47, 47] = true := by
        simp only [hasPre, Bool.and_eq_true, decide_eq_true_eq]
        exact ⟨by show 2 ≤ b.length; omega, h4'⟩
      rw [hal, this]; rfl
    all_goals
      have hpre : hasPre b [47, 47] = false := by
        first
        | (have h4' := of_decide_eq_false h4
           simp only [hasPre, Bool.and_eq_false_iff, decide_eq_false_iff_not]
           exact .inr h4')
        | (have h2' := of_decide_eq_false h2
           simp only [hasPre, Bool.and_eq_false_iff, decide_eq_false_iff_not]
           exact .inl (by show ¬ 2 ≤ b.length; omega))
      rw [hpre] at hal
      refine loopT Tryd.wf Tryd.tab_ok (fun n s' σ => ∃ k : Nat, n = b.length - k ∧ k ≤ b.length ∧ allowed s l = ((b.drop k).all fun c => !badc c) ∧ s' = [(8, .d (.str b)), (9, .d (.int .i64 k))] ∧ σ = ⟨0, []⟩)
        ⟨0, rfl, Nat.zero_le _, by rw [hal]; simp, rfl, rfl⟩ (Mv.of [] rfl rfl rfl trivial ⟨rfl, rfl, trivial⟩) ?_
      rintro _ _ _ ⟨k, rfl, hk, hI, rfl, rfl⟩
      refine ⟨fun h3 => ?_, fun h3 => ?_⟩
      · have hlt : k < b.length := by have := of_decide_eq_true h3; omega
        have hg := getD_at b k hlt
        rw [all_split b k hlt] at hI
        clear h3
        refine ⟨⟨by omega, by omega⟩, ⟨fun a => ⟨⟨by omega, by omega⟩, ⟨fun c => ⟨⟨by omega, by omega⟩, ⟨fun d => ?_, fun d => ?_⟩⟩, fun c => ?_⟩⟩, fun a => ?_⟩⟩
        all_goals
          try simp only [hg, decide_eq_true_eq, decide_eq_false_iff_not] at a
          try simp only [hg, decide_eq_true_eq, decide_eq_false_iff_not] at c
          try simp only [hg, decide_eq_true_eq, decide_eq_false_iff_not] at d
        · exact no (by rw [hI]; simp [badc]; omega)
        · refine .inl ⟨⟨by omega, by omega⟩, _, _, _, ⟨k + 1, rfl, hlt, ?_, rfl, rfl⟩, by omega, Mv.of [] rfl rfl rfl trivial ⟨rfl, rfl, trivial⟩⟩
          have : badc b[k] = false := by simp [badc]; omega
          rw [hI, this]; rfl
        · exact no (by rw [hI]; simp [badc]; omega)
        · exact no (by rw [hI]; simp [badc]; omega)
      · have hk' : k = b.length := by have := of_decide_eq_false h3; omega
        subst hk'
        exact ⟨_, _, FinMove.refl _ _ _, congrArg (fun b => AV.d (.bool b)) (by rw [hI]; simp)⟩
end Go.Proofs.YtfchacihhljfhaaDoor

namespace Go.Proofs.YtfchacihhljfhaaDoor
open Go.Aw
set_option maxHeartbeats 1600000
set_option linter.unusedSimpArgs false
set_option linter.unusedVariables false
def attrP (p : Pol) (el a : List UInt8) : Bool := decide (el ∈ p.el) && (decide ([42, 46] ++ a ∈ p.at') || decide (el ++ [46] ++ a ∈ p.at'))
set_option maxRecDepth 100000 in
theorem Elem_ok (p : Pol) (nm : List UInt8) (hp : Fits p) : PureC Tryd.prog 19 [polA p, .d (.str nm)] (.d (.bool (decide (nm ∈ p.el)))) := by
  have hc1 := Contains_ok p.el nm (by have := hp.el.1; omega)
  refine pure_okT Tryd.wf Tryd.tab_ok Tryd.func19 (by decide +kernel) rfl rfl rfl rfl ?_
  repeat' (first | refine PureC.use hc1 ?_ |                       refine ⟨fun _ => ?_, fun h => absurd h (by decide)⟩ | refine ⟨fun h => absurd h (by decide), fun _ => ?_⟩ | (refine ⟨fun h => ?_, fun h => ?_⟩ <;> (try simp only [decide_eq_true_eq, decide_eq_false_iff_not, Bool.not_eq_true', Bool.not_eq_false', Bool.not_eq_true, Bool.not_eq_false, not_true_eq_false, beq_iff_eq, beq_eq_false_iff_ne, ne_eq, decide_eq_decide, true_iff, false_iff, iff_true, iff_false, true_and, and_true, false_or, or_false, Bool.and_true, Bool.and_eq_true, Bool.and_eq_false_iff, Bool.or_eq_true, Bool.or_eq_false_iff, List.length_cons, List.length_nil] at h) <;> (try (exfalso; first | omega | exact h rfl | (cases h; done) | exact absurd h (by assumption) | exact h (by assumption) | (simp at h; done)))) | refine ⟨⟨by (first | omega | (simp only [lenS]; omega)), by (first | omega | (simp only [lenS]; omega))⟩, _, by assumption, by rfl, ?_⟩ | refine .inl ⟨⟨by (first | omega | (simp only [lenS]; omega)), by (first | omega | (simp only [lenS]; omega))⟩, ?_⟩ | refine ⟨⟨by (first | omega | (simp only [lenS]; omega)), by (first | omega | (simp only [lenS]; omega))⟩, ?_⟩ | refine ⟨⟨by (first | omega | (simp only [lenS]; omega)), by (first | omega | (simp only [lenS]; omega)), by (first | omega | (simp only [lenS]; omega))⟩, ?_⟩ | refine ⟨.inl rfl, ?_⟩ | refine ⟨.inr (.inl (by (first | omega | (simp only [lenS]; omega)))), ?_⟩ | refine ⟨_, rfl, rfl, by (first | exact Nat.le_refl _ | exact Nat.le_of_ble_eq_true rfl | decide), ?_⟩ | refine ⟨_, rfl, by (first | exact Nat.le_refl _ | exact Nat.le_of_ble_eq_true rfl | decide), ?_⟩ | refine ⟨by (first | exact Nat.le_refl _ | exact Nat.le_of_ble_eq_true rfl | decide | exact rfl), ?_⟩ | refine ⟨show _ ≤ (9223372036854775807 : Nat) by (first | omega | (simp only [lenS]; omega)), ?_⟩ | refine ⟨show _ ≠ (0 : Int) by (first | omega | (simp only [lenS]; omega)), ?_⟩ | refine ⟨_, rfl, _, rfl, ?_⟩ | refine ⟨_, by assumption, Nat.le_of_ble_eq_true rfl, ?_⟩ | refine ⟨_, by assumption, _, rfl, ?_⟩ | refine ⟨_, rfl, ?_⟩ | fail)
  exact ⟨_, _, fin_out rfl, rfl⟩
set_option maxRecDepth 100000 in
theorem Attr_ok (p : Pol) (el a : List UInt8) (hp : Fits p) (he : el.length ≤ 1000000) (ha : a.length ≤ 1000000) : PureC Tryd.prog 21 [polA p, .d (.str el), .d (.str a)] (.d (.bool (attrP p el a))) := by
  have hc1 := Elem_ok p el hp
  have hc2 := Contains_ok p.at' ([42, 46] ++ a) (by have := hp.at'.1; omega)
  have hc3 := Contains_ok p.at' (el ++ [46] ++ a) (by have := hp.at'.1; omega)
  unfold attrP
  by_cases h1 : el ∈ p.el
  · rw [decide_eq_true h1] at hc1 ⊢
    by_cases h2 : [42, 46] ++ a ∈ p.at'
    · rw [decide_eq_true h2] at hc2 ⊢
      refine pure_okT Tryd.wf Tryd.tab_ok Tryd.func21 (by decide +kernel) rfl rfl rfl rfl ?_
      repeat' (first | refine PureC.use hc1 ?_ | refine PureC.use hc2 ?_ | refine PureC.use hc3 ?_ |                     refine ⟨fun _ => ?_, fun h => absurd h (by decide)⟩ | refine ⟨fun h => absurd h (by decide), fun _ => ?_⟩ | (refine ⟨fun h => ?_, fun h => ?_⟩ <;> (try simp only [decide_eq_true_eq, decide_eq_false_iff_not, Bool.not_eq_true', Bool.not_eq_false', Bool.not_eq_true, Bool.not_eq_false, not_true_eq_false, beq_iff_eq, beq_eq_false_iff_ne, ne_eq, decide_eq_decide, true_iff, false_iff, iff_true, iff_false, true_and, and_true, false_or, or_false, Bool.and_true, Bool.and_eq_true, Bool.and_eq_false_iff, Bool.or_eq_true, Bool.or_eq_false_iff, List.length_cons, List.length_nil] at h) <;> (try (exfalso; first | omega | exact h rfl | (cases h; done) | exact absurd h (by assumption) | exact h (by assumption) | (simp at h; done)))) | refine ⟨⟨by (first | omega | (simp only [lenS]; omega)), by (first | omega | (simp only [lenS]; omega))⟩, _, by assumption, by rfl, ?_⟩ | refine .inl ⟨⟨by (first | omega | (simp only [lenS]; omega)), by (first | omega | (simp only [lenS]; omega))⟩, ?_⟩ | refine ⟨⟨by (first | omega | (simp only [lenS]; omega)), by (first | omega | (simp only [lenS]; omega))⟩, ?_⟩ | refine ⟨⟨by (first | omega | (simp only [lenS]; omega)), by (first | omega | (simp only [lenS]; omega)), by (first | omega | (simp only [lenS]; omega))⟩, ?_⟩ | refine ⟨.inl rfl, ?_⟩ | refine ⟨.inr (.inl (by (first | omega | (simp only [lenS]; omega)))), ?_⟩ | refine ⟨_, rfl, rfl, by (first | exact Nat.le_refl _ | exact Nat.le_of_ble_eq_true rfl | decide), ?_⟩ | refine ⟨_, rfl, by (first | exact Nat.le_refl _ | exact Nat.le_of_ble_eq_true rfl | decide), ?_⟩ | refine ⟨by (first | exact Nat.le_refl _ | exact Nat.le_of_ble_eq_true rfl | decide | exact rfl), ?_⟩ | refine ⟨show _ ≤ (9223372036854775807 : Nat) by (first | omega | (simp only [lenS]; omega)), ?_⟩ | refine ⟨show _ ≠ (0 : Int) by (first | omega | (simp only [lenS]; omega)), ?_⟩ | refine ⟨_, rfl, _, rfl, ?_⟩ | refine ⟨_, by assumption, Nat.le_of_ble_eq_true rfl, ?_⟩ | refine ⟨_, by assumption, _, rfl, ?_⟩ | refine ⟨_, rfl, ?_⟩ | fail)
      exact ⟨_, _, fin_out rfl, rfl⟩
    · rw [decide_eq_false h2] at hc2 ⊢
      refine pure_okT Tryd.wf Tryd.tab_ok Tryd.func21 (by decide +kernel) rfl rfl rfl rfl ?_
      repeat' (first | refine PureC.use hc1 ?_ | refine PureC.use hc2 ?_ | refine PureC.use hc3 ?_ |                     refine ⟨fun _ => ?_, fun h => absurd h (by decide)⟩ | refine ⟨fun h => absurd h (by decide), fun _ => ?_⟩ | (refine ⟨fun h => ?_, fun h => ?_⟩ <;> (try simp only [decide_eq_true_eq, decide_eq_false_iff_not, Bool.not_eq_true', Bool.not_eq_false', Bool.not_eq_true, Bool.not_eq_false, not_true_eq_false, beq_iff_eq, beq_eq_false_iff_ne, ne_eq, decide_eq_decide, true_iff, false_iff, iff_true, iff_false, true_and, and_true, false_or, or_false, Bool.and_true, Bool.and_eq_true, Bool.and_eq_false_iff, Bool.or_eq_true, Bool.or_eq_false_iff, List.length_cons, List.length_nil] at h) <;> (try (exfalso; first | omega | exact h rfl | (cases h; done) | exact absurd h (by assumption) | exact h (by assumption) | (simp at h; done)))) | refine ⟨⟨by (first | omega | (simp only [lenS]; omega)), by (first | omega | (simp only [lenS]; omega))⟩, _, by assumption, by rfl, ?_⟩ | refine .inl ⟨⟨by (first | omega | (simp only [lenS]; omega)), by (first | omega | (simp only [lenS]; omega))⟩, ?_⟩ | refine ⟨⟨by (first | omega | (simp only [lenS]; omega)), by (first | omega | (simp only [lenS]; omega))⟩, ?_⟩ | refine ⟨⟨by (first | omega | (simp only [lenS]; omega)), by (first | omega | (simp only [lenS]; omega)), by (first | omega | (simp only [lenS]; omega))⟩, ?_⟩ | refine ⟨.inl rfl, ?_⟩ | refine ⟨.inr (.inl (by (first | omega | (simp only [lenS]; omega)))), ?_⟩ | refine ⟨_, rfl, rfl, by (first | exact Nat.le_refl _ | exact Nat.le_of_ble_eq_true rfl | decide), ?_⟩ | refine ⟨_, rfl, by (first | exact Nat.le_refl _ | exact Nat.le_of_ble_eq_true rfl | decide), ?_⟩ | refine ⟨by (first | exact Nat.le_refl _ | exact Nat.le_of_ble_eq_true rfl | decide | exact rfl), ?_⟩ | refine ⟨show _ ≤ (9223372036854775807 : Nat) by (first | omega | (simp only [lenS]; omega)), ?_⟩ | refine ⟨show _ ≠ (0 : Int) by (first | omega | (simp only [lenS]; omega)), ?_⟩ | refine ⟨_, rfl, _, rfl, ?_⟩ | refine ⟨_, by assumption, Nat.le_of_ble_eq_true rfl, ?_⟩ | refine ⟨_, by assumption, _, rfl, ?_⟩ | refine ⟨_, rfl, ?_⟩ | fail)
      exact ⟨_, _, fin_out rfl, congrArg (fun b => AV.d (.bool b)) (by simp)⟩
  · rw [decide_eq_false h1] at hc1 ⊢
    refine pure_okT Tryd.wf Tryd.tab_ok Tryd.func21 (by decide +kernel) rfl rfl rfl rfl ?_
    repeat' (first | refine PureC.use hc1 ?_ | refine PureC.use hc2 ?_ | refine PureC.use hc3 ?_ |                     refine ⟨fun _ => ?_, fun h => absurd h (by decide)⟩ | refine ⟨fun h => absurd h (by decide), fun _ => ?_⟩ | (refine ⟨fun h => ?_, fun h => ?_⟩ <;> (try simp only [decide_eq_true_eq, decide_eq_false_iff_not, Bool.not_eq_true', Bool.not_eq_false', Bool.not_eq_true, Bool.not_eq_false, not_true_eq_false, beq_iff_eq, beq_eq_false_iff_ne, ne_eq, decide_eq_decide, true_iff, false_iff, iff_true, iff_false, true_and, and_true, false_or, or_false, Bool.and_true, Bool.and_eq_true, Bool.and_eq_false_iff, Bool.or_eq_true, Bool.or_eq_false_iff, List.length_cons, List.length_nil] at h) <;> (try (exfalso; first | omega | exact h rfl | (cases h; done) | exact absurd h (by assumption) | exact h (by assumption) | (simp at h; done)))) | refine ⟨⟨by (first | omega | (simp only [lenS]; omega)), by (first | omega | (simp only [lenS]; omega))⟩, _, by assumption, by rfl, ?_⟩ | refine .inl ⟨⟨by (first | omega | (simp only [lenS]; omega)), by (first | omega | (simp only [lenS]; omega))⟩, ?_⟩ | refine ⟨⟨by (first | omega | (simp only [lenS]; omega)), by (first | omega | (simp only [lenS]; omega))⟩, ?_⟩ | refine ⟨⟨by (first | omega | (simp only [lenS]; omega)), by (first | omega | (simp only [lenS]; omega)), by (first | omega | (simp only [lenS]; omega))⟩, ?_⟩ | refine ⟨.inl rfl, ?_⟩ | refine ⟨.inr (.inl (by (first | omega | (simp only [lenS]; omega)))), ?_⟩ | refine ⟨_, rfl, rfl, by (first | exact Nat.le_refl _ | exact Nat.le_of_ble_eq_true rfl | decide), ?_⟩ | refine ⟨_, rfl, by (first | exact Nat.le_refl _ | exact Nat.le_of_ble_eq_true rfl | decide), ?_⟩ | refine ⟨by (first | exact Nat.le_refl _ | exact Nat.le_of_ble_eq_true rfl | decide | exact rfl), ?_⟩ | refine ⟨show _ ≤ (9223372036854775807 : Nat) by (first | omega | (simp only [lenS]; omega)), ?_⟩ | refine ⟨show _ ≠ (0 : Int) by (first | omega | (simp only [lenS]; omega)), ?_⟩ | refine ⟨_, rfl, _, rfl, ?_⟩ | refine ⟨_, by assumption, Nat.le_of_ble_eq_true rfl, ?_⟩ | refine ⟨_, by assumption, _, rfl, ?_⟩ | refine ⟨_, rfl, ?_⟩ | fail)
    exact ⟨_, _, fin_out rfl, rfl⟩
set_option maxRecDepth 100000 in
theorem rAttr_ok (p : Pol) (el a : List UInt8) (hp : Fits p) (he : el.length ≤ 1000000) (ha : a.length ≤ 1000000) : PureC Tryd.prog 25 [polA p, .d (.str el), .d (.str a)] (.d (.bool (attrP p el a))) := by
  have hc1 := rHas_ok p.el el (by have := hp.el.1; omega)
  have hc2 := rHas_ok p.at' ([42, 46] ++ a) (by have := hp.at'.1; omega)
  have hc3 := rHas_ok p.at' (el ++ [46] ++ a) (by have := hp.at'.1; omega)
  unfold attrP
  by_cases h1 : el ∈ p.el
  · rw [decide_eq_true h1] at hc1 ⊢
    by_cases h2 : [42, 46] ++ a ∈ p.at'
    · rw [decide_eq_true h2] at hc2 ⊢
      refine pure_okT Tryd.wf Tryd.tab_ok Tryd.func25 (by decide +kernel) rfl rfl rfl rfl ?_
      repeat' (first | refine PureC.use hc1 ?_ | refine PureC.use hc2 ?_ | refine PureC.use hc3 ?_ |                     refine ⟨fun _ => ?_, fun h => absurd h (by decide)⟩ | refine ⟨fun h => absurd h (by decide), fun _ => ?_⟩ | (refine ⟨fun h => ?_, fun h => ?_⟩ <;> (try simp only [decide_eq_true_eq, decide_eq_false_iff_not, Bool.not_eq_true', Bool.not_eq_false', Bool.not_eq_true, Bool.not_eq_false, not_true_eq_false, beq_iff_eq, beq_eq_false_iff_ne, ne_eq, decide_eq_decide, true_iff, false_iff, iff_true, iff_false, true_and, and_true, false_or, or_false, Bool.and_true, Bool.and_eq_true, Bool.and_eq_false_iff, Bool.or_eq_true, Bool.or_eq_false_iff, List.length_cons, List.length_nil] at h) <;> (try (exfalso; first | omega | exact h rfl | (cases h; done) | exact absurd h (by assumption) | exact h (by assumption) | (simp at h; done)))) | refine ⟨⟨by (first | omega | (simp only [lenS]; omega)), by (first | omega | (simp only [lenS]; omega))⟩, _, by assumption, by rfl, ?_⟩ | refine .inl ⟨⟨by (first | omega | (simp only [lenS]; omega)), by (first | omega | (simp only [lenS]; omega))⟩, ?_⟩ | refine ⟨⟨by (first | omega | (simp only [lenS]; omega)), by (first | omega | (simp only [lenS]; omega))⟩, ?_⟩ | refine ⟨⟨by (first | omega | (simp only [lenS]; omega)), by (first | omega | (simp only [lenS]; omega)), by (first | omega | (simp only [lenS]; omega))⟩, ?_⟩ | refine ⟨.inl rfl, ?_⟩ | refine ⟨.inr (.inl (by (first | omega | (simp only [lenS]; omega)))), ?_⟩ | refine ⟨_, rfl, rfl, by (first | exact Nat.le_refl _ | exact Nat.le_of_ble_eq_true rfl | decide), ?_⟩ | refine ⟨_, rfl, by (first | exact Nat.le_refl _ | exact Nat.le_of_ble_eq_true rfl | decide), ?_⟩ | refine ⟨by (first | exact Nat.le_refl _ | exact Nat.le_of_ble_eq_true rfl | decide | exact rfl), ?_⟩ | refine ⟨show _ ≤ (9223372036854775807 : Nat) by (first | omega | (simp only [lenS]; omega)), ?_⟩ | refine ⟨show _ ≠ (0 : Int) by (first | omega | (simp only [lenS]; omega)), ?_⟩ | refine ⟨_, rfl, _, rfl, ?_⟩ | refine ⟨_, by assumption, Nat.le_of_ble_eq_true rfl, ?_⟩ | refine ⟨_, by assumption, _, rfl, ?_⟩ | refine ⟨_, rfl, ?_⟩ | fail)
      exact ⟨_, _, fin_out rfl, rfl⟩
    · rw [decide_eq_false h2] at hc2 ⊢
      refine pure_okT Tryd.wf Tryd.tab_ok Tryd.func25 (by decide +kernel) rfl rfl rfl rfl ?_
      repeat' (first | refine PureC.use hc1 ?_ | refine PureC.use hc2 ?_ | refine PureC.use hc3 ?_ |                     refine ⟨fun _ => ?_, fun h => absurd h (by decide)⟩ | refine ⟨fun h => absurd h (by decide), fun _ => ?_⟩ | (refine ⟨fun h => ?_, fun h => ?_⟩ <;> (try simp only [decide_eq_true_eq, decide_eq_false_iff_not, Bool.not_eq_true', Bool.not_eq_false', Bool.not_eq_true, Bool.not_eq_false, not_true_eq_false, beq_iff_eq, beq_eq_false_iff_ne, ne_eq, decide_eq_decide, true_iff, false_iff, iff_true, iff_false, true_and, and_true, false_or, or_false, Bool.and_true, Bool.and_eq_true, Bool.and_eq_false_iff, Bool.or_eq_true, Bool.or_eq_false_iff, List.length_cons, List.length_nil] at h) <;> (try (exfalso; first | omega | exact h rfl | (cases h; done) | exact absurd h (by assumption) | exact h (by assumption) | (simp at h; done)))) | refine ⟨⟨by (first | omega | (simp only [lenS]; omega)), by (first | omega | (simp only [lenS]; omega))⟩, _, by assumption, by rfl, ?_⟩ | refine .inl ⟨⟨by (first | omega | (simp only [lenS]; omega)), by (first | omega | (simp only [lenS]; omega))⟩, ?_⟩ | refine ⟨⟨by (first | omega | (simp only [lenS]; omega)), by (first | omega | (simp only [lenS]; omega))⟩, ?_⟩ | refine ⟨⟨by (first | omega | (simp only [lenS]; omega)), by (first | omega | (simp only [lenS]; omega)), by (first | omega | (simp only [lenS]; omega))⟩, ?_⟩ | refine ⟨.inl rfl, ?_⟩ | refine ⟨.inr (.inl (by (first | omega | (simp only [lenS]; omega)))), ?_⟩ | refine ⟨_, rfl, rfl, by (first | exact Nat.le_refl _ | exact Nat.le_of_ble_eq_true rfl | decide), ?_⟩ | refine ⟨_, rfl, by (first | exact Nat.le_refl _ | exact Nat.le_of_ble_eq_true rfl | decide), ?_⟩ | refine ⟨by (first | exact Nat.le_refl _ | exact Nat.le_of_ble_eq_true rfl | decide | exact rfl), ?_⟩ | refine ⟨show _ ≤ (9223372036854775807 : Nat) by (first | omega | (simp only [lenS]; omega)), ?_⟩ | refine ⟨show _ ≠ (0 : Int) by (first | omega | (simp only [lenS]; omega)), ?_⟩ | refine ⟨_, rfl, _, rfl, ?_⟩ | refine ⟨_, by assumption, Nat.le_of_ble_eq_true rfl, ?_⟩ | refine ⟨_, by assumption, _, rfl, ?_⟩ | refine ⟨_, rfl, ?_⟩ | fail)
      exact ⟨_, _, fin_out rfl, congrArg (fun b => AV.d (.bool b)) (by simp)⟩
  · rw [decide_eq_false h1] at hc1 ⊢
    refine pure_okT Tryd.wf Tryd.tab_ok Tryd.func25 (by decide +kernel) rfl rfl rfl rfl ?_
    repeat' (first | refine PureC.use hc1 ?_ | refine PureC.use hc2 ?_ | refine PureC.use hc3 ?_ |                     refine ⟨fun _ => ?_, fun h => absurd h (by decide)⟩ | refine ⟨fun h => absurd h (by decide), fun _ => ?_⟩ | (refine ⟨fun h => ?_, fun h => ?_⟩ <;> (try simp only [decide_eq_true_eq, decide_eq_false_iff_not, Bool.not_eq_true', Bool.not_eq_false', Bool.not_eq_true, Bool.not_eq_false, not_true_eq_false, beq_iff_eq, beq_eq_false_iff_ne, ne_eq, decide_eq_decide, true_iff, false_iff, iff_true, iff_false, true_and, and_true, false_or, or_false, Bool.and_true, Bool.and_eq_true, Bool.and_eq_false_iff, Bool.or_eq_true, Bool.or_eq_false_iff, List.length_cons, List.length_nil] at h) <;> (try (exfalso; first | omega | exact h rfl | (cases h; done) | exact absurd h (by assumption) | exact h (by assumption) | (simp at h; done)))) | refine ⟨⟨by (first | omega | (simp only [lenS]; omega)), by (first | omega | (simp only [lenS]; omega))⟩, _, by assumption, by rfl, ?_⟩ | refine .inl ⟨⟨by (first | omega | (simp only [lenS]; omega)), by (first | omega | (simp only [lenS]; omega))⟩, ?_⟩ | refine ⟨⟨by (first | omega | (simp only [lenS]; omega)), by (first | omega | (simp only [lenS]; omega))⟩, ?_⟩ | refine ⟨⟨by (first | omega | (simp only [lenS]; omega)), by (first | omega | (simp only [lenS]; omega)), by (first | omega | (simp only [lenS]; omega))⟩, ?_⟩ | refine ⟨.inl rfl, ?_⟩ | refine ⟨.inr (.inl (by (first | omega | (simp only [lenS]; omega)))), ?_⟩ | refine ⟨_, rfl, rfl, by (first | exact Nat.le_refl _ | exact Nat.le_of_ble_eq_true rfl | decide), ?_⟩ | refine ⟨_, rfl, by (first | exact Nat.le_refl _ | exact Nat.le_of_ble_eq_true rfl | decide), ?_⟩ | refine ⟨by (first | exact Nat.le_refl _ | exact Nat.le_of_ble_eq_true rfl | decide | exact rfl), ?_⟩ | refine ⟨show _ ≤ (9223372036854775807 : Nat) by (first | omega | (simp only [lenS]; omega)), ?_⟩ | refine ⟨show _ ≠ (0 : Int) by (first | omega | (simp only [lenS]; omega)), ?_⟩ | refine ⟨_, rfl, _, rfl, ?_⟩ | refine ⟨_, by assumption, Nat.le_of_ble_eq_true rfl, ?_⟩ | refine ⟨_, by assumption, _, rfl, ?_⟩ | refine ⟨_, rfl, ?_⟩ | fail)
    exact ⟨_, _, fin_out rfl, rfl⟩
def clsB (l : List (List UInt8)) : List (List UInt8) → List (List UInt8) → Bool
  | _, [] => true
  | seen, c :: r => (!decide (c ∈ seen) && decide (c ∈ l)) && clsB l (c :: seen) r
def seenR : List (List UInt8) → List (AV × AV)
  | [] => []
  | c :: r => mput c (.d (.bool true)) (seenR r)
theorem seenR_keys : ∀ q, strKeys (seenR q)
  | [] => fun e h => by simp [seenR] at h
  | p :: r => strKeys_mputS _ _ _ (seenR_keys r)
theorem seenR_pure : ∀ q, ∀ e ∈ seenR q, e.1.pure = true ∧ e.2.pure = true
  | [] => fun e h => by simp [seenR] at h
  | p :: r => pure_mputS _ _ rfl _ (seenR_pure r)
theorem seenR_look (x : List UInt8) : ∀ q, (mlook x (seenR q)).getD (.d (.bool false)) = .d (.bool (decide (x ∈ q)))
  | [] => rfl
  | p :: r => by
    rw [seenR, mlook_mputS _ _ _ _ (seenR_keys r)]
    by_cases h : x = p
    · rw [if_pos h, h]; simp
    · rw [if_neg h, seenR_look x r]; simp [h]
set_option maxRecDepth 100000 in
set_option maxHeartbeats 1000000 in
theorem classes_ok (v : List UInt8) (l : List (List UInt8)) (hv : v.length ≤ 1000000) (hl : l.length ≤ 1000000) : PureC Tryd.prog 22 [.d (.str v), .d (.sl (strsD l))] (.d (.bool (clsB l [] (splitB 32 v)))) := by
  have hc1 := Split_ok 32 v (by omega)
  have hn := strsD_len (splitB 32 v)
  have hcnt := splitB_len 32 v
  have hcl := List.count_le_length (a := 32) (l := v)
  generalize splitB 32 v = ps at *
  refine pure_okT Tryd.wf Tryd.tab_ok Tryd.func22 (by decide +kernel) rfl rfl rfl rfl ?_
  repeat' (first | refine PureC.use hc1 ?_ | refine PureC.use hc2 ?_ |                      refine ⟨fun _ => ?_, fun h => absurd h (by decide)⟩ | refine ⟨fun h => absurd h (by decide), fun _ => ?_⟩ | (refine ⟨fun h => ?_, fun h => ?_⟩ <;> (try simp only [decide_eq_true_eq, decide_eq_false_iff_not, Bool.not_eq_true', Bool.not_eq_false', Bool.not_eq_true, Bool.not_eq_false, not_true_eq_false, beq_iff_eq, beq_eq_false_iff_ne, ne_eq, decide_eq_decide, true_iff, false_iff, iff_true, iff_false, true_and, and_true, false_or, or_false, Bool.and_true, Bool.and_eq_true, Bool.and_eq_false_iff, Bool.or_eq_true, Bool.or_eq_false_iff, List.length_cons, List.length_nil] at h) <;> (try (exfalso; first | omega | exact h rfl | (cases h; done) | exact absurd h (by assumption) | exact h (by assumption) | (simp at h; done)))) | refine ⟨⟨by (first | omega | (simp only [lenS]; omega)), by (first | omega | (simp only [lenS]; omega))⟩, _, by assumption, by rfl, ?_⟩ | refine .inl ⟨⟨by (first | omega | (simp only [lenS]; omega)), by (first | omega | (simp only [lenS]; omega))⟩, ?_⟩ | refine ⟨⟨by (first | omega | (simp only [lenS]; omega)), by (first | omega | (simp only [lenS]; omega))⟩, ?_⟩ | refine ⟨⟨by (first | omega | (simp only [lenS]; omega)), by (first | omega | (simp only [lenS]; omega)), by (first | omega | (simp only [lenS]; omega))⟩, ?_⟩ | refine ⟨.inl rfl, ?_⟩ | refine ⟨.inr (.inl (by (first | omega | (simp only [lenS]; omega)))), ?_⟩ | refine ⟨_, rfl, rfl, by (first | exact Nat.le_refl _ | exact Nat.le_of_ble_eq_true rfl | decide), ?_⟩ | refine ⟨_, rfl, by (first | exact Nat.le_refl _ | exact Nat.le_of_ble_eq_true rfl | decide), ?_⟩ | refine ⟨by (first | exact Nat.le_refl _ | exact Nat.le_of_ble_eq_true rfl | decide | exact rfl), ?_⟩ | refine ⟨show _ ≤ (9223372036854775807 : Nat) by (first | omega | (simp only [lenS]; omega)), ?_⟩ | refine ⟨show _ ≠ (0 : Int) by (first | omega | (simp only [lenS]; omega)), ?_⟩ | refine ⟨_, rfl, _, rfl, ?_⟩ | refine ⟨_, by assumption, Nat.le_of_ble_eq_true rfl, ?_⟩ | refine ⟨_, by assumption, _, rfl, ?_⟩ | refine ⟨_, rfl, ?_⟩ | fail)
  refine loopT Tryd.wf Tryd.tab_ok (fun n s' σ => ∃ (k : Nat) (q : List (List UInt8)), n = ps.length - k ∧ k ≤ ps.length ∧ clsB l [] ps = clsB l q (ps.drop k) ∧ s' = [(1, .d (.sl (strsD l))), (5, .mp 0), (10, .d (.sl (strsD ps))), (11, .d (.int .i64 ps.length)), (12, .d (.int .i64 k))] ∧ σ = ⟨1, [(0, .map (seenR q))]⟩)
    ⟨0, [], rfl, Nat.zero_le _, rfl, rfl, rfl⟩ (Mv.of [.old 0] rfl rfl rfl ⟨.inl ⟨rfl, seenR_pure _⟩, trivial⟩ ⟨rfl, rfl, rfl, congrArg (fun n : Nat => D.int .i64 n) hn.symm, rfl, trivial⟩) ?_
  rintro _ _ _ ⟨k, q, rfl, hk, hI, rfl, rfl⟩
  by_cases hlt : k < ps.length
  · have hg := strsD_get ps k hlt
    rw [List.drop_eq_getElem_cons hlt, clsB] at hI
    have hc2 := Contains_ok l ps[k] (by omega)
    generalize ps[k] = p at *
    repeat' (first | refine PureC.use hc1 ?_ | refine PureC.use hc2 ?_ |                      refine ⟨fun _ => ?_, fun h => absurd h (by decide)⟩ | refine ⟨fun h => absurd h (by decide), fun _ => ?_⟩ | (refine ⟨fun h => ?_, fun h => ?_⟩ <;> (try simp only [decide_eq_true_eq, decide_eq_false_iff_not, Bool.not_eq_true', Bool.not_eq_false', Bool.not_eq_true, Bool.not_eq_false, not_true_eq_false, beq_iff_eq, beq_eq_false_iff_ne, ne_eq, decide_eq_decide, true_iff, false_iff, iff_true, iff_false, true_and, and_true, false_or, or_false, Bool.and_true, Bool.and_eq_true, Bool.and_eq_false_iff, Bool.or_eq_true, Bool.or_eq_false_iff, List.length_cons, List.length_nil] at h) <;> (try (exfalso; first | omega | exact h rfl | (cases h; done) | exact absurd h (by assumption) | exact h (by assumption) | (simp at h; done)))) | refine ⟨⟨by (first | omega | (simp only [lenS]; omega)), by (first | omega | (simp only [lenS]; omega))⟩, _, by assumption, by rfl, ?_⟩ | refine .inl ⟨⟨by (first | omega | (simp only [lenS]; omega)), by (first | omega | (simp only [lenS]; omega))⟩, ?_⟩ | refine ⟨⟨by (first | omega | (simp only [lenS]; omega)), by (first | omega | (simp only [lenS]; omega))⟩, ?_⟩ | refine ⟨⟨by (first | omega | (simp only [lenS]; omega)), by (first | omega | (simp only [lenS]; omega)), by (first | omega | (simp only [lenS]; omega))⟩, ?_⟩ | refine ⟨.inl rfl, ?_⟩ | refine ⟨.inr (.inl (by (first | omega | (simp only [lenS]; omega)))), ?_⟩ | refine ⟨_, rfl, rfl, by (first | exact Nat.le_refl _ | exact Nat.le_of_ble_eq_true rfl | decide), ?_⟩ | refine ⟨_, rfl, by (first | exact Nat.le_refl _ | exact Nat.le_of_ble_eq_true rfl | decide), ?_⟩ | refine ⟨by (first | exact Nat.le_refl _ | exact Nat.le_of_ble_eq_true rfl | decide | exact rfl), ?_⟩ | refine ⟨show _ ≤ (9223372036854775807 : Nat) by (first | omega | (simp only [lenS]; omega)), ?_⟩ | refine ⟨show _ ≠ (0 : Int) by (first | omega | (simp only [lenS]; omega)), ?_⟩ | refine ⟨_, rfl, _, rfl, ?_⟩ | refine ⟨_, by assumption, Nat.le_of_ble_eq_true rfl, ?_⟩ | refine ⟨_, by assumption, _, rfl, ?_⟩ | refine ⟨_, rfl, ?_⟩ | fail)
    refine ⟨_, _, rfl, seenR_keys q, rfl, rfl, ?_⟩
    rw [seenR_look]
    by_cases hin : p ∈ q
    · rw [decide_eq_true hin] at hI ⊢
      repeat' (first | refine PureC.use hc1 ?_ | refine PureC.use hc2 ?_ |                      refine ⟨fun _ => ?_, fun h => absurd h (by decide)⟩ | refine ⟨fun h => absurd h (by decide), fun _ => ?_⟩ | (refine ⟨fun h => ?_, fun h => ?_⟩ <;> (try simp only [decide_eq_true_eq, decide_eq_false_iff_not, Bool.not_eq_true', Bool.not_eq_false', Bool.not_eq_true, Bool.not_eq_false, not_true_eq_false, beq_iff_eq, beq_eq_false_iff_ne, ne_eq, decide_eq_decide, true_iff, false_iff, iff_true, iff_false, true_and, and_true, false_or, or_false, Bool.and_true, Bool.and_eq_true, Bool.and_eq_false_iff, Bool.or_eq_true, Bool.or_eq_false_iff, List.length_cons, List.length_nil] at h) <;> (try (exfalso; first | omega | exact h rfl | (cases h; done) | exact absurd h (by assumption) | exact h (by assumption) | (simp at h; done)))) | refine ⟨⟨by (first | omega | (simp only [lenS]; omega)), by (first | omega | (simp only [lenS]; omega))⟩, _, by assumption, by rfl, ?_⟩ | refine .inl ⟨⟨by (first | omega | (simp only [lenS]; omega)), by (first | omega | (simp only [lenS]; omega))⟩, ?_⟩ | refine ⟨⟨by (first | omega | (simp only [lenS]; omega)), by (first | omega | (simp only [lenS]; omega))⟩, ?_⟩ | refine ⟨⟨by (first | omega | (simp only [lenS]; omega)), by (first | omega | (simp only [lenS]; omega)), by (first | omega | (simp only [lenS]; omega))⟩, ?_⟩ | refine ⟨.inl rfl, ?_⟩ | refine ⟨.inr (.inl (by (first | omega | (simp only [lenS]; omega)))), ?_⟩ | refine ⟨_, rfl, rfl, by (first | exact Nat.le_refl _ | exact Nat.le_of_ble_eq_true rfl | decide), ?_⟩ | refine ⟨_, rfl, by (first | exact Nat.le_refl _ | exact Nat.le_of_ble_eq_true rfl | decide), ?_⟩ | refine ⟨by (first | exact Nat.le_refl _ | exact Nat.le_of_ble_eq_true rfl | decide | exact rfl), ?_⟩ | refine ⟨show _ ≤ (9223372036854775807 : Nat) by (first | omega | (simp only [lenS]; omega)), ?_⟩ | refine ⟨show _ ≠ (0 : Int) by (first | omega | (simp only [lenS]; omega)), ?_⟩ | refine ⟨_, rfl, _, rfl, ?_⟩ | refine ⟨_, by assumption, Nat.le_of_ble_eq_true rfl, ?_⟩ | refine ⟨_, by assumption, _, rfl, ?_⟩ | refine ⟨_, rfl, ?_⟩ | fail)
      exact ⟨_, _, fin_out rfl, congrArg (fun b => AV.d (.bool b)) hI.symm⟩
    · rw [decide_eq_false hin] at hI ⊢
      by_cases hin2 : p ∈ l
      · rw [decide_eq_true hin2] at hI hc2
        repeat' (first | refine PureC.use hc1 ?_ | refine PureC.use hc2 ?_ |                      refine ⟨fun _ => ?_, fun h => absurd h (by decide)⟩ | refine ⟨fun h => absurd h (by decide), fun _ => ?_⟩ | (refine ⟨fun h => ?_, fun h => ?_⟩ <;> (try simp only [decide_eq_true_eq, decide_eq_false_iff_not, Bool.not_eq_true', Bool.not_eq_false', Bool.not_eq_true, Bool.not_eq_false, not_true_eq_false, beq_iff_eq, beq_eq_false_iff_ne, ne_eq, decide_eq_decide, true_iff, false_iff, iff_true, iff_false, true_and, and_true, false_or, or_false, Bool.and_true, Bool.and_eq_true, Bool.and_eq_false_iff, Bool.or_eq_true, Bool.or_eq_false_iff, List.length_cons, List.length_nil] at h) <;> (try (exfalso; first | omega | exact h rfl | (cases h; done) | exact absurd h (by assumption) | exact h (by assumption) | (simp at h; done)))) | refine ⟨⟨by (first | omega | (simp only [lenS]; omega)), by (first | omega | (simp only [lenS]; omega))⟩, _, by assumption, by rfl, ?_⟩ | refine .inl ⟨⟨by (first | omega | (simp only [lenS]; omega)), by (first | omega | (simp only [lenS]; omega))⟩, ?_⟩ | refine ⟨⟨by (first | omega | (simp only [lenS]; omega)), by (first | omega | (simp only [lenS]; omega))⟩, ?_⟩ | refine ⟨⟨by (first | omega | (simp only [lenS]; omega)), by (first | omega | (simp only [lenS]; omega)), by (first | omega | (simp only [lenS]; omega))⟩, ?_⟩ | refine ⟨.inl rfl, ?_⟩ | refine ⟨.inr (.inl (by (first | omega | (simp only [lenS]; omega)))), ?_⟩ | refine ⟨_, rfl, rfl, by (first | exact Nat.le_refl _ | exact Nat.le_of_ble_eq_true rfl | decide), ?_⟩ | refine ⟨_, rfl, by (first | exact Nat.le_refl _ | exact Nat.le_of_ble_eq_true rfl | decide), ?_⟩ | refine ⟨by (first | exact Nat.le_refl _ | exact Nat.le_of_ble_eq_true rfl | decide | exact rfl), ?_⟩ | refine ⟨show _ ≤ (9223372036854775807 : Nat) by (first | omega | (simp only [lenS]; omega)), ?_⟩ | refine ⟨show _ ≠ (0 : Int) by (first | omega | (simp only [lenS]; omega)), ?_⟩ | refine ⟨_, rfl, _, rfl, ?_⟩ | refine ⟨_, by assumption, Nat.le_of_ble_eq_true rfl, ?_⟩ | refine ⟨_, by assumption, _, rfl, ?_⟩ | refine ⟨_, rfl, ?_⟩ | fail)
        refine ⟨seenR_keys _, ?_⟩
        repeat' (first | refine PureC.use hc1 ?_ | refine PureC.use hc2 ?_ |                      refine ⟨fun _ => ?_, fun h => absurd h (by decide)⟩ | refine ⟨fun h => absurd h (by decide), fun _ => ?_⟩ | (refine ⟨fun h => ?_, fun h => ?_⟩ <;> (try simp only [decide_eq_true_eq, decide_eq_false_iff_not, Bool.not_eq_true', Bool.not_eq_false', Bool.not_eq_true, Bool.not_eq_false, not_true_eq_false, beq_iff_eq, beq_eq_false_iff_ne, ne_eq, decide_eq_decide, true_iff, false_iff, iff_true, iff_false, true_and, and_true, false_or, or_false, Bool.and_true, Bool.and_eq_true, Bool.and_eq_false_iff, Bool.or_eq_true, Bool.or_eq_false_iff, List.length_cons, List.length_nil] at h) <;> (try (exfalso; first | omega | exact h rfl | (cases h; done) | exact absurd h (by assumption) | exact h (by assumption) | (simp at h; done)))) | refine ⟨⟨by (first | omega | (simp only [lenS]; omega)), by (first | omega | (simp only [lenS]; omega))⟩, _, by assumption, by rfl, ?_⟩ | refine .inl ⟨⟨by (first | omega | (simp only [lenS]; omega)), by (first | omega | (simp only [lenS]; omega))⟩, ?_⟩ | refine ⟨⟨by (first | omega | (simp only [lenS]; omega)), by (first | omega | (simp only [lenS]; omega))⟩, ?_⟩ | refine ⟨⟨by (first | omega | (simp only [lenS]; omega)), by (first | omega | (simp only [lenS]; omega)), by (first | omega | (simp only [lenS]; omega))⟩, ?_⟩ | refine ⟨.inl rfl, ?_⟩ | refine ⟨.inr (.inl (by (first | omega | (simp only [lenS]; omega)))), ?_⟩ | refine ⟨_, rfl, rfl, by (first | exact Nat.le_refl _ | exact Nat.le_of_ble_eq_true rfl | decide), ?_⟩ | refine ⟨_, rfl, by (first | exact Nat.le_refl _ | exact Nat.le_of_ble_eq_true rfl | decide), ?_⟩ | refine ⟨by (first | exact Nat.le_refl _ | exact Nat.le_of_ble_eq_true rfl | decide | exact rfl), ?_⟩ | refine ⟨show _ ≤ (9223372036854775807 : Nat) by (first | omega | (simp only [lenS]; omega)), ?_⟩ | refine ⟨show _ ≠ (0 : Int) by (first | omega | (simp only [lenS]; omega)), ?_⟩ | refine ⟨_, rfl, _, rfl, ?_⟩ | refine ⟨_, by assumption, Nat.le_of_ble_eq_true rfl, ?_⟩ | refine ⟨_, by assumption, _, rfl, ?_⟩ | refine ⟨_, rfl, ?_⟩ | fail)
        exact ⟨_, _, _, ⟨k + 1, p :: q, rfl, hlt, hI, rfl, rfl⟩, by omega, Mv.of [.old 0] rfl rfl rfl ⟨.inl ⟨rfl, seenR_pure _⟩, trivial⟩ ⟨rfl, rfl, rfl, rfl, rfl, trivial⟩⟩
      · rw [decide_eq_false hin2] at hI hc2
        repeat' (first | refine PureC.use hc1 ?_ | refine PureC.use hc2 ?_ |                      refine ⟨fun _ => ?_, fun h => absurd h (by decide)⟩ | refine ⟨fun h => absurd h (by decide), fun _ => ?_⟩ | (refine ⟨fun h => ?_, fun h => ?_⟩ <;> (try simp only [decide_eq_true_eq, decide_eq_false_iff_not, Bool.not_eq_true', Bool.not_eq_false', Bool.not_eq_true, Bool.not_eq_false, not_true_eq_false, beq_iff_eq, beq_eq_false_iff_ne, ne_eq, decide_eq_decide, true_iff, false_iff, iff_true, iff_false, true_and, and_true, false_or, or_false, Bool.and_true, Bool.and_eq_true, Bool.and_eq_false_iff, Bool.or_eq_true, Bool.or_eq_false_iff, List.length_cons, List.length_nil] at h) <;> (try (exfalso; first | omega | exact h rfl | (cases h; done) | exact absurd h (by assumption) | exact h (by assumption) | (simp at h; done)))) | refine ⟨⟨by (first | omega | (simp only [lenS]; omega)), by (first | omega | (simp only [lenS]; omega))⟩, _, by assumption, by rfl, ?_⟩ | refine .inl ⟨⟨by (first | omega | (simp only [lenS]; omega)), by (first | omega | (simp only [lenS]; omega))⟩, ?_⟩ | refine ⟨⟨by (first | omega | (simp only [lenS]; omega)), by (first | omega | (simp only [lenS]; omega))⟩, ?_⟩ | refine ⟨⟨by (first | omega | (simp only [lenS]; omega)), by (first | omega | (simp only [lenS]; omega)), by (first | omega | (simp only [lenS]; omega))⟩, ?_⟩ | refine ⟨.inl rfl, ?_⟩ | refine ⟨.inr (.inl (by (first | omega | (simp only [lenS]; omega)))), ?_⟩ | refine ⟨_, rfl, rfl, by (first | exact Nat.le_refl _ | exact Nat.le_of_ble_eq_true rfl | decide), ?_⟩ | refine ⟨_, rfl, by (first | exact Nat.le_refl _ | exact Nat.le_of_ble_eq_true rfl | decide), ?_⟩ | refine ⟨by (first | exact Nat.le_refl _ | exact Nat.le_of_ble_eq_true rfl | decide | exact rfl), ?_⟩ | refine ⟨show _ ≤ (9223372036854775807 : Nat) by (first | omega | (simp only [lenS]; omega)), ?_⟩ | refine ⟨show _ ≠ (0 : Int) by (first | omega | (simp only [lenS]; omega)), ?_⟩ | refine ⟨_, rfl, _, rfl, ?_⟩ | refine ⟨_, by assumption, Nat.le_of_ble_eq_true rfl, ?_⟩ | refine ⟨_, by assumption, _, rfl, ?_⟩ | refine ⟨_, rfl, ?_⟩ | fail)
        exact ⟨_, _, fin_out rfl, congrArg (fun b => AV.d (.bool b)) hI.symm⟩
  · have hk' : k = ps.length := by omega
    subst hk'
    rw [List.drop_length] at hI
    rw [hI]
    repeat' (first | refine PureC.use hc1 ?_ | refine PureC.use hc2 ?_ |                      refine ⟨fun _ => ?_, fun h => absurd h (by decide)⟩ | refine ⟨fun h => absurd h (by decide), fun _ => ?_⟩ | (refine ⟨fun h => ?_, fun h => ?_⟩ <;> (try simp only [decide_eq_true_eq, decide_eq_false_iff_not, Bool.not_eq_true', Bool.not_eq_false', Bool.not_eq_true, Bool.not_eq_false, not_true_eq_false, beq_iff_eq, beq_eq_false_iff_ne, ne_eq, decide_eq_decide, true_iff, false_iff, iff_true, iff_false, true_and, and_true, false_or, or_false, Bool.and_true, Bool.and_eq_true, Bool.and_eq_false_iff, Bool.or_eq_true, Bool.or_eq_false_iff, List.length_cons, List.length_nil] at h) <;> (try (exfalso; first | omega | exact h rfl | (cases h; done) | exact absurd h (by assumption) | exact h (by assumption) | (simp at h; done)))) | refine ⟨⟨by (first | omega | (simp only [lenS]; omega)), by (first | omega | (simp only [lenS]; omega))⟩, _, by assumption, by rfl, ?_⟩ | refine .inl ⟨⟨by (first | omega | (simp only [lenS]; omega)), by (first | omega | (simp only [lenS]; omega))⟩, ?_⟩ | refine ⟨⟨by (first | omega | (simp only [lenS]; omega)), by (first | omega | (simp only [lenS]; omega))⟩, ?_⟩ | refine ⟨⟨by (first | omega | (simp only [lenS]; omega)), by (first | omega | (simp only [lenS]; omega)), by (first | omega | (simp only [lenS]; omega))⟩, ?_⟩ | refine ⟨.inl rfl, ?_⟩ | refine ⟨.inr (.inl (by (first | omega | (simp only [lenS]; omega)))), ?_⟩ | refine ⟨_, rfl, rfl, by (first | exact Nat.le_refl _ | exact Nat.le_of_ble_eq_true rfl | decide), ?_⟩ | refine ⟨_, rfl, by (first | exact Nat.le_refl _ | exact Nat.le_of_ble_eq_true rfl | decide), ?_⟩ | refine ⟨by (first | exact Nat.le_refl _ | exact Nat.le_of_ble_eq_true rfl | decide | exact rfl), ?_⟩ | refine ⟨show _ ≤ (9223372036854775807 : Nat) by (first | omega | (simp only [lenS]; omega)), ?_⟩ | refine ⟨show _ ≠ (0 : Int) by (first | omega | (simp only [lenS]; omega)), ?_⟩ | refine ⟨_, rfl, _, rfl, ?_⟩ | refine ⟨_, by assumption, Nat.le_of_ble_eq_true rfl, ?_⟩ | refine ⟨_, by assumption, _, rfl, ?_⟩ | refine ⟨_, rfl, ?_⟩ | fail)
    exact ⟨_, _, fin_out rfl, rfl⟩
end Go.Proofs.YtfchacihhljfhaaDoor
