/- What is proved here serves the claim: the walk over the code and the plain laws, part 13 of 14. -/
import Derived.Test.YtcmkiancbgmmhaaPkSerBuilt12
namespace Go.Proofs.Ytcmkiancbgmmhaa
open Go.Aw
set_option maxHeartbeats 1600000
set_option linter.unusedSimpArgs false
set_option linter.unusedVariables false
def NextK (s : List UInt8) (l : List Tok) (x : List UInt8) (r : AV) (σ' : Store) : Prop := match step x with
  | some (e, r') => r = .d (.bool true) ∧ ((e = [] ∧ σ' = rdS s (s.length - r'.length) l) ∨ (e ≠ [] ∧ σ' = rdS2 s (s.length - r'.length) (l ++ e)))
  | none => ∃ m, m ≤ s.length ∧ r = .d (.bool false) ∧ σ' = rdS s m l
theorem kind_cases {x : List UInt8} (hk : kindL x ≠ 0) : ∃ c r, x = 60 :: c :: r ∧
    ((kindL x = 1 ∧ hasPre x [60, 33, 45, 45] = true ∧ c = 33) ∨
     (hasPre x [60, 33, 45, 45] = false ∧ ((kindL x = 3 ∧ (c = 33 ∨ c = 63)) ∨ (kindL x = 4 ∧ ltrB c = true ∧ c ≠ 47) ∨
       (c = 47 ∧ ∃ d r', r = d :: r' ∧ ((kindL x = 2 ∧ d = 62) ∨ (kindL x = 5 ∧ ltrB d = true ∧ d ≠ 62) ∨ (kindL x = 3 ∧ ltrB d = false ∧ d ≠ 62)))))) := by
  obtain ⟨c, r, rfl⟩ := kind_pos hk
  refine ⟨c, r, rfl, ?_⟩
  have e1 : hasPre (60 :: c :: r) [60, 33, 45, 45] = hasPre (c :: r) [33, 45, 45] := by simp [hasPre]
  rw [e1]
  unfold kindL at hk ⊢
  simp only [if_true] at hk ⊢
  by_cases h1 : hasPre (c :: r) [33, 45, 45] = true
  · refine .inl ⟨by rw [if_pos h1], h1, ?_⟩
    simp [hasPre] at h1; exact h1.2.1
  · refine .inr ⟨by simpa using h1, ?_⟩
    rw [if_neg h1] at hk ⊢
    by_cases h2 : c = 33 ∨ c = 63
    · exact .inl ⟨if_pos h2, h2⟩
    · rw [if_neg h2] at hk ⊢
      by_cases h3 : ltrB c = true
      · rw [if_pos h3] at hk ⊢
        exact .inr (.inl ⟨rfl, h3, fun e => by subst e; revert h3; decide⟩)
      · rw [if_neg h3] at hk ⊢
        by_cases h4 : c = 47
        · rw [if_pos h4] at hk ⊢
          cases r with
          | nil => exact absurd rfl hk
          | cons d r' =>
            refine .inr (.inr ⟨h4, d, r', rfl, ?_⟩)
            dsimp only
            by_cases h5 : d = 62
            · exact .inl ⟨if_pos h5, h5⟩
            · rw [if_neg h5]
              by_cases h6 : ltrB d = true
              · exact .inr (.inl ⟨if_pos h6, h6, h5⟩)
              · exact .inr (.inr ⟨if_neg h6, by simpa using h6, h5⟩)
        · rw [if_neg h4] at hk
          exact absurd rfl hk
set_option maxRecDepth 100000 in
theorem next_text (s : List UInt8) (n : Nat) (l : List Tok) (hn : n < s.length) (hs : s.length ≤ 1000000) (hl : l.length ≤ 1000000) (hk : kindL (s.drop n) = 0) :
    CallsAbs Try.prog 37 [.ref 0 0 0] (rdS s n l) (NextK s l (s.drop n)) := by
  have hd1 := left_any s n l (by omega) (rdS s n l) rfl rfl
  have hd2 := plain_any s n l hn (rdS s n l) rfl rfl
  have hd3 := text_ok s n l (by omega) hs hl
  have hle := runN_le plainB (s.drop n)
  have hlen : ((s.drop n).drop (runN plainB (s.drop n))).length = s.length - n - runN plainB (s.drop n) := by simp [Nat.sub_sub]
  rw [List.length_drop] at hle
  have hst : step (s.drop n) = some ([textT (resolve ((s.drop n).take (runN plainB (s.drop n))))], (s.drop n).drop (runN plainB (s.drop n))) := by unfold step; rw [hk]; rfl
  have hp : plainB (s.drop n) = true := by unfold plainB; rw [hk]; rfl
  rw [hp] at hd2
  unfold NextK
  rw [hst]
  refine fn_okT Try.wf Try.tab_ok Try.func37 (by decide +kernel) rfl rfl ?_
  repeat' (first |            refine CallsAbs.use1 hd1 ?_ | refine CallsAbs.use1 hd2 ?_ | refine CallsAbs.use1 hd3 ?_ |          refine ⟨fun _ => ?_, fun h => absurd h (by decide)⟩ | refine ⟨fun h => absurd h (by decide), fun _ => ?_⟩ | (refine ⟨fun h => ?_, fun h => ?_⟩ <;> (try simp only [decide_eq_true_eq, decide_eq_false_iff_not, Bool.not_eq_true', Bool.not_eq_false', Bool.not_eq_true, Bool.not_eq_false, not_true_eq_false, beq_iff_eq, beq_eq_false_iff_ne, ne_eq, decide_eq_decide, true_iff, false_iff, iff_true, iff_false, true_and, and_true, false_or, or_false, Bool.and_true, Bool.and_eq_true, Bool.and_eq_false_iff, Bool.or_eq_true, Bool.or_eq_false_iff, List.length_cons, List.length_nil] at h) <;> (try (exfalso; first | omega | exact h rfl | (cases h; done) | exact absurd h (by assumption) | exact h (by assumption) | (simp at h; done)))) | refine ⟨⟨by (first | omega | (simp only [lenS]; omega)), by (first | omega | (simp only [lenS]; omega))⟩, _, by assumption, by rfl, ?_⟩ | refine .inl ⟨⟨by (first | omega | (simp only [lenS]; omega)), by (first | omega | (simp only [lenS]; omega))⟩, ?_⟩ | refine ⟨⟨by (first | omega | (simp only [lenS]; omega)), by (first | omega | (simp only [lenS]; omega))⟩, ?_⟩ | refine ⟨⟨by (first | omega | (simp only [lenS]; omega)), by (first | omega | (simp only [lenS]; omega)), by (first | omega | (simp only [lenS]; omega))⟩, ?_⟩ | refine ⟨.inl rfl, ?_⟩ | refine ⟨.inr (.inl (by (first | omega | (simp only [lenS]; omega)))), ?_⟩ | refine ⟨_, rfl, rfl, by (first | exact Nat.le_refl _ | exact Nat.le_of_ble_eq_true rfl | decide), ?_⟩ | refine ⟨_, rfl, by (first | exact Nat.le_refl _ | exact Nat.le_of_ble_eq_true rfl | decide), ?_⟩ | refine ⟨by (first | exact Nat.le_refl _ | exact Nat.le_of_ble_eq_true rfl | decide | exact rfl), ?_⟩ | refine ⟨show _ ≤ (9223372036854775807 : Nat) by (first | omega | (simp only [lenS]; omega)), ?_⟩ | refine ⟨show _ ≠ (0 : Int) by (first | omega | (simp only [lenS]; omega)), ?_⟩ | refine ⟨_, rfl, _, rfl, ?_⟩ | refine ⟨_, by assumption, Nat.le_of_ble_eq_true rfl, ?_⟩ | refine ⟨_, by assumption, _, rfl, ?_⟩ | refine ⟨_, rfl, ?_⟩ | fail)
  exact ⟨_, _, FinMove.refl _ _ _, rfl, .inr ⟨by simp, by rw [hlen, show s.length - (s.length - n - runN plainB (s.drop n)) = n + runN plainB (s.drop n) by omega]⟩⟩
set_option maxRecDepth 100000 in
theorem next_over (s : List UInt8) (n : Nat) (l : List Tok) (hn : n < s.length) (hs : s.length ≤ 1000000) (hl : l.length ≤ 1000000) (hk : kindL (s.drop n) = 2 ∨ kindL (s.drop n) = 3) :
    CallsAbs Try.prog 37 [.ref 0 0 0] (rdS s n l) (NextK s l (s.drop n)) := by
  have hd1 := left_any s n l (by omega) (rdS s n l) rfl rfl
  have hd2 := plain_any s n l hn (rdS s n l) rfl rfl
  have hd3 := over_ok s n l [62] (by simp) (by simp) (by omega) hs
  have hp : plainB (s.drop n) = false := by unfold plainB; rw [decide_eq_false_iff_not]; omega
  rw [hp] at hd2
  have hc1 := HasPrefix_ok (s.drop n) [60, 33, 45, 45]
  have hc2 := HasPrefix_ok (s.drop n) [60, 47, 62]
  obtain ⟨c, r, hx, hcs⟩ := kind_cases (show kindL (s.drop n) ≠ 0 by omega)
  have hc3 := letter_ok c
  have hlx : (s.drop n).length = s.length - n := by simp
  rcases hcs with ⟨h1, _⟩ | ⟨h0, ⟨h1, h2⟩ | ⟨h1, _⟩ | ⟨rfl, d, r', rfl, ⟨h1, rfl⟩ | ⟨h1, _⟩ | ⟨h1, h2, h3⟩⟩⟩
  · omega
  · have hst : step (s.drop n) = some ([], (s.drop n).drop (toN [62] (s.drop n) + 1)) := by unfold step; rw [h1]; rfl
    unfold NextK
    rw [hst]
    rw [h0] at hc1
    have h3 : hasPre (s.drop n) [60, 47, 62] = false := by
      rw [hx]; rcases h2 with rfl | rfl <;> simp [hasPre]
    rw [h3] at hc2
    have h4 : ltrB c = false := by rcases h2 with rfl | rfl <;> rfl
    rw [h4] at hc3
    have h5 : ¬ (((60 :: c :: r).getD (1 : Int).toNat 0).toNat : Int) = 47 := by
      rcases h2 with rfl | rfl
      · exact (by decide : ¬ ((33 : UInt8).toNat : Int) = 47)
      · exact (by decide : ¬ ((63 : UInt8).toNat : Int) = 47)
    rw [hx] at hd1 hc1 hc2 hlx
    simp only [List.length_cons] at hlx
    refine fn_okT Try.wf Try.tab_ok Try.func37 (by decide +kernel) rfl rfl ?_
    repeat' (first | refine PureC.use hc1 ?_ | refine PureC.use hc2 ?_ | refine PureC.use hc3 ?_ | refine PureC.use hc4 ?_ |        refine CallsAbs.use1 hd1 ?_ | refine CallsAbs.use1 hd2 ?_ | refine CallsAbs.use1 hd3 ?_ |          refine ⟨fun _ => ?_, fun h => absurd h (by decide)⟩ | refine ⟨fun h => absurd h (by decide), fun _ => ?_⟩ | (refine ⟨fun h => ?_, fun h => ?_⟩ <;> (try simp only [decide_eq_true_eq, decide_eq_false_iff_not, Bool.not_eq_true', Bool.not_eq_false', Bool.not_eq_true, Bool.not_eq_false, not_true_eq_false, beq_iff_eq, beq_eq_false_iff_ne, ne_eq, decide_eq_decide, true_iff, false_iff, iff_true, iff_false, true_and, and_true, false_or, or_false, Bool.and_true, Bool.and_eq_true, Bool.and_eq_false_iff, Bool.or_eq_true, Bool.or_eq_false_iff, List.length_cons, List.length_nil] at h) <;> (try (exfalso; first | omega | exact h rfl | (cases h; done) | exact absurd h (by assumption) | exact h (by assumption) | (simp at h; done)))) | refine ⟨⟨by (first | omega | (simp only [lenS]; omega)), by (first | omega | (simp only [lenS]; omega))⟩, _, by assumption, by rfl, ?_⟩ | refine .inl ⟨⟨by (first | omega | (simp only [lenS]; omega)), by (first | omega | (simp only [lenS]; omega))⟩, ?_⟩ | refine ⟨⟨by (first | omega | (simp only [lenS]; omega)), by (first | omega | (simp only [lenS]; omega))⟩, ?_⟩ | refine ⟨⟨by (first | omega | (simp only [lenS]; omega)), by (first | omega | (simp only [lenS]; omega)), by (first | omega | (simp only [lenS]; omega))⟩, ?_⟩ | refine ⟨.inl rfl, ?_⟩ | refine ⟨.inr (.inl (by (first | omega | (simp only [lenS]; omega)))), ?_⟩ | refine ⟨_, rfl, rfl, by (first | exact Nat.le_refl _ | exact Nat.le_of_ble_eq_true rfl | decide), ?_⟩ | refine ⟨_, rfl, by (first | exact Nat.le_refl _ | exact Nat.le_of_ble_eq_true rfl | decide), ?_⟩ | refine ⟨by (first | exact Nat.le_refl _ | exact Nat.le_of_ble_eq_true rfl | decide | exact rfl), ?_⟩ | refine ⟨show _ ≤ (9223372036854775807 : Nat) by (first | omega | (simp only [lenS]; omega)), ?_⟩ | refine ⟨show _ ≠ (0 : Int) by (first | omega | (simp only [lenS]; omega)), ?_⟩ | refine ⟨_, rfl, _, rfl, ?_⟩ | refine ⟨_, by assumption, Nat.le_of_ble_eq_true rfl, ?_⟩ | refine ⟨_, by assumption, _, rfl, ?_⟩ | refine ⟨_, rfl, ?_⟩ | fail)
    exact ⟨_, _, FinMove.refl _ _ _, rfl, .inl ⟨rfl, rfl⟩⟩
  · omega
  · have hst : step (s.drop n) = some ([], (s.drop n).drop 3) := by unfold step; rw [h1]; rfl
    unfold NextK
    rw [hst]
    rw [h0] at hc1
    have h3 : hasPre (s.drop n) [60, 47, 62] = true := by rw [hx]; simp [hasPre]
    rw [h3] at hc2
    have hl3 : ((s.drop n).drop 3).length = s.length - n - 3 := by simp; omega
    rw [hx] at hd1 hc1 hc2 hlx
    simp only [List.length_cons] at hlx
    refine fn_okT Try.wf Try.tab_ok Try.func37 (by decide +kernel) rfl rfl ?_
    repeat' (first | refine PureC.use hc1 ?_ | refine PureC.use hc2 ?_ | refine PureC.use hc3 ?_ | refine PureC.use hc4 ?_ |        refine CallsAbs.use1 hd1 ?_ | refine CallsAbs.use1 hd2 ?_ | refine CallsAbs.use1 hd3 ?_ |          refine ⟨fun _ => ?_, fun h => absurd h (by decide)⟩ | refine ⟨fun h => absurd h (by decide), fun _ => ?_⟩ | (refine ⟨fun h => ?_, fun h => ?_⟩ <;> (try simp only [decide_eq_true_eq, decide_eq_false_iff_not, Bool.not_eq_true', Bool.not_eq_false', Bool.not_eq_true, Bool.not_eq_false, not_true_eq_false, beq_iff_eq, beq_eq_false_iff_ne, ne_eq, decide_eq_decide, true_iff, false_iff, iff_true, iff_false, true_and, and_true, false_or, or_false, Bool.and_true, Bool.and_eq_true, Bool.and_eq_false_iff, Bool.or_eq_true, Bool.or_eq_false_iff, List.length_cons, List.length_nil] at h) <;> (try (exfalso; first | omega | exact h rfl | (cases h; done) | exact absurd h (by assumption) | exact h (by assumption) | (simp at h; done)))) | refine ⟨⟨by (first | omega | (simp only [lenS]; omega)), by (first | omega | (simp only [lenS]; omega))⟩, _, by assumption, by rfl, ?_⟩ | refine .inl ⟨⟨by (first | omega | (simp only [lenS]; omega)), by (first | omega | (simp only [lenS]; omega))⟩, ?_⟩ | refine ⟨⟨by (first | omega | (simp only [lenS]; omega)), by (first | omega | (simp only [lenS]; omega))⟩, ?_⟩ | refine ⟨⟨by (first | omega | (simp only [lenS]; omega)), by (first | omega | (simp only [lenS]; omega)), by (first | omega | (simp only [lenS]; omega))⟩, ?_⟩ | refine ⟨.inl rfl, ?_⟩ | refine ⟨.inr (.inl (by (first | omega | (simp only [lenS]; omega)))), ?_⟩ | refine ⟨_, rfl, rfl, by (first | exact Nat.le_refl _ | exact Nat.le_of_ble_eq_true rfl | decide), ?_⟩ | refine ⟨_, rfl, by (first | exact Nat.le_refl _ | exact Nat.le_of_ble_eq_true rfl | decide), ?_⟩ | refine ⟨by (first | exact Nat.le_refl _ | exact Nat.le_of_ble_eq_true rfl | decide | exact rfl), ?_⟩ | refine ⟨show _ ≤ (9223372036854775807 : Nat) by (first | omega | (simp only [lenS]; omega)), ?_⟩ | refine ⟨show _ ≠ (0 : Int) by (first | omega | (simp only [lenS]; omega)), ?_⟩ | refine ⟨_, rfl, _, rfl, ?_⟩ | refine ⟨_, by assumption, Nat.le_of_ble_eq_true rfl, ?_⟩ | refine ⟨_, by assumption, _, rfl, ?_⟩ | refine ⟨_, rfl, ?_⟩ | fail)
    refine ⟨.d (.bool true), rdS s (s.length - ((s.drop n).drop 3).length) l, ?_, rfl, .inl ⟨rfl, rfl⟩⟩
    rw [hl3]
    exact fin_mv [] rfl rfl rfl (store_out s n _ l _ (by omega)) rfl
  · omega
  · have hst : step (s.drop n) = some ([], (s.drop n).drop (toN [62] (s.drop n) + 1)) := by unfold step; rw [h1]; rfl
    unfold NextK
    rw [hst]
    rw [h0] at hc1
    have h4 : hasPre (s.drop n) [60, 47, 62] = false := by
      rw [hx]; simp [hasPre]; exact h3
    rw [h4] at hc2
    have h5 : ltrB 47 = false := rfl
    rw [h5] at hc3
    have hc4 := letter_ok d
    rw [h2] at hc4
    rw [hx] at hd1 hc1 hc2 hlx
    simp only [List.length_cons] at hlx
    refine fn_okT Try.wf Try.tab_ok Try.func37 (by decide +kernel) rfl rfl ?_
    repeat' (first | refine PureC.use hc1 ?_ | refine PureC.use hc2 ?_ | refine PureC.use hc3 ?_ | refine PureC.use hc4 ?_ |        refine CallsAbs.use1 hd1 ?_ | refine CallsAbs.use1 hd2 ?_ | refine CallsAbs.use1 hd3 ?_ |          refine ⟨fun _ => ?_, fun h => absurd h (by decide)⟩ | refine ⟨fun h => absurd h (by decide), fun _ => ?_⟩ | (refine ⟨fun h => ?_, fun h => ?_⟩ <;> (try simp only [decide_eq_true_eq, decide_eq_false_iff_not, Bool.not_eq_true', Bool.not_eq_false', Bool.not_eq_true, Bool.not_eq_false, not_true_eq_false, beq_iff_eq, beq_eq_false_iff_ne, ne_eq, decide_eq_decide, true_iff, false_iff, iff_true, iff_false, true_and, and_true, false_or, or_false, Bool.and_true, Bool.and_eq_true, Bool.and_eq_false_iff, Bool.or_eq_true, Bool.or_eq_false_iff, List.length_cons, List.length_nil] at h) <;> (try (exfalso; first | omega | exact h rfl | (cases h; done) | exact absurd h (by assumption) | exact h (by assumption) | (simp at h; done)))) | refine ⟨⟨by (first | omega | (simp only [lenS]; omega)), by (first | omega | (simp only [lenS]; omega))⟩, _, by assumption, by rfl, ?_⟩ | refine .inl ⟨⟨by (first | omega | (simp only [lenS]; omega)), by (first | omega | (simp only [lenS]; omega))⟩, ?_⟩ | refine ⟨⟨by (first | omega | (simp only [lenS]; omega)), by (first | omega | (simp only [lenS]; omega))⟩, ?_⟩ | refine ⟨⟨by (first | omega | (simp only [lenS]; omega)), by (first | omega | (simp only [lenS]; omega)), by (first | omega | (simp only [lenS]; omega))⟩, ?_⟩ | refine ⟨.inl rfl, ?_⟩ | refine ⟨.inr (.inl (by (first | omega | (simp only [lenS]; omega)))), ?_⟩ | refine ⟨_, rfl, rfl, by (first | exact Nat.le_refl _ | exact Nat.le_of_ble_eq_true rfl | decide), ?_⟩ | refine ⟨_, rfl, by (first | exact Nat.le_refl _ | exact Nat.le_of_ble_eq_true rfl | decide), ?_⟩ | refine ⟨by (first | exact Nat.le_refl _ | exact Nat.le_of_ble_eq_true rfl | decide | exact rfl), ?_⟩ | refine ⟨show _ ≤ (9223372036854775807 : Nat) by (first | omega | (simp only [lenS]; omega)), ?_⟩ | refine ⟨show _ ≠ (0 : Int) by (first | omega | (simp only [lenS]; omega)), ?_⟩ | refine ⟨_, rfl, _, rfl, ?_⟩ | refine ⟨_, by assumption, Nat.le_of_ble_eq_true rfl, ?_⟩ | refine ⟨_, by assumption, _, rfl, ?_⟩ | refine ⟨_, rfl, ?_⟩ | fail)
    exact ⟨_, _, FinMove.refl _ _ _, rfl, .inl ⟨rfl, rfl⟩⟩
set_option maxRecDepth 100000 in
theorem next_note (s : List UInt8) (n : Nat) (l : List Tok) (hn : n < s.length) (hs : s.length ≤ 1000000) (hl : l.length ≤ 1000000) (hk : kindL (s.drop n) = 1) :
    CallsAbs Try.prog 37 [.ref 0 0 0] (rdS s n l) (NextK s l (s.drop n)) := by
  have hd1 := left_any s n l (by omega) (rdS s n l) rfl rfl
  have hd2 := plain_any s n l hn (rdS s n l) rfl rfl
  have hp : plainB (s.drop n) = false := by unfold plainB; rw [decide_eq_false_iff_not]; omega
  rw [hp] at hd2
  have hc1 := HasPrefix_ok (s.drop n) [60, 33, 45, 45]
  have hlx : (s.drop n).length = s.length - n := by simp
  have h1 : hasPre (s.drop n) [60, 33, 45, 45] = true := by
    obtain ⟨c, r, hx, hcs⟩ := kind_cases (show kindL (s.drop n) ≠ 0 by omega)
    rcases hcs with ⟨_, h, _⟩ | ⟨_, ⟨h, _⟩ | ⟨h, _⟩ | ⟨_, _, _, _, ⟨h, _⟩ | ⟨h, _⟩ | ⟨h, _⟩⟩⟩
    · exact h
    all_goals omega
  have h4 : n + 4 ≤ s.length := by have := hasPre_len h1; rw [hlx] at this; simp only [List.length_cons, List.length_nil] at this; omega
  rw [h1] at hc1
  have hst : step (s.drop n) = some ([noteT ((s.drop (n + 4)).take (toN [45, 45, 62] (s.drop (n + 4))))], (s.drop (n + 4)).drop (toN [45, 45, 62] (s.drop (n + 4)) + 3)) := by rw [← show (s.drop n).drop 4 = s.drop (n + 4) by rw [List.drop_drop]]; unfold step; rw [hk]; rfl
  have hd3 := over_ok s (n + 4) l [45, 45, 62] (by simp) (by simp) (by omega) hs
  have he1 := over_any s (n + 4) l [45, 45, 62] (by simp) (by simp) (by omega) hs
  unfold NextK
  rw [hst]
  generalize (s.drop (n + 4)).take (toN [45, 45, 62] (s.drop (n + 4))) = y at *
  have hm : s.length - ((s.drop (n + 4)).drop (toN [45, 45, 62] (s.drop (n + 4)) + 3)).length = s.length - ((s.drop (n + 4)).drop (toN [45, 45, 62] (s.drop (n + 4)) + ([45, 45, 62] : List UInt8).length)).length := rfl
  dsimp only
  rw [hm]
  clear hm
  generalize s.length - ((s.drop (n + 4)).drop (toN [45, 45, 62] (s.drop (n + 4)) + ([45, 45, 62] : List UInt8).length)).length = m at *
  have hb1 := tok_sub 4 [] y
  refine fn_okT Try.wf Try.tab_ok Try.func37 (by decide +kernel) rfl rfl ?_
  repeat' (first | refine PureC.use hc1 ?_ |           refine CallsAbs.use1 hd1 ?_ | refine CallsAbs.use1 hd2 ?_ | refine CallsAbs.use1 hd3 ?_ |  refine CallsAbs.use1 (he1 _ (by rfl) (by rfl)) ?_ |        refine ⟨fun _ => ?_, fun h => absurd h (by decide)⟩ | refine ⟨fun h => absurd h (by decide), fun _ => ?_⟩ | (refine ⟨fun h => ?_, fun h => ?_⟩ <;> (try simp only [decide_eq_true_eq, decide_eq_false_iff_not, Bool.not_eq_true', Bool.not_eq_false', Bool.not_eq_true, Bool.not_eq_false, not_true_eq_false, beq_iff_eq, beq_eq_false_iff_ne, ne_eq, decide_eq_decide, true_iff, false_iff, iff_true, iff_false, true_and, and_true, false_or, or_false, Bool.and_true, Bool.and_eq_true, Bool.and_eq_false_iff, Bool.or_eq_true, Bool.or_eq_false_iff, List.length_cons, List.length_nil] at h) <;> (try (exfalso; first | omega | exact h rfl | (cases h; done) | exact absurd h (by assumption) | exact h (by assumption) | (simp at h; done)))) | refine ⟨⟨by (first | omega | (simp only [lenS]; omega)), by (first | omega | (simp only [lenS]; omega))⟩, _, by assumption, by rfl, ?_⟩ | refine .inl ⟨⟨by (first | omega | (simp only [lenS]; omega)), by (first | omega | (simp only [lenS]; omega))⟩, ?_⟩ | refine ⟨⟨by (first | omega | (simp only [lenS]; omega)), by (first | omega | (simp only [lenS]; omega))⟩, ?_⟩ | refine ⟨⟨by (first | omega | (simp only [lenS]; omega)), by (first | omega | (simp only [lenS]; omega)), by (first | omega | (simp only [lenS]; omega))⟩, ?_⟩ | refine ⟨.inl rfl, ?_⟩ | refine ⟨.inr (.inl (by (first | omega | (simp only [lenS]; omega)))), ?_⟩ | refine ⟨_, rfl, rfl, by (first | exact Nat.le_refl _ | exact Nat.le_of_ble_eq_true rfl | decide), ?_⟩ | refine ⟨_, rfl, by (first | exact Nat.le_refl _ | exact Nat.le_of_ble_eq_true rfl | decide), ?_⟩ | refine ⟨by (first | exact Nat.le_refl _ | exact Nat.le_of_ble_eq_true rfl | decide | exact rfl), ?_⟩ | refine ⟨show _ ≤ (9223372036854775807 : Nat) by (first | omega | (simp only [lenS]; omega)), ?_⟩ | refine ⟨show _ ≠ (0 : Int) by (first | omega | (simp only [lenS]; omega)), ?_⟩ | refine ⟨_, rfl, _, rfl, ?_⟩ | refine ⟨_, by assumption, Nat.le_of_ble_eq_true rfl, ?_⟩ | refine ⟨_, by assumption, _, rfl, ?_⟩ | refine ⟨_, rfl, ?_⟩ | fail)
  refine E.view (s' := [(0, .ref 0 0 0)]) (σ' := rdS s (n + 4) l) (Mv.of [] rfl rfl rfl ⟨⟨rfl, .inl ⟨rfl, dataA_pure _⟩⟩, ⟨rfl, .inr ⟨⟨rfl, rfl, ⟨rfl, rfl, rfl⟩, trivial⟩, trivial⟩⟩, trivial⟩ ⟨⟨rfl, rfl, rfl⟩, trivial⟩) ?_
  refine drawnZ Try.wf Try.tab_ok [6, 9, 12] (fun t => match t with
    | 0 => rdS s (n + 4) l
    | 1 => rdS s m l
    | 2 => ⟨3, [(2, outO (l ++ [noteT y])), (0, rdO s m l.length)]⟩
    | _ => rdS2 s m (l ++ [noteT y])) rfl Try.mixed (by decide +kernel) ?_
  iterate 4 refine zblind (by decide +kernel) rfl rfl (fun _ => FinMove.refl _ _ _) ?_
  refine zreadL [0, 1] (by decide +kernel) rfl rfl ⟨⟨_, rfl, _, rfl, FinMove.refl _ _ _⟩, ⟨_, rfl, _, rfl, FinMove.refl _ _ _⟩, trivial⟩ ?_
  refine zblind (by decide +kernel) rfl rfl (fun _ => FinMove.refl _ _ _) ?_
  refine zeff (r := .d (.str y)) rfl rfl rfl (CallsAbs.use1 hd3 (FinMove.refl _ _ _)) ?_
  refine zblind (by decide +kernel) rfl rfl (fun _ => hb1 _) ?_
  refine zreadL (r := .d (.sl [tokD (noteT y)])) [1] (by decide +kernel) rfl rfl ⟨fin_lit rfl rfl rfl ⟨⟨rfl, .inl ⟨rfl, dataA_pure _⟩⟩, ⟨rfl, .inr ⟨⟨rfl, rfl, ⟨rfl, rfl, rfl⟩, trivial⟩, trivial⟩⟩, trivial⟩, trivial⟩ ?_
  refine zeff (r := .own 2 0 (l ++ [noteT y]).length) rfl rfl rfl ?_ ?_
  · refine out_app l (noteT y) (rdS s m l) (fun v σ' => FinMove (rdS s m l) v σ' (.own 2 0 (l ++ [noteT y]).length) ⟨3, [(2, outO (l ++ [noteT y])), (0, rdO s m l.length)]⟩) rfl hl ?_
    exact fin_mv [.old 2] rfl rfl rfl ⟨⟨rfl, .inl ⟨rfl, dataA_pure _⟩⟩, ⟨rfl, .inr ⟨⟨rfl, rfl, ⟨rfl, rfl, rfl⟩, trivial⟩, trivial⟩⟩, trivial⟩ ⟨rfl, rfl, rfl⟩
  iterate 2 refine zblind (by decide +kernel) rfl rfl (fun _ => FinMove.refl _ _ _) ?_
  refine zeff rfl rfl rfl ⟨_, rfl, rfl, Nat.le_of_ble_eq_true rfl, fin_mv (r' := .top) [] rfl rfl rfl ⟨⟨rfl, .inl ⟨rfl, dataA_pure _⟩⟩, ⟨rfl, .inr ⟨⟨rfl, rfl, ⟨rfl, rfl, rfl⟩, trivial⟩, trivial⟩⟩, trivial⟩ trivial⟩ ?_
  repeat' (first | refine PureC.use hc1 ?_ |           refine CallsAbs.use1 hd1 ?_ | refine CallsAbs.use1 hd2 ?_ | refine CallsAbs.use1 hd3 ?_ |  refine CallsAbs.use1 (he1 _ (by rfl) (by rfl)) ?_ |        refine ⟨fun _ => ?_, fun h => absurd h (by decide)⟩ | refine ⟨fun h => absurd h (by decide), fun _ => ?_⟩ | (refine ⟨fun h => ?_, fun h => ?_⟩ <;> (try simp only [decide_eq_true_eq, decide_eq_false_iff_not, Bool.not_eq_true', Bool.not_eq_false', Bool.not_eq_true, Bool.not_eq_false, not_true_eq_false, beq_iff_eq, beq_eq_false_iff_ne, ne_eq, decide_eq_decide, true_iff, false_iff, iff_true, iff_false, true_and, and_true, false_or, or_false, Bool.and_true, Bool.and_eq_true, Bool.and_eq_false_iff, Bool.or_eq_true, Bool.or_eq_false_iff, List.length_cons, List.length_nil] at h) <;> (try (exfalso; first | omega | exact h rfl | (cases h; done) | exact absurd h (by assumption) | exact h (by assumption) | (simp at h; done)))) | refine ⟨⟨by (first | omega | (simp only [lenS]; omega)), by (first | omega | (simp only [lenS]; omega))⟩, _, by assumption, by rfl, ?_⟩ | refine .inl ⟨⟨by (first | omega | (simp only [lenS]; omega)), by (first | omega | (simp only [lenS]; omega))⟩, ?_⟩ | refine ⟨⟨by (first | omega | (simp only [lenS]; omega)), by (first | omega | (simp only [lenS]; omega))⟩, ?_⟩ | refine ⟨⟨by (first | omega | (simp only [lenS]; omega)), by (first | omega | (simp only [lenS]; omega)), by (first | omega | (simp only [lenS]; omega))⟩, ?_⟩ | refine ⟨.inl rfl, ?_⟩ | refine ⟨.inr (.inl (by (first | omega | (simp only [lenS]; omega)))), ?_⟩ | refine ⟨_, rfl, rfl, by (first | exact Nat.le_refl _ | exact Nat.le_of_ble_eq_true rfl | decide), ?_⟩ | refine ⟨_, rfl, by (first | exact Nat.le_refl _ | exact Nat.le_of_ble_eq_true rfl | decide), ?_⟩ | refine ⟨by (first | exact Nat.le_refl _ | exact Nat.le_of_ble_eq_true rfl | decide | exact rfl), ?_⟩ | refine ⟨show _ ≤ (9223372036854775807 : Nat) by (first | omega | (simp only [lenS]; omega)), ?_⟩ | refine ⟨show _ ≠ (0 : Int) by (first | omega | (simp only [lenS]; omega)), ?_⟩ | refine ⟨_, rfl, _, rfl, ?_⟩ | refine ⟨_, by assumption, Nat.le_of_ble_eq_true rfl, ?_⟩ | refine ⟨_, by assumption, _, rfl, ?_⟩ | refine ⟨_, rfl, ?_⟩ | fail)
  exact ⟨_, _, FinMove.refl _ _ _, rfl, .inr ⟨by simp, rfl⟩⟩
theorem rd_anyE {f : FuncId} {args : List AV} {r0 : AV} (hc : Callable Try.prog f) {s : List UInt8} {n : Nat} {l : List Tok} (hp : pureL args = true) (hr : r0.pure = true)
    (h : CallsAbs Try.prog f (.ref 0 0 0 :: args) (rdS s n l) fun r σ' => ∃ m, m ≤ s.length ∧ r = r0 ∧ σ' = rdS s m l) (σ : Store) (h0 : σ.get 0 = rdO s n l.length) (h1 : σ.get 1 = outO l) :
    CallsAbs Try.prog f (.ref 0 0 0 :: args) σ fun r σ' => ∃ m, m ≤ s.length ∧ r = r0 ∧ σ' = ⟨σ.n, (0, rdO s m l.length) :: (1, outO l) :: σ.objs⟩ := by
  rcases Nat.lt_or_ge 1 σ.n with hn | hn
  · obtain ⟨k, objs⟩ := σ
    obtain ⟨k, rfl⟩ : ∃ j, k = j + 2 := ⟨k - 2, by dsimp only at hn; omega⟩
    refine CallsAbs.frame h [.old 0, .old 1] ⟨Nat.zero_le _, rfl, by simp [goodr, idx], ⟨?_, ?_, trivial⟩⟩ ⟨⟨rfl, rfl, rfl⟩, vrelL_self args hp⟩ ?_
    · show orel _ (outO l) (Store.get ⟨k + 2, objs⟩ 1)
      rw [h1]
      exact ⟨rfl, .inl ⟨rfl, dataA_pure _⟩⟩
    · show orel _ (rdO s n l.length) (Store.get ⟨k + 2, objs⟩ 0)
      rw [h0]
      exact ⟨rfl, .inr ⟨⟨rfl, rfl, ⟨rfl, rfl, rfl⟩, trivial⟩, trivial⟩⟩
    · rintro _ _ ⟨m, hm, rfl, rfl⟩
      exact ⟨_, [(0, rdO s m l.length), (1, outO l)], ⟨⟨rfl, .inr ⟨⟨rfl, rfl, ⟨rfl, rfl, rfl⟩, trivial⟩, trivial⟩⟩, ⟨rfl, .inl ⟨rfl, dataA_pure _⟩⟩, trivial⟩, rfl, vrel_self _ hr, m, hm, rfl, rfl⟩
  · exact .inl ⟨hc, fun g w vs R hL => by
      have := R.dead 1 (by rw [← R.n]; exact hn)
      rw [h1] at this; cases this⟩
theorem tag_some (s : List UInt8) (n : Nat) (l : List Tok) (hn : n ≤ s.length) (hs : s.length ≤ 1000000) {nm : List UInt8} {cl : Bool} {ats : List Attr} {rest : List UInt8} (ht : tagAt (s.drop n) = some (nm, cl, ats, rest)) (σ : Store) (h0 : σ.get 0 = rdO s n l.length) (h1 : σ.get 1 = outO l) :
    CallsAbs Try.prog 54 [.ref 0 0 0] σ fun r σ' => r = .tup [.agg ((tokD (startT nm cl ats)).map .d), .d (.bool true)] ∧ σ' = ⟨σ.n, (0, rdO s (s.length - rest.length) l.length) :: (1, outO l) :: σ.objs⟩ :=
  rd_any ⟨_, Try.func54, by decide +kernel, rfl⟩ rfl rfl (by have := tag_ok s n l hn hs; rw [ht] at this; exact this) σ h0 h1
theorem tag_none (s : List UInt8) (n : Nat) (l : List Tok) (hn : n ≤ s.length) (hs : s.length ≤ 1000000) (ht : tagAt (s.drop n) = none) (σ : Store) (h0 : σ.get 0 = rdO s n l.length) (h1 : σ.get 1 = outO l) :
    CallsAbs Try.prog 54 [.ref 0 0 0] σ fun r σ' => ∃ m, m ≤ s.length ∧ r = .tup [.agg ((tokD ⟨0, [], [], false, []⟩).map .d), .d (.bool false)] ∧ σ' = ⟨σ.n, (0, rdO s m l.length) :: (1, outO l) :: σ.objs⟩ :=
  rd_anyE ⟨_, Try.func54, by decide +kernel, rfl⟩ rfl rfl (by have := tag_ok s n l hn hs; rw [ht] at this; exact this) σ h0 h1
/-- What the tests of 'next' say where a tag begins. -/
theorem tag_tests {x : List UInt8} (hk : kindL x = 4 ∨ kindL x = 5) : ∃ c r, x = 60 :: c :: r ∧ hasPre x [60, 33, 45, 45] = false ∧ hasPre x [60, 47, 62] = false ∧
    ((kindL x = 4 ∧ ltrB c = true) ∨ (kindL x = 5 ∧ ltrB c = false ∧ c = 47 ∧ ∃ d r', r = d :: r' ∧ ltrB d = true)) := by
  obtain ⟨c, r, hx, hcs⟩ := kind_cases (show kindL x ≠ 0 by omega)
  refine ⟨c, r, hx, ?_⟩
  rcases hcs with ⟨h, _⟩ | ⟨h0, ⟨h, _⟩ | ⟨h, h2, h3⟩ | ⟨rfl, d, r', rfl, ⟨h, _⟩ | ⟨h, h2, h3⟩ | ⟨h, _⟩⟩⟩
  · omega
  · omega
  · refine ⟨h0, ?_, .inl ⟨h, h2⟩⟩
    rw [hx]; simp [hasPre, h3]
  · omega
  · refine ⟨h0, ?_, .inr ⟨h, rfl, rfl, d, r', rfl, h2⟩⟩
    rw [hx]; simp [hasPre, h3]
  · omega
set_option maxRecDepth 100000 in
theorem next_stop (s : List UInt8) (n : Nat) (l : List Tok) (hn : n < s.length) (hs : s.length ≤ 1000000) (hl : l.length ≤ 1000000) (hk : kindL (s.drop n) = 4 ∨ kindL (s.drop n) = 5) (hst : step (s.drop n) = none) :
    CallsAbs Try.prog 37 [.ref 0 0 0] (rdS s n l) (NextK s l (s.drop n)) := by
  have hd1 := left_any s n l (by omega) (rdS s n l) rfl rfl
  have hd2 := plain_any s n l hn (rdS s n l) rfl rfl
  have hp : plainB (s.drop n) = false := by unfold plainB; rw [decide_eq_false_iff_not]; omega
  rw [hp] at hd2
  have hc1 := HasPrefix_ok (s.drop n) [60, 33, 45, 45]
  have hc2 := HasPrefix_ok (s.drop n) [60, 47, 62]
  have hlx : (s.drop n).length = s.length - n := by simp
  obtain ⟨c, r, hx, h1, h2, h3⟩ := tag_tests hk
  unfold NextK
  rw [hst]
  rw [h1] at hc1
  rw [h2] at hc2
  have hc3 := letter_ok c
  unfold step at hst
  have hlx2 := hlx
  rw [hx] at hd1 hc1 hc2 hlx
  simp only [List.length_cons] at hlx
  rcases h3 with ⟨h3, h4⟩ | ⟨h3, h4, rfl, d, r', rfl, h5⟩
  · rw [h4] at hc3
    have ht : tagAt (s.drop (n + 1)) = none := by
      rw [← List.drop_drop]
      cases ht : tagAt ((s.drop n).drop 1) with
      | none => rfl
      | some t =>
        simp only [h3, ht] at hst
        by_cases hb : rawB t.1 = true
        · rw [if_pos hb] at hst; cases hst
        · rw [if_neg hb] at hst; cases hst
    have ht2 := tag_none s (n + 1) l (by omega) hs ht
    refine fn_okT Try.wf Try.tab_ok Try.func37 (by decide +kernel) rfl rfl ?_
    repeat' (first | refine PureC.use hc1 ?_ | refine PureC.use hc2 ?_ | refine PureC.use hc3 ?_ | refine PureC.use hc4 ?_ |        refine CallsAbs.use1 hd1 ?_ | refine CallsAbs.use1 hd2 ?_ |           refine ⟨fun _ => ?_, fun h => absurd h (by decide)⟩ | refine ⟨fun h => absurd h (by decide), fun _ => ?_⟩ | (refine ⟨fun h => ?_, fun h => ?_⟩ <;> (try simp only [decide_eq_true_eq, decide_eq_false_iff_not, Bool.not_eq_true', Bool.not_eq_false', Bool.not_eq_true, Bool.not_eq_false, not_true_eq_false, beq_iff_eq, beq_eq_false_iff_ne, ne_eq, decide_eq_decide, true_iff, false_iff, iff_true, iff_false, true_and, and_true, false_or, or_false, Bool.and_true, Bool.and_eq_true, Bool.and_eq_false_iff, Bool.or_eq_true, Bool.or_eq_false_iff, List.length_cons, List.length_nil] at h) <;> (try (exfalso; first | omega | exact h rfl | (cases h; done) | exact absurd h (by assumption) | exact h (by assumption) | (simp at h; done)))) | refine ⟨⟨by (first | omega | (simp only [lenS]; omega)), by (first | omega | (simp only [lenS]; omega))⟩, _, by assumption, by rfl, ?_⟩ | refine .inl ⟨⟨by (first | omega | (simp only [lenS]; omega)), by (first | omega | (simp only [lenS]; omega))⟩, ?_⟩ | refine ⟨⟨by (first | omega | (simp only [lenS]; omega)), by (first | omega | (simp only [lenS]; omega))⟩, ?_⟩ | refine ⟨⟨by (first | omega | (simp only [lenS]; omega)), by (first | omega | (simp only [lenS]; omega)), by (first | omega | (simp only [lenS]; omega))⟩, ?_⟩ | refine ⟨.inl rfl, ?_⟩ | refine ⟨.inr (.inl (by (first | omega | (simp only [lenS]; omega)))), ?_⟩ | refine ⟨_, rfl, rfl, by (first | exact Nat.le_refl _ | exact Nat.le_of_ble_eq_true rfl | decide), ?_⟩ | refine ⟨_, rfl, by (first | exact Nat.le_refl _ | exact Nat.le_of_ble_eq_true rfl | decide), ?_⟩ | refine ⟨by (first | exact Nat.le_refl _ | exact Nat.le_of_ble_eq_true rfl | decide | exact rfl), ?_⟩ | refine ⟨show _ ≤ (9223372036854775807 : Nat) by (first | omega | (simp only [lenS]; omega)), ?_⟩ | refine ⟨show _ ≠ (0 : Int) by (first | omega | (simp only [lenS]; omega)), ?_⟩ | refine ⟨_, rfl, _, rfl, ?_⟩ | refine ⟨_, by assumption, Nat.le_of_ble_eq_true rfl, ?_⟩ | refine ⟨_, by assumption, _, rfl, ?_⟩ | refine ⟨_, rfl, ?_⟩ | fail)
    refine (ht2 _ rfl rfl).mono ?_
    rintro _ _ ⟨m, hm, rfl, rfl⟩
    repeat' (first | refine PureC.use hc1 ?_ | refine PureC.use hc2 ?_ | refine PureC.use hc3 ?_ | refine PureC.use hc4 ?_ |        refine CallsAbs.use1 hd1 ?_ | refine CallsAbs.use1 hd2 ?_ |           refine ⟨fun _ => ?_, fun h => absurd h (by decide)⟩ | refine ⟨fun h => absurd h (by decide), fun _ => ?_⟩ | (refine ⟨fun h => ?_, fun h => ?_⟩ <;> (try simp only [decide_eq_true_eq, decide_eq_false_iff_not, Bool.not_eq_true', Bool.not_eq_false', Bool.not_eq_true, Bool.not_eq_false, not_true_eq_false, beq_iff_eq, beq_eq_false_iff_ne, ne_eq, decide_eq_decide, true_iff, false_iff, iff_true, iff_false, true_and, and_true, false_or, or_false, Bool.and_true, Bool.and_eq_true, Bool.and_eq_false_iff, Bool.or_eq_true, Bool.or_eq_false_iff, List.length_cons, List.length_nil] at h) <;> (try (exfalso; first | omega | exact h rfl | (cases h; done) | exact absurd h (by assumption) | exact h (by assumption) | (simp at h; done)))) | refine ⟨⟨by (first | omega | (simp only [lenS]; omega)), by (first | omega | (simp only [lenS]; omega))⟩, _, by assumption, by rfl, ?_⟩ | refine .inl ⟨⟨by (first | omega | (simp only [lenS]; omega)), by (first | omega | (simp only [lenS]; omega))⟩, ?_⟩ | refine ⟨⟨by (first | omega | (simp only [lenS]; omega)), by (first | omega | (simp only [lenS]; omega))⟩, ?_⟩ | refine ⟨⟨by (first | omega | (simp only [lenS]; omega)), by (first | omega | (simp only [lenS]; omega)), by (first | omega | (simp only [lenS]; omega))⟩, ?_⟩ | refine ⟨.inl rfl, ?_⟩ | refine ⟨.inr (.inl (by (first | omega | (simp only [lenS]; omega)))), ?_⟩ | refine ⟨_, rfl, rfl, by (first | exact Nat.le_refl _ | exact Nat.le_of_ble_eq_true rfl | decide), ?_⟩ | refine ⟨_, rfl, by (first | exact Nat.le_refl _ | exact Nat.le_of_ble_eq_true rfl | decide), ?_⟩ | refine ⟨by (first | exact Nat.le_refl _ | exact Nat.le_of_ble_eq_true rfl | decide | exact rfl), ?_⟩ | refine ⟨show _ ≤ (9223372036854775807 : Nat) by (first | omega | (simp only [lenS]; omega)), ?_⟩ | refine ⟨show _ ≠ (0 : Int) by (first | omega | (simp only [lenS]; omega)), ?_⟩ | refine ⟨_, rfl, _, rfl, ?_⟩ | refine ⟨_, by assumption, Nat.le_of_ble_eq_true rfl, ?_⟩ | refine ⟨_, by assumption, _, rfl, ?_⟩ | refine ⟨_, rfl, ?_⟩ | fail)
    exact ⟨.d (.bool false), rdS s m l, fin_mv [] rfl rfl rfl ⟨⟨rfl, .inl ⟨rfl, dataA_pure _⟩⟩, ⟨rfl, .inr ⟨⟨rfl, rfl, ⟨rfl, rfl, rfl⟩, trivial⟩, trivial⟩⟩, trivial⟩ rfl, m, hm, rfl, rfl⟩
  · rw [h4] at hc3
    have hc4 := letter_ok d
    rw [h5] at hc4
    have ht : tagAt (s.drop (n + 2)) = none := by
      rw [← List.drop_drop]
      cases ht : tagAt ((s.drop n).drop 2) with
      | none => rfl
      | some t =>
        simp only [h3, ht] at hst
        cases hst
    have ht2 := tag_none s (n + 2) l (by simp only [List.length_cons] at hlx; omega) hs ht
    simp only [List.length_cons] at hlx
    refine fn_okT Try.wf Try.tab_ok Try.func37 (by decide +kernel) rfl rfl ?_
    repeat' (first | refine PureC.use hc1 ?_ | refine PureC.use hc2 ?_ | refine PureC.use hc3 ?_ | refine PureC.use hc4 ?_ |        refine CallsAbs.use1 hd1 ?_ | refine CallsAbs.use1 hd2 ?_ |           refine ⟨fun _ => ?_, fun h => absurd h (by decide)⟩ | refine ⟨fun h => absurd h (by decide), fun _ => ?_⟩ | (refine ⟨fun h => ?_, fun h => ?_⟩ <;> (try simp only [decide_eq_true_eq, decide_eq_false_iff_not, Bool.not_eq_true', Bool.not_eq_false', Bool.not_eq_true, Bool.not_eq_false, not_true_eq_false, beq_iff_eq, beq_eq_false_iff_ne, ne_eq, decide_eq_decide, true_iff, false_iff, iff_true, iff_false, true_and, and_true, false_or, or_false, Bool.and_true, Bool.and_eq_true, Bool.and_eq_false_iff, Bool.or_eq_true, Bool.or_eq_false_iff, List.length_cons, List.length_nil] at h) <;> (try (exfalso; first | omega | exact h rfl | (cases h; done) | exact absurd h (by assumption) | exact h (by assumption) | (simp at h; done)))) | refine ⟨⟨by (first | omega | (simp only [lenS]; omega)), by (first | omega | (simp only [lenS]; omega))⟩, _, by assumption, by rfl, ?_⟩ | refine .inl ⟨⟨by (first | omega | (simp only [lenS]; omega)), by (first | omega | (simp only [lenS]; omega))⟩, ?_⟩ | refine ⟨⟨by (first | omega | (simp only [lenS]; omega)), by (first | omega | (simp only [lenS]; omega))⟩, ?_⟩ | refine ⟨⟨by (first | omega | (simp only [lenS]; omega)), by (first | omega | (simp only [lenS]; omega)), by (first | omega | (simp only [lenS]; omega))⟩, ?_⟩ | refine ⟨.inl rfl, ?_⟩ | refine ⟨.inr (.inl (by (first | omega | (simp only [lenS]; omega)))), ?_⟩ | refine ⟨_, rfl, rfl, by (first | exact Nat.le_refl _ | exact Nat.le_of_ble_eq_true rfl | decide), ?_⟩ | refine ⟨_, rfl, by (first | exact Nat.le_refl _ | exact Nat.le_of_ble_eq_true rfl | decide), ?_⟩ | refine ⟨by (first | exact Nat.le_refl _ | exact Nat.le_of_ble_eq_true rfl | decide | exact rfl), ?_⟩ | refine ⟨show _ ≤ (9223372036854775807 : Nat) by (first | omega | (simp only [lenS]; omega)), ?_⟩ | refine ⟨show _ ≠ (0 : Int) by (first | omega | (simp only [lenS]; omega)), ?_⟩ | refine ⟨_, rfl, _, rfl, ?_⟩ | refine ⟨_, by assumption, Nat.le_of_ble_eq_true rfl, ?_⟩ | refine ⟨_, by assumption, _, rfl, ?_⟩ | refine ⟨_, rfl, ?_⟩ | fail)
    refine (ht2 _ rfl rfl).mono ?_
    rintro _ _ ⟨m, hm, rfl, rfl⟩
    repeat' (first | refine PureC.use hc1 ?_ | refine PureC.use hc2 ?_ | refine PureC.use hc3 ?_ | refine PureC.use hc4 ?_ |        refine CallsAbs.use1 hd1 ?_ | refine CallsAbs.use1 hd2 ?_ |           refine ⟨fun _ => ?_, fun h => absurd h (by decide)⟩ | refine ⟨fun h => absurd h (by decide), fun _ => ?_⟩ | (refine ⟨fun h => ?_, fun h => ?_⟩ <;> (try simp only [decide_eq_true_eq, decide_eq_false_iff_not, Bool.not_eq_true', Bool.not_eq_false', Bool.not_eq_true, Bool.not_eq_false, not_true_eq_false, beq_iff_eq, beq_eq_false_iff_ne, ne_eq, decide_eq_decide, true_iff, false_iff, iff_true, iff_false, true_and, and_true, false_or, or_false, Bool.and_true, Bool.and_eq_true, Bool.and_eq_false_iff, Bool.or_eq_true, Bool.or_eq_false_iff, List.length_cons, List.length_nil] at h) <;> (try (exfalso; first | omega | exact h rfl | (cases h; done) | exact absurd h (by assumption) | exact h (by assumption) | (simp at h; done)))) | refine ⟨⟨by (first | omega | (simp only [lenS]; omega)), by (first | omega | (simp only [lenS]; omega))⟩, _, by assumption, by rfl, ?_⟩ | refine .inl ⟨⟨by (first | omega | (simp only [lenS]; omega)), by (first | omega | (simp only [lenS]; omega))⟩, ?_⟩ | refine ⟨⟨by (first | omega | (simp only [lenS]; omega)), by (first | omega | (simp only [lenS]; omega))⟩, ?_⟩ | refine ⟨⟨by (first | omega | (simp only [lenS]; omega)), by (first | omega | (simp only [lenS]; omega)), by (first | omega | (simp only [lenS]; omega))⟩, ?_⟩ | refine ⟨.inl rfl, ?_⟩ | refine ⟨.inr (.inl (by (first | omega | (simp only [lenS]; omega)))), ?_⟩ | refine ⟨_, rfl, rfl, by (first | exact Nat.le_refl _ | exact Nat.le_of_ble_eq_true rfl | decide), ?_⟩ | refine ⟨_, rfl, by (first | exact Nat.le_refl _ | exact Nat.le_of_ble_eq_true rfl | decide), ?_⟩ | refine ⟨by (first | exact Nat.le_refl _ | exact Nat.le_of_ble_eq_true rfl | decide | exact rfl), ?_⟩ | refine ⟨show _ ≤ (9223372036854775807 : Nat) by (first | omega | (simp only [lenS]; omega)), ?_⟩ | refine ⟨show _ ≠ (0 : Int) by (first | omega | (simp only [lenS]; omega)), ?_⟩ | refine ⟨_, rfl, _, rfl, ?_⟩ | refine ⟨_, by assumption, Nat.le_of_ble_eq_true rfl, ?_⟩ | refine ⟨_, by assumption, _, rfl, ?_⟩ | refine ⟨_, rfl, ?_⟩ | fail)
    exact ⟨.d (.bool false), rdS s m l, fin_mv [] rfl rfl rfl ⟨⟨rfl, .inl ⟨rfl, dataA_pure _⟩⟩, ⟨rfl, .inr ⟨⟨rfl, rfl, ⟨rfl, rfl, rfl⟩, trivial⟩, trivial⟩⟩, trivial⟩ rfl, m, hm, rfl, rfl⟩
def rdOj (j : Nat) (s : List UInt8) (n : Nat) (m : Nat) : Ob := .rows (3, 64) [[.d (.str s), .d (.int .i64 n), .own j 0 m]]
def tkO (t : Tok) : Ob := .rows (5, 37) [(tokD t).map .d]
theorem tk_pure (t : Tok) : ∀ row ∈ [(tokD t).map AV.d], pureL row = true := fun row h => by rw [List.mem_singleton.1 h]; rfl
set_option maxRecDepth 100000 in
theorem next_end (s : List UInt8) (n : Nat) (l : List Tok) (hn : n < s.length) (hs : s.length ≤ 1000000) (hl : l.length ≤ 1000000) (hk : kindL (s.drop n) = 5) {nm : List UInt8} {cl : Bool} {ats : List Attr} {rest : List UInt8} (ht : tagAt (s.drop (n + 2)) = some (nm, cl, ats, rest)) :
    CallsAbs Try.prog 37 [.ref 0 0 0] (rdS s n l) (NextK s l (s.drop n)) := by
  have hd1 := left_any s n l (by omega) (rdS s n l) rfl rfl
  have hd2 := plain_any s n l hn (rdS s n l) rfl rfl
  have hp : plainB (s.drop n) = false := by unfold plainB; rw [decide_eq_false_iff_not]; omega
  rw [hp] at hd2
  have hc1 := HasPrefix_ok (s.drop n) [60, 33, 45, 45]
  have hc2 := HasPrefix_ok (s.drop n) [60, 47, 62]
  have hlx : (s.drop n).length = s.length - n := by simp
  obtain ⟨c, r, hx, h1, h2, h3⟩ := tag_tests (.inr hk)
  rcases h3 with ⟨h3, _⟩ | ⟨h3, h4, rfl, d, r', rfl, h5⟩
  · omega
  have hst : step (s.drop n) = some ([endT nm], rest) := by
    have ht' : tagAt ((s.drop n).drop 2) = some (nm, cl, ats, rest) := by rw [List.drop_drop]; exact ht
    unfold step
    simp only [h3, ht']
  unfold NextK
  rw [hst]
  rw [h1] at hc1
  rw [h2] at hc2
  have hc3 := letter_ok 47
  have hc4 := letter_ok d
  rw [h4] at hc3
  rw [h5] at hc4
  rw [hx] at hd1 hc1 hc2 hlx
  simp only [List.length_cons] at hlx
  have he1 := tag_some s (n + 2) l (by omega) hs ht
  dsimp only
  generalize s.length - rest.length = m at *
  have hb1 := tok_sub 3 nm []
  refine fn_okT Try.wf Try.tab_ok Try.func37 (by decide +kernel) rfl rfl ?_
  repeat' (first | refine PureC.use hc1 ?_ | refine PureC.use hc2 ?_ | refine PureC.use hc3 ?_ | refine PureC.use hc4 ?_ |        refine CallsAbs.use1 hd1 ?_ | refine CallsAbs.use1 hd2 ?_ |   refine CallsAbs.use1 (he1 _ (by rfl) (by rfl)) ?_ |        refine ⟨fun _ => ?_, fun h => absurd h (by decide)⟩ | refine ⟨fun h => absurd h (by decide), fun _ => ?_⟩ | (refine ⟨fun h => ?_, fun h => ?_⟩ <;> (try simp only [decide_eq_true_eq, decide_eq_false_iff_not, Bool.not_eq_true', Bool.not_eq_false', Bool.not_eq_true, Bool.not_eq_false, not_true_eq_false, beq_iff_eq, beq_eq_false_iff_ne, ne_eq, decide_eq_decide, true_iff, false_iff, iff_true, iff_false, true_and, and_true, false_or, or_false, Bool.and_true, Bool.and_eq_true, Bool.and_eq_false_iff, Bool.or_eq_true, Bool.or_eq_false_iff, List.length_cons, List.length_nil] at h) <;> (try (exfalso; first | omega | exact h rfl | (cases h; done) | exact absurd h (by assumption) | exact h (by assumption) | (simp at h; done)))) | refine ⟨⟨by (first | omega | (simp only [lenS]; omega)), by (first | omega | (simp only [lenS]; omega))⟩, _, by assumption, by rfl, ?_⟩ | refine .inl ⟨⟨by (first | omega | (simp only [lenS]; omega)), by (first | omega | (simp only [lenS]; omega))⟩, ?_⟩ | refine ⟨⟨by (first | omega | (simp only [lenS]; omega)), by (first | omega | (simp only [lenS]; omega))⟩, ?_⟩ | refine ⟨⟨by (first | omega | (simp only [lenS]; omega)), by (first | omega | (simp only [lenS]; omega)), by (first | omega | (simp only [lenS]; omega))⟩, ?_⟩ | refine ⟨.inl rfl, ?_⟩ | refine ⟨.inr (.inl (by (first | omega | (simp only [lenS]; omega)))), ?_⟩ | refine ⟨_, rfl, rfl, by (first | exact Nat.le_refl _ | exact Nat.le_of_ble_eq_true rfl | decide), ?_⟩ | refine ⟨_, rfl, by (first | exact Nat.le_refl _ | exact Nat.le_of_ble_eq_true rfl | decide), ?_⟩ | refine ⟨by (first | exact Nat.le_refl _ | exact Nat.le_of_ble_eq_true rfl | decide | exact rfl), ?_⟩ | refine ⟨show _ ≤ (9223372036854775807 : Nat) by (first | omega | (simp only [lenS]; omega)), ?_⟩ | refine ⟨show _ ≠ (0 : Int) by (first | omega | (simp only [lenS]; omega)), ?_⟩ | refine ⟨_, rfl, _, rfl, ?_⟩ | refine ⟨_, by assumption, Nat.le_of_ble_eq_true rfl, ?_⟩ | refine ⟨_, by assumption, _, rfl, ?_⟩ | refine ⟨_, rfl, ?_⟩ | fail)
  refine E.view (s' := [(0, .ref 0 0 0), (8, .ref 2 0 0)]) (σ' := ⟨3, [(2, tkO (startT nm cl ats)), (1, outO l), (0, rdO s m l.length)]⟩) (Mv.of [.old 2] rfl rfl rfl ⟨⟨rfl, .inl ⟨rfl, tk_pure _⟩⟩, ⟨rfl, .inl ⟨rfl, dataA_pure _⟩⟩, ⟨rfl, .inr ⟨⟨rfl, rfl, ⟨rfl, rfl, rfl⟩, trivial⟩, trivial⟩⟩, trivial⟩ ⟨⟨rfl, rfl, rfl⟩, ⟨rfl, rfl, rfl⟩, trivial⟩) ?_
  refine drawnZ Try.wf Try.tab_ok [9, 12] (fun t => match t with
    | 0 => ⟨3, [(2, tkO (startT nm cl ats)), (1, outO l), (0, rdO s m l.length)]⟩
    | 1 => ⟨4, [(3, outO (l ++ [endT nm])), (2, tkO (startT nm cl ats)), (0, rdO s m l.length)]⟩
    | _ => ⟨4, [(3, outO (l ++ [endT nm])), (2, tkO (startT nm cl ats)), (0, rdOj 3 s m (l ++ [endT nm]).length)]⟩) rfl Try.mixed (by decide +kernel) ?_
  iterate 7 (first | refine zblind (by decide +kernel) rfl rfl (fun _ => FinMove.refl _ _ _) ?_ | refine zreadL [0] (by decide +kernel) rfl rfl ⟨⟨_, rfl, _, rfl, FinMove.refl _ _ _⟩, trivial⟩ ?_)
  refine zblind (by decide +kernel) rfl rfl (fun _ => hb1 _) ?_
  refine zreadL (r := .d (.sl [tokD (endT nm)])) [0] (by decide +kernel) rfl rfl ⟨fin_lit rfl rfl rfl ⟨⟨rfl, .inl ⟨rfl, tk_pure _⟩⟩, ⟨rfl, .inl ⟨rfl, dataA_pure _⟩⟩, ⟨rfl, .inr ⟨⟨rfl, rfl, ⟨rfl, rfl, rfl⟩, trivial⟩, trivial⟩⟩, trivial⟩, trivial⟩ ?_
  refine zeff (r := .own 3 0 (l ++ [endT nm]).length) rfl rfl rfl ?_ ?_
  · refine out_app l (endT nm) ⟨3, [(2, tkO (startT nm cl ats)), (1, outO l), (0, rdO s m l.length)]⟩ (fun v σ' => FinMove ⟨3, [(2, tkO (startT nm cl ats)), (1, outO l), (0, rdO s m l.length)]⟩ v σ' (.own 3 0 (l ++ [endT nm]).length) ⟨4, [(3, outO (l ++ [endT nm])), (2, tkO (startT nm cl ats)), (0, rdO s m l.length)]⟩) rfl hl ?_
    exact fin_mv [.old 3] rfl rfl rfl ⟨⟨rfl, .inl ⟨rfl, dataA_pure _⟩⟩, ⟨rfl, .inl ⟨rfl, tk_pure _⟩⟩, ⟨rfl, .inr ⟨⟨rfl, rfl, ⟨rfl, rfl, rfl⟩, trivial⟩, trivial⟩⟩, trivial⟩ ⟨rfl, rfl, rfl⟩
  iterate 2 refine zblind (by decide +kernel) rfl rfl (fun _ => FinMove.refl _ _ _) ?_
  refine zeff rfl rfl rfl ⟨_, rfl, rfl, Nat.le_of_ble_eq_true rfl, fin_mv (r' := .top) [] rfl rfl rfl ⟨⟨rfl, .inl ⟨rfl, dataA_pure _⟩⟩, ⟨rfl, .inl ⟨rfl, tk_pure _⟩⟩, ⟨rfl, .inr ⟨⟨rfl, rfl, ⟨rfl, rfl, rfl⟩, trivial⟩, trivial⟩⟩, trivial⟩ trivial⟩ ?_
  repeat' (first | refine PureC.use hc1 ?_ | refine PureC.use hc2 ?_ | refine PureC.use hc3 ?_ | refine PureC.use hc4 ?_ |        refine CallsAbs.use1 hd1 ?_ | refine CallsAbs.use1 hd2 ?_ |   refine CallsAbs.use1 (he1 _ (by rfl) (by rfl)) ?_ |        refine ⟨fun _ => ?_, fun h => absurd h (by decide)⟩ | refine ⟨fun h => absurd h (by decide), fun _ => ?_⟩ | (refine ⟨fun h => ?_, fun h => ?_⟩ <;> (try simp only [decide_eq_true_eq, decide_eq_false_iff_not, Bool.not_eq_true', Bool.not_eq_false', Bool.not_eq_true, Bool.not_eq_false, not_true_eq_false, beq_iff_eq, beq_eq_false_iff_ne, ne_eq, decide_eq_decide, true_iff, false_iff, iff_true, iff_false, true_and, and_true, false_or, or_false, Bool.and_true, Bool.and_eq_true, Bool.and_eq_false_iff, Bool.or_eq_true, Bool.or_eq_false_iff, List.length_cons, List.length_nil] at h) <;> (try (exfalso; first | omega | exact h rfl | (cases h; done) | exact absurd h (by assumption) | exact h (by assumption) | (simp at h; done)))) | refine ⟨⟨by (first | omega | (simp only [lenS]; omega)), by (first | omega | (simp only [lenS]; omega))⟩, _, by assumption, by rfl, ?_⟩ | refine .inl ⟨⟨by (first | omega | (simp only [lenS]; omega)), by (first | omega | (simp only [lenS]; omega))⟩, ?_⟩ | refine ⟨⟨by (first | omega | (simp only [lenS]; omega)), by (first | omega | (simp only [lenS]; omega))⟩, ?_⟩ | refine ⟨⟨by (first | omega | (simp only [lenS]; omega)), by (first | omega | (simp only [lenS]; omega)), by (first | omega | (simp only [lenS]; omega))⟩, ?_⟩ | refine ⟨.inl rfl, ?_⟩ | refine ⟨.inr (.inl (by (first | omega | (simp only [lenS]; omega)))), ?_⟩ | refine ⟨_, rfl, rfl, by (first | exact Nat.le_refl _ | exact Nat.le_of_ble_eq_true rfl | decide), ?_⟩ | refine ⟨_, rfl, by (first | exact Nat.le_refl _ | exact Nat.le_of_ble_eq_true rfl | decide), ?_⟩ | refine ⟨by (first | exact Nat.le_refl _ | exact Nat.le_of_ble_eq_true rfl | decide | exact rfl), ?_⟩ | refine ⟨show _ ≤ (9223372036854775807 : Nat) by (first | omega | (simp only [lenS]; omega)), ?_⟩ | refine ⟨show _ ≠ (0 : Int) by (first | omega | (simp only [lenS]; omega)), ?_⟩ | refine ⟨_, rfl, _, rfl, ?_⟩ | refine ⟨_, by assumption, Nat.le_of_ble_eq_true rfl, ?_⟩ | refine ⟨_, by assumption, _, rfl, ?_⟩ | refine ⟨_, rfl, ?_⟩ | fail)
  exact ⟨.d (.bool true), rdS2 s m (l ++ [endT nm]), fin_mv [.old 3] rfl rfl rfl ⟨⟨rfl, .inl ⟨rfl, dataA_pure _⟩⟩, ⟨rfl, .inr ⟨⟨rfl, rfl, ⟨rfl, rfl, rfl⟩, trivial⟩, trivial⟩⟩, trivial⟩ rfl, rfl, .inr ⟨by simp, rfl⟩⟩
set_option maxRecDepth 100000 in
theorem next_start (s : List UInt8) (n : Nat) (l : List Tok) (hn : n < s.length) (hs : s.length ≤ 1000000) (hl : l.length < 1000000) (hk : kindL (s.drop n) = 4) {nm : List UInt8} {cl : Bool} {ats : List Attr} {rest : List UInt8} (ht : tagAt (s.drop (n + 1)) = some (nm, cl, ats, rest)) (hrest : s.drop (s.length - rest.length) = rest) (hrl : rest.length ≤ s.length) (hnm : nm.length ≤ 1000000) :
    CallsAbs Try.prog 37 [.ref 0 0 0] (rdS s n l) (NextK s l (s.drop n)) := by
  have hd1 := left_any s n l (by omega) (rdS s n l) rfl rfl
  have hd2 := plain_any s n l hn (rdS s n l) rfl rfl
  have hp : plainB (s.drop n) = false := by unfold plainB; rw [decide_eq_false_iff_not]; omega
  rw [hp] at hd2
  have hc1 := HasPrefix_ok (s.drop n) [60, 33, 45, 45]
  have hc2 := HasPrefix_ok (s.drop n) [60, 47, 62]
  have hlx : (s.drop n).length = s.length - n := by simp
  obtain ⟨c, r, hx, h1, h2, h3⟩ := tag_tests (.inl hk)
  obtain ⟨h3, h4⟩ := h3.resolve_right (fun h => by have := h.1; omega)
  have hst : step (s.drop n) = if rawB nm then some (startT nm cl ats :: (if rawText nm rest = [] then [] else [textT (rawText nm rest)]), rest.drop (rawN nm rest)) else some ([startT nm cl ats], rest) := by
    have ht' : tagAt ((s.drop n).drop 1) = some (nm, cl, ats, rest) := by rw [List.drop_drop]; exact ht
    unfold step
    simp only [h3, ht']
  unfold NextK
  rw [hst]
  rw [h1] at hc1
  rw [h2] at hc2
  have hc3 := letter_ok c
  rw [h4] at hc3
  rw [hx] at hd1 hc1 hc2 hlx
  simp only [List.length_cons] at hlx
  have he1 := tag_some s (n + 1) l (by omega) hs ht
  have hraw := raw_ok s (s.length - rest.length) (l ++ [startT nm cl ats]) nm (softB nm) (by omega) hs
  rw [hrest] at hraw
  have hrn : rawN nm rest ≤ rest.length := runN_le _ _
  have hc4 := tRaw_ok nm
  rw [show rawV nm = .tup [.d (.bool (rawB nm)), .d (.bool (softB nm))] from rfl] at hc4
  have hpos : s.length - (rest.drop (rawN nm rest)).length = s.length - rest.length + rawN nm rest := by rw [List.length_drop]; omega
  have hRX : rawX (softB nm) nm rest = rawText nm rest := rfl
  rw [hRX] at hraw
  suffices hS : CallsAbs Try.prog 37 [.ref 0 0 0] (rdS s n l) fun r σ' => r = .d (.bool true) ∧ ((rawB nm = false ∧ σ' = rdS2 s (s.length - rest.length) (l ++ [startT nm cl ats])) ∨
      (rawB nm = true ∧ rawText nm rest = [] ∧ σ' = rdS2 s (s.length - rest.length + rawN nm rest) (l ++ [startT nm cl ats])) ∨
      (rawB nm = true ∧ rawText nm rest ≠ [] ∧ σ' = rdS2 s (s.length - rest.length + rawN nm rest) (l ++ [startT nm cl ats] ++ [textT (rawText nm rest)]))) by
    refine hS.mono fun r σ' ⟨e1, h⟩ => ?_
    rcases h with ⟨q1, q2⟩ | ⟨q1, q2, q3⟩ | ⟨q1, q2, q3⟩
    · rw [q1]; exact ⟨e1, .inr ⟨by simp, q2⟩⟩
    · rw [q1, if_pos rfl, if_pos q2]; exact ⟨e1, .inr ⟨by simp, by rw [hpos]; exact q3⟩⟩
    · rw [q1, if_pos rfl, if_neg q2]; exact ⟨e1, .inr ⟨by simp, by rw [hpos, q3, List.append_assoc]; rfl⟩⟩
  generalize hm : s.length - rest.length = m at *
  clear hpos hst
  refine fn_okT Try.wf Try.tab_ok Try.func37 (by decide +kernel) rfl rfl ?_
  repeat' (first | refine PureC.use hc1 ?_ | refine PureC.use hc2 ?_ | refine PureC.use hc3 ?_ | refine PureC.use hc4 ?_ |        refine CallsAbs.use1 hd1 ?_ | refine CallsAbs.use1 hd2 ?_ |   refine CallsAbs.use1 (he1 _ (by rfl) (by rfl)) ?_ |        refine ⟨fun _ => ?_, fun h => absurd h (by decide)⟩ | refine ⟨fun h => absurd h (by decide), fun _ => ?_⟩ | (refine ⟨fun h => ?_, fun h => ?_⟩ <;> (try simp only [decide_eq_true_eq, decide_eq_false_iff_not, Bool.not_eq_true', Bool.not_eq_false', Bool.not_eq_true, Bool.not_eq_false, not_true_eq_false, beq_iff_eq, beq_eq_false_iff_ne, ne_eq, decide_eq_decide, true_iff, false_iff, iff_true, iff_false, true_and, and_true, false_or, or_false, Bool.and_true, Bool.and_eq_true, Bool.and_eq_false_iff, Bool.or_eq_true, Bool.or_eq_false_iff, List.length_cons, List.length_nil] at h) <;> (try (exfalso; first | omega | exact h rfl | (cases h; done) | exact absurd h (by assumption) | exact h (by assumption) | (simp at h; done)))) | refine ⟨⟨by (first | omega | (simp only [lenS]; omega)), by (first | omega | (simp only [lenS]; omega))⟩, _, by assumption, by rfl, ?_⟩ | refine .inl ⟨⟨by (first | omega | (simp only [lenS]; omega)), by (first | omega | (simp only [lenS]; omega))⟩, ?_⟩ | refine ⟨⟨by (first | omega | (simp only [lenS]; omega)), by (first | omega | (simp only [lenS]; omega))⟩, ?_⟩ | refine ⟨⟨by (first | omega | (simp only [lenS]; omega)), by (first | omega | (simp only [lenS]; omega)), by (first | omega | (simp only [lenS]; omega))⟩, ?_⟩ | refine ⟨.inl rfl, ?_⟩ | refine ⟨.inr (.inl (by (first | omega | (simp only [lenS]; omega)))), ?_⟩ | refine ⟨_, rfl, rfl, by (first | exact Nat.le_refl _ | exact Nat.le_of_ble_eq_true rfl | decide), ?_⟩ | refine ⟨_, rfl, by (first | exact Nat.le_refl _ | exact Nat.le_of_ble_eq_true rfl | decide), ?_⟩ | refine ⟨by (first | exact Nat.le_refl _ | exact Nat.le_of_ble_eq_true rfl | decide | exact rfl), ?_⟩ | refine ⟨show _ ≤ (9223372036854775807 : Nat) by (first | omega | (simp only [lenS]; omega)), ?_⟩ | refine ⟨show _ ≠ (0 : Int) by (first | omega | (simp only [lenS]; omega)), ?_⟩ | refine ⟨_, rfl, _, rfl, ?_⟩ | refine ⟨_, by assumption, Nat.le_of_ble_eq_true rfl, ?_⟩ | refine ⟨_, by assumption, _, rfl, ?_⟩ | refine ⟨_, rfl, ?_⟩ | fail)
  refine E.view (s' := [(0, .ref 0 0 0), (4, .ref 2 0 0)]) (σ' := ⟨3, [(2, tkO (startT nm cl ats)), (1, outO l), (0, rdO s m l.length)]⟩) (Mv.of [.old 2] rfl rfl rfl ⟨⟨rfl, .inl ⟨rfl, tk_pure _⟩⟩, ⟨rfl, .inl ⟨rfl, dataA_pure _⟩⟩, ⟨rfl, .inr ⟨⟨rfl, rfl, ⟨rfl, rfl, rfl⟩, trivial⟩, trivial⟩⟩, trivial⟩ ⟨⟨rfl, rfl, rfl⟩, ⟨rfl, rfl, rfl⟩, trivial⟩) ?_
  refine drawnZ Try.wf Try.tab_ok [7, 10] (fun t => match t with
    | 0 => ⟨3, [(2, tkO (startT nm cl ats)), (1, outO l), (0, rdO s m l.length)]⟩
    | 1 => ⟨4, [(3, outO (l ++ [startT nm cl ats])), (2, tkO (startT nm cl ats)), (0, rdO s m l.length)]⟩
    | _ => ⟨4, [(3, outO (l ++ [startT nm cl ats])), (2, tkO (startT nm cl ats)), (0, rdOj 3 s m (l ++ [startT nm cl ats]).length)]⟩) rfl Try.mixed (by decide +kernel) ?_
  iterate 5 (first | refine zblind (by decide +kernel) rfl rfl (fun _ => FinMove.refl _ _ _) ?_ | refine zreadL [0] (by decide +kernel) rfl rfl ⟨⟨_, rfl, _, rfl, FinMove.refl _ _ _⟩, trivial⟩ ?_)
  refine zreadL (r := .agg ((tokD (startT nm cl ats)).map .d)) [0, 1, 2] (by decide +kernel) rfl rfl ⟨⟨_, rfl, Nat.le_of_ble_eq_true rfl, FinMove.refl _ _ _⟩, ⟨_, rfl, Nat.le_of_ble_eq_true rfl, FinMove.refl _ _ _⟩, ⟨_, rfl, Nat.le_of_ble_eq_true rfl, FinMove.refl _ _ _⟩, trivial⟩ ?_
  refine zreadL (r := .d (.sl [tokD (startT nm cl ats)])) [0] (by decide +kernel) rfl rfl ⟨fin_lit rfl rfl rfl ⟨⟨rfl, .inl ⟨rfl, tk_pure _⟩⟩, ⟨rfl, .inl ⟨rfl, dataA_pure _⟩⟩, ⟨rfl, .inr ⟨⟨rfl, rfl, ⟨rfl, rfl, rfl⟩, trivial⟩, trivial⟩⟩, trivial⟩, trivial⟩ ?_
  refine zeff (r := .own 3 0 (l ++ [startT nm cl ats]).length) rfl rfl rfl ?_ ?_
  · refine out_app l (startT nm cl ats) ⟨3, [(2, tkO (startT nm cl ats)), (1, outO l), (0, rdO s m l.length)]⟩ (fun v σ' => FinMove ⟨3, [(2, tkO (startT nm cl ats)), (1, outO l), (0, rdO s m l.length)]⟩ v σ' (.own 3 0 (l ++ [startT nm cl ats]).length) ⟨4, [(3, outO (l ++ [startT nm cl ats])), (2, tkO (startT nm cl ats)), (0, rdO s m l.length)]⟩) rfl (Nat.le_of_lt hl) ?_
    exact fin_mv [.old 3] rfl rfl rfl ⟨⟨rfl, .inl ⟨rfl, dataA_pure _⟩⟩, ⟨rfl, .inl ⟨rfl, tk_pure _⟩⟩, ⟨rfl, .inr ⟨⟨rfl, rfl, ⟨rfl, rfl, rfl⟩, trivial⟩, trivial⟩⟩, trivial⟩ ⟨rfl, rfl, rfl⟩
  iterate 2 refine zblind (by decide +kernel) rfl rfl (fun _ => FinMove.refl _ _ _) ?_
  refine zeff rfl rfl rfl ⟨_, rfl, rfl, Nat.le_of_ble_eq_true rfl, fin_mv (r' := .top) [] rfl rfl rfl ⟨⟨rfl, .inl ⟨rfl, dataA_pure _⟩⟩, ⟨rfl, .inl ⟨rfl, tk_pure _⟩⟩, ⟨rfl, .inr ⟨⟨rfl, rfl, ⟨rfl, rfl, rfl⟩, trivial⟩, trivial⟩⟩, trivial⟩ trivial⟩ ?_
  repeat' (first | refine PureC.use hc1 ?_ | refine PureC.use hc2 ?_ | refine PureC.use hc3 ?_ | refine PureC.use hc4 ?_ |        refine CallsAbs.use1 hd1 ?_ | refine CallsAbs.use1 hd2 ?_ |   refine CallsAbs.use1 (he1 _ (by rfl) (by rfl)) ?_ |        refine ⟨fun _ => ?_, fun h => absurd h (by decide)⟩ | refine ⟨fun h => absurd h (by decide), fun _ => ?_⟩ | (refine ⟨fun h => ?_, fun h => ?_⟩ <;> (try simp only [decide_eq_true_eq, decide_eq_false_iff_not, Bool.not_eq_true', Bool.not_eq_false', Bool.not_eq_true, Bool.not_eq_false, not_true_eq_false, beq_iff_eq, beq_eq_false_iff_ne, ne_eq, decide_eq_decide, true_iff, false_iff, iff_true, iff_false, true_and, and_true, false_or, or_false, Bool.and_true, Bool.and_eq_true, Bool.and_eq_false_iff, Bool.or_eq_true, Bool.or_eq_false_iff, List.length_cons, List.length_nil] at h) <;> (try (exfalso; first | omega | exact h rfl | (cases h; done) | exact absurd h (by assumption) | exact h (by assumption) | (simp at h; done)))) | refine ⟨⟨by (first | omega | (simp only [lenS]; omega)), by (first | omega | (simp only [lenS]; omega))⟩, _, by assumption, by rfl, ?_⟩ | refine .inl ⟨⟨by (first | omega | (simp only [lenS]; omega)), by (first | omega | (simp only [lenS]; omega))⟩, ?_⟩ | refine ⟨⟨by (first | omega | (simp only [lenS]; omega)), by (first | omega | (simp only [lenS]; omega))⟩, ?_⟩ | refine ⟨⟨by (first | omega | (simp only [lenS]; omega)), by (first | omega | (simp only [lenS]; omega)), by (first | omega | (simp only [lenS]; omega))⟩, ?_⟩ | refine ⟨.inl rfl, ?_⟩ | refine ⟨.inr (.inl (by (first | omega | (simp only [lenS]; omega)))), ?_⟩ | refine ⟨_, rfl, rfl, by (first | exact Nat.le_refl _ | exact Nat.le_of_ble_eq_true rfl | decide), ?_⟩ | refine ⟨_, rfl, by (first | exact Nat.le_refl _ | exact Nat.le_of_ble_eq_true rfl | decide), ?_⟩ | refine ⟨by (first | exact Nat.le_refl _ | exact Nat.le_of_ble_eq_true rfl | decide | exact rfl), ?_⟩ | refine ⟨show _ ≤ (9223372036854775807 : Nat) by (first | omega | (simp only [lenS]; omega)), ?_⟩ | refine ⟨show _ ≠ (0 : Int) by (first | omega | (simp only [lenS]; omega)), ?_⟩ | refine ⟨_, rfl, _, rfl, ?_⟩ | refine ⟨_, by assumption, Nat.le_of_ble_eq_true rfl, ?_⟩ | refine ⟨_, by assumption, _, rfl, ?_⟩ | refine ⟨_, rfl, ?_⟩ | fail)
  · refine CallsAbs.frame (hraw (by simp; omega) hnm) [.old 0, .old 3] ⟨Nat.zero_le _, rfl, rfl, ⟨⟨rfl, .inl ⟨rfl, dataA_pure _⟩⟩, ⟨rfl, .inr ⟨⟨rfl, rfl, ⟨rfl, rfl, rfl⟩, trivial⟩, trivial⟩⟩, trivial⟩⟩ ⟨⟨rfl, rfl, rfl⟩, rfl, rfl, trivial⟩ ?_
    rintro _ _ ⟨rfl, ⟨q1, rfl⟩ | ⟨q1, rfl⟩⟩
    · refine ⟨.tup [], [(0, rdOj 3 s (m + rawN nm rest) (l ++ [startT nm cl ats]).length), (3, outO (l ++ [startT nm cl ats]))], ⟨⟨rfl, .inr ⟨⟨rfl, rfl, ⟨rfl, rfl, rfl⟩, trivial⟩, trivial⟩⟩, ⟨rfl, .inl ⟨rfl, dataA_pure _⟩⟩, trivial⟩, rfl, trivial, ?_⟩
      repeat' (first | refine PureC.use hc1 ?_ | refine PureC.use hc2 ?_ | refine PureC.use hc3 ?_ | refine PureC.use hc4 ?_ |        refine CallsAbs.use1 hd1 ?_ | refine CallsAbs.use1 hd2 ?_ |   refine CallsAbs.use1 (he1 _ (by rfl) (by rfl)) ?_ |        refine ⟨fun _ => ?_, fun h => absurd h (by decide)⟩ | refine ⟨fun h => absurd h (by decide), fun _ => ?_⟩ | (refine ⟨fun h => ?_, fun h => ?_⟩ <;> (try simp only [decide_eq_true_eq, decide_eq_false_iff_not, Bool.not_eq_true', Bool.not_eq_false', Bool.not_eq_true, Bool.not_eq_false, not_true_eq_false, beq_iff_eq, beq_eq_false_iff_ne, ne_eq, decide_eq_decide, true_iff, false_iff, iff_true, iff_false, true_and, and_true, false_or, or_false, Bool.and_true, Bool.and_eq_true, Bool.and_eq_false_iff, Bool.or_eq_true, Bool.or_eq_false_iff, List.length_cons, List.length_nil] at h) <;> (try (exfalso; first | omega | exact h rfl | (cases h; done) | exact absurd h (by assumption) | exact h (by assumption) | (simp at h; done)))) | refine ⟨⟨by (first | omega | (simp only [lenS]; omega)), by (first | omega | (simp only [lenS]; omega))⟩, _, by assumption, by rfl, ?_⟩ | refine .inl ⟨⟨by (first | omega | (simp only [lenS]; omega)), by (first | omega | (simp only [lenS]; omega))⟩, ?_⟩ | refine ⟨⟨by (first | omega | (simp only [lenS]; omega)), by (first | omega | (simp only [lenS]; omega))⟩, ?_⟩ | refine ⟨⟨by (first | omega | (simp only [lenS]; omega)), by (first | omega | (simp only [lenS]; omega)), by (first | omega | (simp only [lenS]; omega))⟩, ?_⟩ | refine ⟨.inl rfl, ?_⟩ | refine ⟨.inr (.inl (by (first | omega | (simp only [lenS]; omega)))), ?_⟩ | refine ⟨_, rfl, rfl, by (first | exact Nat.le_refl _ | exact Nat.le_of_ble_eq_true rfl | decide), ?_⟩ | refine ⟨_, rfl, by (first | exact Nat.le_refl _ | exact Nat.le_of_ble_eq_true rfl | decide), ?_⟩ | refine ⟨by (first | exact Nat.le_refl _ | exact Nat.le_of_ble_eq_true rfl | decide | exact rfl), ?_⟩ | refine ⟨show _ ≤ (9223372036854775807 : Nat) by (first | omega | (simp only [lenS]; omega)), ?_⟩ | refine ⟨show _ ≠ (0 : Int) by (first | omega | (simp only [lenS]; omega)), ?_⟩ | refine ⟨_, rfl, _, rfl, ?_⟩ | refine ⟨_, by assumption, Nat.le_of_ble_eq_true rfl, ?_⟩ | refine ⟨_, by assumption, _, rfl, ?_⟩ | refine ⟨_, rfl, ?_⟩ | fail)
      exact ⟨.d (.bool true), rdS2 s (m + rawN nm rest) (l ++ [startT nm cl ats]), fin_mv [.old 3] rfl rfl rfl ⟨⟨rfl, .inl ⟨rfl, dataA_pure _⟩⟩, ⟨rfl, .inr ⟨⟨rfl, rfl, ⟨rfl, rfl, rfl⟩, trivial⟩, trivial⟩⟩, trivial⟩ rfl, rfl, .inr (.inl ⟨by assumption, q1, rfl⟩)⟩
    · refine ⟨.tup [], [(0, rdOj 4 s (m + rawN nm rest) (l ++ [startT nm cl ats] ++ [textT (rawText nm rest)]).length), (3, .dead), (4, outO (l ++ [startT nm cl ats] ++ [textT (rawText nm rest)]))], ⟨⟨rfl, .inr ⟨⟨rfl, rfl, ⟨rfl, rfl, rfl⟩, trivial⟩, trivial⟩⟩, trivial, ⟨rfl, .inl ⟨rfl, dataA_pure _⟩⟩, trivial⟩, rfl, trivial, ?_⟩
      repeat' (first | refine PureC.use hc1 ?_ | refine PureC.use hc2 ?_ | refine PureC.use hc3 ?_ | refine PureC.use hc4 ?_ |        refine CallsAbs.use1 hd1 ?_ | refine CallsAbs.use1 hd2 ?_ |   refine CallsAbs.use1 (he1 _ (by rfl) (by rfl)) ?_ |        refine ⟨fun _ => ?_, fun h => absurd h (by decide)⟩ | refine ⟨fun h => absurd h (by decide), fun _ => ?_⟩ | (refine ⟨fun h => ?_, fun h => ?_⟩ <;> (try simp only [decide_eq_true_eq, decide_eq_false_iff_not, Bool.not_eq_true', Bool.not_eq_false', Bool.not_eq_true, Bool.not_eq_false, not_true_eq_false, beq_iff_eq, beq_eq_false_iff_ne, ne_eq, decide_eq_decide, true_iff, false_iff, iff_true, iff_false, true_and, and_true, false_or, or_false, Bool.and_true, Bool.and_eq_true, Bool.and_eq_false_iff, Bool.or_eq_true, Bool.or_eq_false_iff, List.length_cons, List.length_nil] at h) <;> (try (exfalso; first | omega | exact h rfl | (cases h; done) | exact absurd h (by assumption) | exact h (by assumption) | (simp at h; done)))) | refine ⟨⟨by (first | omega | (simp only [lenS]; omega)), by (first | omega | (simp only [lenS]; omega))⟩, _, by assumption, by rfl, ?_⟩ | refine .inl ⟨⟨by (first | omega | (simp only [lenS]; omega)), by (first | omega | (simp only [lenS]; omega))⟩, ?_⟩ | refine ⟨⟨by (first | omega | (simp only [lenS]; omega)), by (first | omega | (simp only [lenS]; omega))⟩, ?_⟩ | refine ⟨⟨by (first | omega | (simp only [lenS]; omega)), by (first | omega | (simp only [lenS]; omega)), by (first | omega | (simp only [lenS]; omega))⟩, ?_⟩ | refine ⟨.inl rfl, ?_⟩ | refine ⟨.inr (.inl (by (first | omega | (simp only [lenS]; omega)))), ?_⟩ | refine ⟨_, rfl, rfl, by (first | exact Nat.le_refl _ | exact Nat.le_of_ble_eq_true rfl | decide), ?_⟩ | refine ⟨_, rfl, by (first | exact Nat.le_refl _ | exact Nat.le_of_ble_eq_true rfl | decide), ?_⟩ | refine ⟨by (first | exact Nat.le_refl _ | exact Nat.le_of_ble_eq_true rfl | decide | exact rfl), ?_⟩ | refine ⟨show _ ≤ (9223372036854775807 : Nat) by (first | omega | (simp only [lenS]; omega)), ?_⟩ | refine ⟨show _ ≠ (0 : Int) by (first | omega | (simp only [lenS]; omega)), ?_⟩ | refine ⟨_, rfl, _, rfl, ?_⟩ | refine ⟨_, by assumption, Nat.le_of_ble_eq_true rfl, ?_⟩ | refine ⟨_, by assumption, _, rfl, ?_⟩ | refine ⟨_, rfl, ?_⟩ | fail)
      exact ⟨.d (.bool true), rdS2 s (m + rawN nm rest) (l ++ [startT nm cl ats] ++ [textT (rawText nm rest)]), fin_mv [.old 4] rfl rfl rfl ⟨⟨rfl, .inl ⟨rfl, dataA_pure _⟩⟩, ⟨rfl, .inr ⟨⟨rfl, rfl, ⟨rfl, rfl, rfl⟩, trivial⟩, trivial⟩⟩, trivial⟩ rfl, rfl, .inr (.inr ⟨by assumption, q1, rfl⟩)⟩
  · exact ⟨.d (.bool true), rdS2 s m (l ++ [startT nm cl ats]), fin_mv [.old 3] rfl rfl rfl ⟨⟨rfl, .inl ⟨rfl, dataA_pure _⟩⟩, ⟨rfl, .inr ⟨⟨rfl, rfl, ⟨rfl, rfl, rfl⟩, trivial⟩, trivial⟩⟩, trivial⟩ rfl, rfl, .inl ⟨by assumption, rfl⟩⟩
theorem valueAt_suf {s v r : List UInt8} (h : valueAt s = some (v, r)) : r <:+ s := by
  unfold valueAt at h
  split at h
  · cases h; exact List.suffix_refl _
  · split at h
    · split at h
      · cases h
      · cases h; exact (List.drop_suffix _ _).trans (List.suffix_cons _ _)
    · cases h; exact List.drop_suffix _ _
theorem skipB_suf (s : List UInt8) : skipB s <:+ s := List.drop_suffix _ _
theorem attrAt_suf {c : UInt8} {r r' : List UInt8} {a : Attr} (h : attrAt c r = some (a, r')) : r' <:+ r := by
  have h1 := (skipB_suf (r.drop (runN (hdB attrC) r))).trans (List.drop_suffix _ _)
  unfold attrAt at h
  split at h
  · cases h; exact List.nil_suffix
  · rename_i d r1 e
    rw [e] at h1
    split at h
    · cases hv : valueAt (skipB r1) with
      | none => rw [hv] at h; cases h
      | some v =>
        rw [hv] at h
        cases h
        exact ((valueAt_suf (v := v.1) (r := v.2) hv).trans (skipB_suf r1)).trans ((List.suffix_cons _ _).trans h1)
    · cases h; exact h1
theorem tagF_suf : ∀ (n : Nat) (s : List UInt8) (cl : Bool) (ats : List Attr) {x : Bool} {y : List Attr} {r : List UInt8}, tagF n s cl ats = some (x, y, r) → r <:+ s
  | 0, _, _, _, _, _, _, h => by cases h
  | n + 1, [], _, _, _, _, _, h => by cases h
  | n + 1, c :: r, cl, ats, x, y, r', h => by
    unfold tagF at h
    split at h
    · exact (tagF_suf n _ _ _ h).trans (List.suffix_cons _ _)
    · split at h
      · exact (tagF_suf n _ _ _ h).trans (List.suffix_cons _ _)
      · split at h
        · cases h; exact List.suffix_cons _ _
        · split at h
          · cases h
          · rename_i e
            exact ((tagF_suf n _ _ _ h).trans (attrAt_suf e)).trans (List.suffix_cons _ _)
theorem tagAt_suf {s nm r : List UInt8} {cl : Bool} {ats : List Attr} (h : tagAt s = some (nm, cl, ats, r)) : r <:+ s ∧ nm.length ≤ s.length := by
  unfold tagAt at h
  cases e : between (s.drop (runN (hdB nameC) s)) false [] with
  | none => rw [e] at h; cases h
  | some t =>
    rw [e] at h
    cases h
    refine ⟨(tagF_suf _ _ _ _ (x := t.1) (y := t.2.1) (r := t.2.2) e).trans (List.drop_suffix _ _), ?_⟩
    simp [lower]; omega
theorem suf_drop {r s : List UInt8} (h : r <:+ s) : s.drop (s.length - r.length) = r := (List.suffix_iff_eq_drop.1 h).symm
theorem suf_drop_n {r s : List UInt8} {n : Nat} (h : r <:+ s.drop n) : s.drop (s.length - r.length) = r ∧ r.length ≤ s.length - n := by
  refine ⟨suf_drop (h.trans (List.drop_suffix _ _)), ?_⟩
  have := h.length_le
  rwa [List.length_drop] at this
theorem step_suf {s r : List UInt8} {e : List Tok} (h : step s = some (e, r)) : r <:+ s := by
  unfold step at h
  split at h
  · cases h; exact List.drop_suffix _ _
  · cases h; exact (List.drop_suffix _ _).trans (List.drop_suffix _ _)
  · cases h; exact List.drop_suffix _ _
  · cases h; exact List.drop_suffix _ _
  · split at h
    · cases h
    · rename_i e
      have h1 := (tagAt_suf e).1
      split at h
      · cases h; exact ((List.drop_suffix _ _).trans h1).trans (List.drop_suffix _ _)
      · cases h; exact h1.trans (List.drop_suffix _ _)
  · split at h
    · cases h
    · rename_i e
      cases h
      exact (tagAt_suf e).1.trans (List.drop_suffix _ _)
/-- At most one token for a byte. -/
theorem step_count {s r : List UInt8} {e : List Tok} (hs : s ≠ []) (h : step s = some (e, r)) : e.length + r.length ≤ s.length := by
  have hlt := step_lt hs h
  unfold step at h
  split at h
  · cases h; simp at hlt ⊢; omega
  · cases h; simp at hlt ⊢; omega
  · cases h; simp at hlt ⊢
  · cases h; simp at hlt ⊢
  · split at h
    · cases h
    · rename_i e
      have h1 := tagAt_le e
      rw [List.length_drop] at h1
      split at h
      · cases h
        split
        · simp at hlt ⊢; omega
        · simp at hlt ⊢; omega
      · cases h; simp at hlt ⊢; omega
  · split at h
    · cases h
    · cases h; simp at hlt ⊢; omega
theorem kind_le (s : List UInt8) : kindL s = 0 ∨ kindL s = 1 ∨ kindL s = 2 ∨ kindL s = 3 ∨ kindL s = 4 ∨ kindL s = 5 := by
  unfold kindL
  repeat' split
  all_goals simp
theorem next_ok (s : List UInt8) (n : Nat) (l : List Tok) (hn : n < s.length) (hs : s.length ≤ 1000000) (hl : l.length < 1000000) :
    CallsAbs Try.prog 37 [.ref 0 0 0] (rdS s n l) (NextK s l (s.drop n)) := by
  have hl' : l.length ≤ 1000000 := by omega
  rcases kind_le (s.drop n) with hk | hk | hk | hk | hk | hk
  · exact next_text s n l hn hs hl' hk
  · exact next_note s n l hn hs hl' hk
  · exact next_over s n l hn hs hl' (.inl hk)
  · exact next_over s n l hn hs hl' (.inr hk)
  · cases ht : tagAt (s.drop (n + 1)) with
    | none =>
      refine next_stop s n l hn hs hl' (.inl hk) ?_
      have ht' : tagAt ((s.drop n).drop 1) = none := by rw [List.drop_drop]; exact ht
      unfold step
      simp only [hk, ht']
    | some t =>
      obtain ⟨nm, cl, ats, rest⟩ := t
      obtain ⟨h1, h2⟩ := tagAt_suf ht
      obtain ⟨h3, h4⟩ := suf_drop_n h1
      rw [List.length_drop] at h2
      exact next_start s n l hn hs hl hk ht h3 (by omega) (by omega)
  · cases ht : tagAt (s.drop (n + 2)) with
    | none =>
      refine next_stop s n l hn hs hl' (.inr hk) ?_
      have ht' : tagAt ((s.drop n).drop 2) = none := by rw [List.drop_drop]; exact ht
      unfold step
      simp only [hk, ht']
    | some t =>
      obtain ⟨nm, cl, ats, rest⟩ := t
      exact next_end s n l hn hs hl' hk ht
theorem fin_ownD {σ : Store} {i len : Nat} {sz : Nat × Nat} {rs : List (List AV)} {ds : List (List D)} (ho : σ.get i = .rows sz rs) (hds : rowsD rs = some ds) (hl : len = ds.length) : FinMove ⟨0, []⟩ (.own i 0 len) σ (.d (.sl ds)) ⟨0, []⟩ := by
  have h1 := fin_freeze (σ0 := ⟨0, []⟩) (r := .own i 0 len) i ho hds (fun _ => by rw [Nat.zero_add, hl, (rowsD_get hds).1]; exact Nat.le_refl _)
  rw [frz_whole i ds len hl] at h1
  exact h1.trans (fin_mv [] (Nat.ble_eq_true_of_le (Nat.zero_le _)) rfl rfl trivial rfl)
set_option maxRecDepth 100000 in
theorem TokensO_ok (s : List UInt8) (hs : s.length < 1000000) : CallsAbs Try.prog 21 [.d (.str s)] ⟨0, []⟩ fun r σ' => r = .own 0 0 (toks s).length ∧ σ' = ⟨1, [(0, outO (toks s))]⟩ := by
  refine fn_okT Try.wf Try.tab_ok Try.func21 (by decide +kernel) rfl rfl ?_
  repeat' (first |                        refine ⟨fun _ => ?_, fun h => absurd h (by decide)⟩ | refine ⟨fun h => absurd h (by decide), fun _ => ?_⟩ | (refine ⟨fun h => ?_, fun h => ?_⟩ <;> (try simp only [decide_eq_true_eq, decide_eq_false_iff_not, Bool.not_eq_true', Bool.not_eq_false', Bool.not_eq_true, Bool.not_eq_false, not_true_eq_false, beq_iff_eq, beq_eq_false_iff_ne, ne_eq, decide_eq_decide, true_iff, false_iff, iff_true, iff_false, true_and, and_true, false_or, or_false, Bool.and_true, Bool.and_eq_true, Bool.and_eq_false_iff, Bool.or_eq_true, Bool.or_eq_false_iff, List.length_cons, List.length_nil] at h) <;> (try (exfalso; first | omega | exact h rfl | (cases h; done) | exact absurd h (by assumption) | exact h (by assumption) | (simp at h; done)))) | refine ⟨⟨by (first | omega | (simp only [lenS]; omega)), by (first | omega | (simp only [lenS]; omega))⟩, _, by assumption, by rfl, ?_⟩ | refine .inl ⟨⟨by (first | omega | (simp only [lenS]; omega)), by (first | omega | (simp only [lenS]; omega))⟩, ?_⟩ | refine ⟨⟨by (first | omega | (simp only [lenS]; omega)), by (first | omega | (simp only [lenS]; omega))⟩, ?_⟩ | refine ⟨⟨by (first | omega | (simp only [lenS]; omega)), by (first | omega | (simp only [lenS]; omega)), by (first | omega | (simp only [lenS]; omega))⟩, ?_⟩ | refine ⟨.inl rfl, ?_⟩ | refine ⟨.inr (.inl (by (first | omega | (simp only [lenS]; omega)))), ?_⟩ | refine ⟨_, rfl, rfl, by (first | exact Nat.le_refl _ | exact Nat.le_of_ble_eq_true rfl | decide), ?_⟩ | refine ⟨_, rfl, by (first | exact Nat.le_refl _ | exact Nat.le_of_ble_eq_true rfl | decide), ?_⟩ | refine ⟨by (first | exact Nat.le_refl _ | exact Nat.le_of_ble_eq_true rfl | decide | exact rfl), ?_⟩ | refine ⟨show _ ≤ (9223372036854775807 : Nat) by (first | omega | (simp only [lenS]; omega)), ?_⟩ | refine ⟨show _ ≠ (0 : Int) by (first | omega | (simp only [lenS]; omega)), ?_⟩ | refine ⟨_, rfl, _, rfl, ?_⟩ | refine ⟨_, by assumption, Nat.le_of_ble_eq_true rfl, ?_⟩ | refine ⟨_, by assumption, _, rfl, ?_⟩ | refine ⟨_, rfl, ?_⟩ | fail)
  have out : ∀ (n : Nat) (l : List Tok), l = toks s → ∃ r2 σ2, FinMove ⟨0, []⟩ (.own 1 0 l.length) (rdS s n l) r2 σ2 ∧ r2 = .own 0 0 (toks s).length ∧ σ2 = ⟨1, [(0, outO (toks s))]⟩ := fun n l e => by
    subst e
    exact ⟨.own 0 0 (toks s).length, ⟨1, [(0, outO (toks s))]⟩, fin_mv [.old 1] rfl rfl rfl ⟨⟨rfl, .inl ⟨rfl, dataA_pure _⟩⟩, trivial⟩ ⟨rfl, rfl, rfl⟩, rfl, rfl⟩
  refine loopT Try.wf Try.tab_ok (fun m s' σ => ∃ (n : Nat) (l : List Tok), m = s.length - n ∧ n ≤ s.length ∧ l.length ≤ n ∧ l ++ toks (s.drop n) = toks s ∧ s' = [(0, .d (.str s)), (3, .ref 0 0 0)] ∧ σ = rdS s n l)
    ⟨0, [], rfl, Nat.zero_le _, Nat.le_refl _, rfl, rfl, rfl⟩ (Mv.of [.old 0, .phan 5] rfl rfl rfl ⟨rfl, ⟨rfl, .inr ⟨⟨rfl, rfl, ⟨rfl, rfl, rfl⟩, trivial⟩, trivial⟩⟩, trivial⟩ ⟨rfl, ⟨rfl, rfl, rfl⟩, trivial⟩) ?_
  rintro _ _ _ ⟨n, l, rfl, hn, hln, hI, rfl, rfl⟩
  by_cases hlt : n < s.length
  · have hne : s.drop n ≠ [] := fun e => by rw [List.drop_eq_nil_iff] at e; omega
    have hnx := next_ok s n l hlt (by omega) (by omega)
    repeat' (first |                        refine ⟨fun _ => ?_, fun h => absurd h (by decide)⟩ | refine ⟨fun h => absurd h (by decide), fun _ => ?_⟩ | (refine ⟨fun h => ?_, fun h => ?_⟩ <;> (try simp only [decide_eq_true_eq, decide_eq_false_iff_not, Bool.not_eq_true', Bool.not_eq_false', Bool.not_eq_true, Bool.not_eq_false, not_true_eq_false, beq_iff_eq, beq_eq_false_iff_ne, ne_eq, decide_eq_decide, true_iff, false_iff, iff_true, iff_false, true_and, and_true, false_or, or_false, Bool.and_true, Bool.and_eq_true, Bool.and_eq_false_iff, Bool.or_eq_true, Bool.or_eq_false_iff, List.length_cons, List.length_nil] at h) <;> (try (exfalso; first | omega | exact h rfl | (cases h; done) | exact absurd h (by assumption) | exact h (by assumption) | (simp at h; done)))) | refine ⟨⟨by (first | omega | (simp only [lenS]; omega)), by (first | omega | (simp only [lenS]; omega))⟩, _, by assumption, by rfl, ?_⟩ | refine .inl ⟨⟨by (first | omega | (simp only [lenS]; omega)), by (first | omega | (simp only [lenS]; omega))⟩, ?_⟩ | refine ⟨⟨by (first | omega | (simp only [lenS]; omega)), by (first | omega | (simp only [lenS]; omega))⟩, ?_⟩ | refine ⟨⟨by (first | omega | (simp only [lenS]; omega)), by (first | omega | (simp only [lenS]; omega)), by (first | omega | (simp only [lenS]; omega))⟩, ?_⟩ | refine ⟨.inl rfl, ?_⟩ | refine ⟨.inr (.inl (by (first | omega | (simp only [lenS]; omega)))), ?_⟩ | refine ⟨_, rfl, rfl, by (first | exact Nat.le_refl _ | exact Nat.le_of_ble_eq_true rfl | decide), ?_⟩ | refine ⟨_, rfl, by (first | exact Nat.le_refl _ | exact Nat.le_of_ble_eq_true rfl | decide), ?_⟩ | refine ⟨by (first | exact Nat.le_refl _ | exact Nat.le_of_ble_eq_true rfl | decide | exact rfl), ?_⟩ | refine ⟨show _ ≤ (9223372036854775807 : Nat) by (first | omega | (simp only [lenS]; omega)), ?_⟩ | refine ⟨show _ ≠ (0 : Int) by (first | omega | (simp only [lenS]; omega)), ?_⟩ | refine ⟨_, rfl, _, rfl, ?_⟩ | refine ⟨_, by assumption, Nat.le_of_ble_eq_true rfl, ?_⟩ | refine ⟨_, by assumption, _, rfl, ?_⟩ | refine ⟨_, rfl, ?_⟩ | fail)
    refine hnx.mono fun r σ' h => ?_
    unfold NextK at h
    cases hst : step (s.drop n) with
    | none =>
      rw [hst] at h
      obtain ⟨m, hm, rfl, rfl⟩ := h
      rw [toks_none hst, List.append_nil] at hI
      repeat' (first |                        refine ⟨fun _ => ?_, fun h => absurd h (by decide)⟩ | refine ⟨fun h => absurd h (by decide), fun _ => ?_⟩ | (refine ⟨fun h => ?_, fun h => ?_⟩ <;> (try simp only [decide_eq_true_eq, decide_eq_false_iff_not, Bool.not_eq_true', Bool.not_eq_false', Bool.not_eq_true, Bool.not_eq_false, not_true_eq_false, beq_iff_eq, beq_eq_false_iff_ne, ne_eq, decide_eq_decide, true_iff, false_iff, iff_true, iff_false, true_and, and_true, false_or, or_false, Bool.and_true, Bool.and_eq_true, Bool.and_eq_false_iff, Bool.or_eq_true, Bool.or_eq_false_iff, List.length_cons, List.length_nil] at h) <;> (try (exfalso; first | omega | exact h rfl | (cases h; done) | exact absurd h (by assumption) | exact h (by assumption) | (simp at h; done)))) | refine ⟨⟨by (first | omega | (simp only [lenS]; omega)), by (first | omega | (simp only [lenS]; omega))⟩, _, by assumption, by rfl, ?_⟩ | refine .inl ⟨⟨by (first | omega | (simp only [lenS]; omega)), by (first | omega | (simp only [lenS]; omega))⟩, ?_⟩ | refine ⟨⟨by (first | omega | (simp only [lenS]; omega)), by (first | omega | (simp only [lenS]; omega))⟩, ?_⟩ | refine ⟨⟨by (first | omega | (simp only [lenS]; omega)), by (first | omega | (simp only [lenS]; omega)), by (first | omega | (simp only [lenS]; omega))⟩, ?_⟩ | refine ⟨.inl rfl, ?_⟩ | refine ⟨.inr (.inl (by (first | omega | (simp only [lenS]; omega)))), ?_⟩ | refine ⟨_, rfl, rfl, by (first | exact Nat.le_refl _ | exact Nat.le_of_ble_eq_true rfl | decide), ?_⟩ | refine ⟨_, rfl, by (first | exact Nat.le_refl _ | exact Nat.le_of_ble_eq_true rfl | decide), ?_⟩ | refine ⟨by (first | exact Nat.le_refl _ | exact Nat.le_of_ble_eq_true rfl | decide | exact rfl), ?_⟩ | refine ⟨show _ ≤ (9223372036854775807 : Nat) by (first | omega | (simp only [lenS]; omega)), ?_⟩ | refine ⟨show _ ≠ (0 : Int) by (first | omega | (simp only [lenS]; omega)), ?_⟩ | refine ⟨_, rfl, _, rfl, ?_⟩ | refine ⟨_, by assumption, Nat.le_of_ble_eq_true rfl, ?_⟩ | refine ⟨_, by assumption, _, rfl, ?_⟩ | refine ⟨_, rfl, ?_⟩ | fail)
      exact out _ _ hI
    | some x =>
      obtain ⟨e, r'⟩ := x
      rw [hst] at h
      have hsf := suf_drop_n (step_suf hst)
      have hct := step_count hne hst
      have hslt := step_lt hne hst
      rw [List.length_drop] at hct hslt
      rw [toks_some hne hst, ← List.append_assoc, ← hsf.1] at hI
      rcases h with ⟨rfl, ⟨rfl, rfl⟩ | ⟨he, rfl⟩⟩
      · repeat' (first |                        refine ⟨fun _ => ?_, fun h => absurd h (by decide)⟩ | refine ⟨fun h => absurd h (by decide), fun _ => ?_⟩ | (refine ⟨fun h => ?_, fun h => ?_⟩ <;> (try simp only [decide_eq_true_eq, decide_eq_false_iff_not, Bool.not_eq_true', Bool.not_eq_false', Bool.not_eq_true, Bool.not_eq_false, not_true_eq_false, beq_iff_eq, beq_eq_false_iff_ne, ne_eq, decide_eq_decide, true_iff, false_iff, iff_true, iff_false, true_and, and_true, false_or, or_false, Bool.and_true, Bool.and_eq_true, Bool.and_eq_false_iff, Bool.or_eq_true, Bool.or_eq_false_iff, List.length_cons, List.length_nil] at h) <;> (try (exfalso; first | omega | exact h rfl | (cases h; done) | exact absurd h (by assumption) | exact h (by assumption) | (simp at h; done)))) | refine ⟨⟨by (first | omega | (simp only [lenS]; omega)), by (first | omega | (simp only [lenS]; omega))⟩, _, by assumption, by rfl, ?_⟩ | refine .inl ⟨⟨by (first | omega | (simp only [lenS]; omega)), by (first | omega | (simp only [lenS]; omega))⟩, ?_⟩ | refine ⟨⟨by (first | omega | (simp only [lenS]; omega)), by (first | omega | (simp only [lenS]; omega))⟩, ?_⟩ | refine ⟨⟨by (first | omega | (simp only [lenS]; omega)), by (first | omega | (simp only [lenS]; omega)), by (first | omega | (simp only [lenS]; omega))⟩, ?_⟩ | refine ⟨.inl rfl, ?_⟩ | refine ⟨.inr (.inl (by (first | omega | (simp only [lenS]; omega)))), ?_⟩ | refine ⟨_, rfl, rfl, by (first | exact Nat.le_refl _ | exact Nat.le_of_ble_eq_true rfl | decide), ?_⟩ | refine ⟨_, rfl, by (first | exact Nat.le_refl _ | exact Nat.le_of_ble_eq_true rfl | decide), ?_⟩ | refine ⟨by (first | exact Nat.le_refl _ | exact Nat.le_of_ble_eq_true rfl | decide | exact rfl), ?_⟩ | refine ⟨show _ ≤ (9223372036854775807 : Nat) by (first | omega | (simp only [lenS]; omega)), ?_⟩ | refine ⟨show _ ≠ (0 : Int) by (first | omega | (simp only [lenS]; omega)), ?_⟩ | refine ⟨_, rfl, _, rfl, ?_⟩ | refine ⟨_, by assumption, Nat.le_of_ble_eq_true rfl, ?_⟩ | refine ⟨_, by assumption, _, rfl, ?_⟩ | refine ⟨_, rfl, ?_⟩ | fail)
        rw [List.append_nil] at hI
        exact ⟨_, _, _, ⟨s.length - r'.length, l, rfl, by omega, by simp at hct; omega, hI, rfl, rfl⟩, by omega, Mv.of [.old 0, .old 1] rfl rfl rfl ⟨⟨rfl, .inl ⟨rfl, dataA_pure _⟩⟩, ⟨rfl, .inr ⟨⟨rfl, rfl, ⟨rfl, rfl, rfl⟩, trivial⟩, trivial⟩⟩, trivial⟩ ⟨rfl, ⟨rfl, rfl, rfl⟩, trivial⟩⟩
      · repeat' (first |                        refine ⟨fun _ => ?_, fun h => absurd h (by decide)⟩ | refine ⟨fun h => absurd h (by decide), fun _ => ?_⟩ | (refine ⟨fun h => ?_, fun h => ?_⟩ <;> (try simp only [decide_eq_true_eq, decide_eq_false_iff_not, Bool.not_eq_true', Bool.not_eq_false', Bool.not_eq_true, Bool.not_eq_false, not_true_eq_false, beq_iff_eq, beq_eq_false_iff_ne, ne_eq, decide_eq_decide, true_iff, false_iff, iff_true, iff_false, true_and, and_true, false_or, or_false, Bool.and_true, Bool.and_eq_true, Bool.and_eq_false_iff, Bool.or_eq_true, Bool.or_eq_false_iff, List.length_cons, List.length_nil] at h) <;> (try (exfalso; first | omega | exact h rfl | (cases h; done) | exact absurd h (by assumption) | exact h (by assumption) | (simp at h; done)))) | refine ⟨⟨by (first | omega | (simp only [lenS]; omega)), by (first | omega | (simp only [lenS]; omega))⟩, _, by assumption, by rfl, ?_⟩ | refine .inl ⟨⟨by (first | omega | (simp only [lenS]; omega)), by (first | omega | (simp only [lenS]; omega))⟩, ?_⟩ | refine ⟨⟨by (first | omega | (simp only [lenS]; omega)), by (first | omega | (simp only [lenS]; omega))⟩, ?_⟩ | refine ⟨⟨by (first | omega | (simp only [lenS]; omega)), by (first | omega | (simp only [lenS]; omega)), by (first | omega | (simp only [lenS]; omega))⟩, ?_⟩ | refine ⟨.inl rfl, ?_⟩ | refine ⟨.inr (.inl (by (first | omega | (simp only [lenS]; omega)))), ?_⟩ | refine ⟨_, rfl, rfl, by (first | exact Nat.le_refl _ | exact Nat.le_of_ble_eq_true rfl | decide), ?_⟩ | refine ⟨_, rfl, by (first | exact Nat.le_refl _ | exact Nat.le_of_ble_eq_true rfl | decide), ?_⟩ | refine ⟨by (first | exact Nat.le_refl _ | exact Nat.le_of_ble_eq_true rfl | decide | exact rfl), ?_⟩ | refine ⟨show _ ≤ (9223372036854775807 : Nat) by (first | omega | (simp only [lenS]; omega)), ?_⟩ | refine ⟨show _ ≠ (0 : Int) by (first | omega | (simp only [lenS]; omega)), ?_⟩ | refine ⟨_, rfl, _, rfl, ?_⟩ | refine ⟨_, by assumption, Nat.le_of_ble_eq_true rfl, ?_⟩ | refine ⟨_, by assumption, _, rfl, ?_⟩ | refine ⟨_, rfl, ?_⟩ | fail)
        exact ⟨_, _, _, ⟨s.length - r'.length, l ++ e, rfl, by omega, by rw [List.length_append]; omega, hI, rfl, rfl⟩, by omega, Mv.of [.old 0, .old 2] rfl rfl rfl ⟨⟨rfl, .inl ⟨rfl, dataA_pure _⟩⟩, ⟨rfl, .inr ⟨⟨rfl, rfl, ⟨rfl, rfl, rfl⟩, trivial⟩, trivial⟩⟩, trivial⟩ ⟨rfl, ⟨rfl, rfl, rfl⟩, trivial⟩⟩
  · have : s.drop n = [] := List.drop_eq_nil_iff.2 (by omega)
    rw [this, toks_nil, List.append_nil] at hI
    repeat' (first |                        refine ⟨fun _ => ?_, fun h => absurd h (by decide)⟩ | refine ⟨fun h => absurd h (by decide), fun _ => ?_⟩ | (refine ⟨fun h => ?_, fun h => ?_⟩ <;> (try simp only [decide_eq_true_eq, decide_eq_false_iff_not, Bool.not_eq_true', Bool.not_eq_false', Bool.not_eq_true, Bool.not_eq_false, not_true_eq_false, beq_iff_eq, beq_eq_false_iff_ne, ne_eq, decide_eq_decide, true_iff, false_iff, iff_true, iff_false, true_and, and_true, false_or, or_false, Bool.and_true, Bool.and_eq_true, Bool.and_eq_false_iff, Bool.or_eq_true, Bool.or_eq_false_iff, List.length_cons, List.length_nil] at h) <;> (try (exfalso; first | omega | exact h rfl | (cases h; done) | exact absurd h (by assumption) | exact h (by assumption) | (simp at h; done)))) | refine ⟨⟨by (first | omega | (simp only [lenS]; omega)), by (first | omega | (simp only [lenS]; omega))⟩, _, by assumption, by rfl, ?_⟩ | refine .inl ⟨⟨by (first | omega | (simp only [lenS]; omega)), by (first | omega | (simp only [lenS]; omega))⟩, ?_⟩ | refine ⟨⟨by (first | omega | (simp only [lenS]; omega)), by (first | omega | (simp only [lenS]; omega))⟩, ?_⟩ | refine ⟨⟨by (first | omega | (simp only [lenS]; omega)), by (first | omega | (simp only [lenS]; omega)), by (first | omega | (simp only [lenS]; omega))⟩, ?_⟩ | refine ⟨.inl rfl, ?_⟩ | refine ⟨.inr (.inl (by (first | omega | (simp only [lenS]; omega)))), ?_⟩ | refine ⟨_, rfl, rfl, by (first | exact Nat.le_refl _ | exact Nat.le_of_ble_eq_true rfl | decide), ?_⟩ | refine ⟨_, rfl, by (first | exact Nat.le_refl _ | exact Nat.le_of_ble_eq_true rfl | decide), ?_⟩ | refine ⟨by (first | exact Nat.le_refl _ | exact Nat.le_of_ble_eq_true rfl | decide | exact rfl), ?_⟩ | refine ⟨show _ ≤ (9223372036854775807 : Nat) by (first | omega | (simp only [lenS]; omega)), ?_⟩ | refine ⟨show _ ≠ (0 : Int) by (first | omega | (simp only [lenS]; omega)), ?_⟩ | refine ⟨_, rfl, _, rfl, ?_⟩ | refine ⟨_, by assumption, Nat.le_of_ble_eq_true rfl, ?_⟩ | refine ⟨_, by assumption, _, rfl, ?_⟩ | refine ⟨_, rfl, ?_⟩ | fail)
    exact out _ _ hI
theorem _root_.Go.Aw.CallsAbs.fin {P : Program} {f : FuncId} {args : List AV} {σ : Store} {R : AV → Store → Prop} (hout : Callable P f) (h : CallsAbs P f args σ fun r σ1 => ∃ r' σ', FinMove σ r σ1 r' σ' ∧ R r' σ') : CallsAbs P f args σ R := by
  rcases h with h | ⟨fn, e, h1, h2, h3, h4⟩
  · exact .inl h.fin
  · obtain ⟨fn', q1, q2, q3⟩ := hout
    rw [h1] at q1
    cases q1
    rw [h3] at q3; cases q3
theorem Tokens_ok (s : List UInt8) (hs : s.length < 1000000) : PureC Try.prog 21 [.d (.str s)] (.d (.sl (toksD (toks s)))) := by
  refine PureC.of rfl rfl (CallsAbs.fin ⟨_, Try.func21, by decide +kernel, rfl⟩ ((TokensO_ok s hs).mono ?_))
  rintro _ _ ⟨rfl, rfl⟩
  exact ⟨.d (.sl (toksD (toks s))), ⟨0, []⟩, fin_ownD rfl (rowsD_d _) (toksD_len _).symm, rfl, rfl⟩
end Go.Proofs.Ytcmkiancbgmmhaa

namespace Go.Proofs.Ytcmkiancbgmmhaa
open Go.Aw
set_option maxHeartbeats 1600000
set_option linter.unusedSimpArgs false
set_option linter.unusedVariables false
theorem esc1_clean (q : Bool) (c : UInt8) : ∀ d ∈ esc1 q c, d ≠ 60 ∧ d ≠ 62 ∧ (q = true → d ≠ 34) := by
  unfold esc1
  split
  · intro d hd; revert d; cases q <;> decide
  · split
    · intro d hd; revert d; cases q <;> decide
    · split
      · intro d hd; revert d; cases q <;> decide
      · split
        · intro d hd; revert d; cases q <;> decide
        · rename_i h1 h2 h3 h4
          intro d hd
          simp at hd
          subst hd
          exact ⟨h2, h3, fun hq e => h4 ⟨e, hq⟩⟩
theorem escape_clean (q : Bool) : ∀ (n : Nat) (s : List UInt8), s.length ≤ n → ∀ d ∈ escape q s, d ≠ 60 ∧ d ≠ 62 ∧ (q = true → d ≠ 34)
  | _, [], _ => by simp [escape]
  | 0, _ :: _, h => by simp at h
  | n + 1, c :: r, h => by
    simp at h
    by_cases hc : c = 194 ∧ ∃ t, r = 160 :: t
    · obtain ⟨rfl, t, rfl⟩ := hc
      rw [escape_nb]
      intro d hd
      rcases List.mem_append.1 hd with hd2 | hd
      · clear hd; revert d; cases q <;> decide
      · exact escape_clean q n t (by simp at h; omega) d hd
    · rw [escape_cons _ c r hc]
      intro d hd
      rcases List.mem_append.1 hd with hd | hd
      · exact esc1_clean q c d hd
      · exact escape_clean q n r h d hd
theorem resolve_ref (x t : List UInt8) (u : List UInt8) (h : (59 : UInt8) ∉ x) (hl : x.length ≤ 10) (hs : stands x = some u) : resolve (38 :: (x ++ 59 :: t)) = u ++ resolve t := by
  rw [resolve_amp, oneR_some x t h hl, hs]; rfl
theorem resolve_escape (q : Bool) : ∀ (n : Nat) (s : List UInt8), s.length ≤ n → resolve (escape q s) = s
  | _, [], _ => rfl
  | 0, _ :: _, h => by simp at h
  | n + 1, c :: r, h => by
    simp at h
    by_cases hc : c = 194 ∧ ∃ t, r = 160 :: t
    · obtain ⟨rfl, t, rfl⟩ := hc
      have ih := resolve_escape q n t (by simp at h; omega)
      rw [escape_nb]
      have := resolve_ref [110, 98, 115, 112] (escape q t) [194, 160] (by decide) (by decide) (by decide +kernel)
      exact this.trans (by rw [ih]; rfl)
    · rw [escape_cons _ c r hc]
      have ih := resolve_escape q n r h
      unfold esc1
      split
      · rename_i h1; subst h1
        exact (resolve_ref [97, 109, 112] (escape q r) [38] (by decide) (by decide) (by decide +kernel)).trans (by rw [ih]; rfl)
      · split
        · rename_i h1; subst h1
          exact (resolve_ref [108, 116] (escape q r) [60] (by decide) (by decide) (by decide +kernel)).trans (by rw [ih]; rfl)
        · split
          · rename_i h1; subst h1
            exact (resolve_ref [103, 116] (escape q r) [62] (by decide) (by decide) (by decide +kernel)).trans (by rw [ih]; rfl)
          · split
            · rename_i h1; obtain ⟨rfl, _⟩ := h1
              exact (resolve_ref [113, 117, 111, 116] (escape q r) [34] (by decide) (by decide) (by decide +kernel)).trans (by rw [ih]; rfl)
            · rename_i h38 _ _ _
              show resolve (c :: escape q r) = _
              rw [resolve_other c _ h38, ih]
end Go.Proofs.Ytcmkiancbgmmhaa

namespace Go.Proofs.Ytcmkiancbgmmhaa
open Go.Aw
set_option maxHeartbeats 1600000
set_option linter.unusedSimpArgs false
set_option linter.unusedVariables false
theorem u8_all (P : UInt8 → Bool) (h : ((List.range 256).all fun n => P (UInt8.ofNat n)) = true) (c : UInt8) : P c = true := by
  have := List.all_eq_true.1 h c.toNat (List.mem_range.2 c.toNat_lt)
  rwa [UInt8.ofNat_toNat] at this
theorem kind_head {c : UInt8} {r : List UInt8} (h : c ≠ 60) : kindL (c :: r) = 0 := by
  unfold kindL
  split
  · rename_i a d t e
    cases e
    exact if_neg h
  · rfl
/-- How far text goes. -/
theorem run_text (x y : List UInt8) (h : (60 : UInt8) ∉ x) (hy : y = [] ∨ kindL y ≠ 0) : runN plainB (x ++ y) = x.length := by
  refine runN_eq _ _ _ (by simp) (fun j hj => ?_) (fun hl => ?_)
  · rw [List.drop_append_of_le_length (Nat.le_of_lt hj), List.drop_eq_getElem_cons hj]
    unfold plainB
    rw [List.cons_append, kind_head (fun e => h (e ▸ List.getElem_mem hj))]; rfl
  · rw [List.drop_left]
    rcases hy with rfl | hy
    · simp at hl
    · unfold plainB; exact decide_eq_false hy
theorem toks_text (x y : List UInt8) (hx : x ≠ []) (h : (60 : UInt8) ∉ x) (hy : y = [] ∨ kindL y ≠ 0) : toks (x ++ y) = textT (resolve x) :: toks y := by
  have hk : kindL (x ++ y) = 0 := by
    cases x with
    | nil => exact absurd rfl hx
    | cons c r => exact kind_head (fun e => h (by simp [e]))
  have hst : step (x ++ y) = some ([textT (resolve x)], y) := by
    unfold step
    simp only [hk]
    rw [run_text x y h hy, List.take_left, List.drop_left]
  rw [toks_some (by simp [hx]) hst]; rfl
theorem esc_free (q : Bool) (s : List UInt8) : (60 : UInt8) ∉ escape q s := fun h => (escape_clean q s.length s (Nat.le_refl _) 60 h).1 rfl
theorem res_esc (q : Bool) (s : List UInt8) : resolve (escape q s) = s := resolve_escape q s.length s (Nat.le_refl _)
theorem esc_nil (q : Bool) (s : List UInt8) : escape q s = [] ↔ s = [] := by
  constructor
  · intro h
    have := (escape_len s.length q s (Nat.le_refl _)).1
    rw [h] at this
    exact List.length_eq_zero_iff.1 (by simpa using this)
  · rintro rfl; rfl
/-- A small letter, and small letters and digits behind it. -/
def simC (c : UInt8) : Bool := (decide (97 ≤ c.toNat) && decide (c.toNat ≤ 122)) || (decide (48 ≤ c.toNat) && decide (c.toNat ≤ 57))
theorem letter_sim (c : UInt8) (h : (decide (97 ≤ c.toNat) && decide (c.toNat ≤ 122)) = true) : simC c = true ∧ ltrB c = true := by
  unfold simC ltrB
  rw [h]; exact ⟨rfl, rfl⟩
theorem run_all (p : UInt8 → Bool) (x y : List UInt8) (h : ∀ c ∈ x, p c = true) (hy : y = [] ∨ hdB p y = false) : runN (hdB p) (x ++ y) = x.length := by
  refine runN_eq _ _ _ (by simp) (fun j hj => ?_) (fun hl => ?_)
  · rw [List.drop_append_of_le_length (Nat.le_of_lt hj), List.drop_eq_getElem_cons hj]
    exact h _ (List.getElem_mem hj)
  · rw [List.drop_left]
    rcases hy with rfl | hy
    · simp at hl
    · exact hy
theorem valueAt_cons (c : UInt8) (r : List UInt8) : valueAt (c :: r) = if c = 34 ∨ c = 39 then
      (if runN (hdB fun x => !decide (x = c)) r = r.length then none else some (r.take (runN (hdB fun x => !decide (x = c)) r), r.drop (runN (hdB fun x => !decide (x = c)) r + 1)))
    else some ((c :: r).take (runN (hdB bareC) (c :: r)), (c :: r).drop (runN (hdB bareC) (c :: r))) := rfl
theorem toks_ind {P : Tok → Prop} (hstep : ∀ (s r : List UInt8) (e : List Tok), s ≠ [] → step s = some (e, r) → ∀ t ∈ e, P t) : ∀ (n : Nat) (s : List UInt8), s.length ≤ n → ∀ t ∈ toks s, P t
  | n, s, hn, t, ht => by
    by_cases hs : s = []
    · subst hs; simp [toks_nil] at ht
    · cases hst : step s with
      | none => rw [toks_none hst] at ht; simp at ht
      | some x =>
        obtain ⟨e, r⟩ := x
        rw [toks_some hs hst] at ht
        rcases List.mem_append.1 ht with h | h
        · exact hstep s r e hs hst t h
        · have hlt := step_lt hs hst
          cases n with
          | zero => omega
          | succ n => exact toks_ind hstep n r (by omega) t h
theorem toks_len : ∀ (n : Nat) (s : List UInt8), s.length ≤ n → (toks s).length ≤ s.length
  | n, s, hn => by
    by_cases hs : s = []
    · subst hs; simp [toks_nil]
    · cases hst : step s with
      | none => rw [toks_none hst]; simp
      | some x =>
        obtain ⟨e, r⟩ := x
        rw [toks_some hs hst, List.length_append]
        have hlt := step_lt hs hst
        have hct := step_count hs hst
        cases n with
        | zero => omega
        | succ n =>
          have := toks_len n r (by omega)
          omega
/-- No attribute twice. -/
def Uniq (ats : List Attr) : Prop := ∀ (j k : Nat) (h : j < k) (hk : k < ats.length), (ats[j]'(by omega)).1 ≠ ats[k].1
theorem uniq_add {ats : List Attr} (h : Uniq ats) (a : Attr) : Uniq (addA ats a) := by
  unfold addA
  split
  · exact h
  · rename_i hn
    intro j k hjk hk
    simp at hk
    by_cases hk2 : k < ats.length
    · rw [List.getElem_append_left (by omega), List.getElem_append_left hk2]
      exact h j k hjk hk2
    · have : k = ats.length := by omega
      subst this
      rw [List.getElem_append_left (by omega), List.getElem_append_right (by omega)]
      simp
      intro e
      exact hn (List.mem_map.2 ⟨ats[j], List.getElem_mem _, e⟩)
theorem addA_len (ats : List Attr) (a : Attr) : (addA ats a).length ≤ ats.length + 1 := by
  unfold addA
  split <;> simp
theorem tagF_ats : ∀ (n : Nat) (s : List UInt8) (cl : Bool) (ats : List Attr) {x : Bool} {y : List Attr} {r : List UInt8}, tagF n s cl ats = some (x, y, r) → Uniq ats → Uniq y ∧ y.length ≤ ats.length + s.length
  | 0, _, _, _, _, _, _, h, _ => by cases h
  | n + 1, [], _, _, _, _, _, h, _ => by cases h
  | n + 1, c :: r, cl, ats, x, y, r', h, hu => by
    unfold tagF at h
    rw [List.length_cons]
    split at h
    · have := tagF_ats n _ _ _ h hu; exact ⟨this.1, by omega⟩
    · split at h
      · have := tagF_ats n _ _ _ h hu; exact ⟨this.1, by omega⟩
      · split at h
        · cases h; exact ⟨hu, by omega⟩
        · split at h
          · cases h
          · rename_i a r1 e
            have h1 := attrAt_le e
            have h2 := addA_len ats a
            have := tagF_ats n _ _ _ h (uniq_add hu a)
            exact ⟨this.1, by omega⟩
/-- Bytes that no name has. -/
def badC (c : UInt8) : Bool := (decide (65 ≤ c.toNat) && decide (c.toNat ≤ 90)) || (decide (c.toNat = 32) || (decide (c.toNat = 62) || (decide (c.toNat = 47) || decide (c.toNat = 10))))
theorem nameC_low (c : UInt8) (h : nameC c = true) : badC (lowB c) = false := by
  have := u8_all (fun c => !nameC c || !badC (lowB c)) (by decide +kernel) c
  rw [h, Bool.not_true, Bool.false_or] at this
  simpa using this
def goodT (t : Tok) : Prop := (t.kd = 1 ∨ t.kd = 2 ∨ t.kd = 3 ∨ t.kd = 4) ∧ ((t.kd = 2 ∨ t.kd = 3) ↔ t.nm ≠ []) ∧ (t.tx ≠ [] → ¬ (t.kd = 2 ∨ t.kd = 3)) ∧ (t.kd ≠ 2 → t.cl = false ∧ t.ats = []) ∧ (∀ c ∈ t.nm, badC c = false) ∧ Uniq t.ats
theorem uniq_nil : Uniq [] := fun _ _ _ h => by simp at h
theorem good_text (x : List UInt8) : goodT (textT x) := ⟨.inl rfl, by simp [textT], by simp [textT], fun _ => ⟨rfl, rfl⟩, by simp [textT], uniq_nil⟩
theorem good_note (x : List UInt8) : goodT (noteT x) := ⟨.inr (.inr (.inr rfl)), by simp [noteT], by simp [noteT], fun _ => ⟨rfl, rfl⟩, by simp [noteT], uniq_nil⟩
theorem tagAt_good {s nm r : List UInt8} {cl : Bool} {ats : List Attr} (h : tagAt s = some (nm, cl, ats, r)) : (∀ c ∈ nm, badC c = false) ∧ Uniq ats ∧ ats.length ≤ s.length ∧ nm = lower (s.take (runN (hdB nameC) s)) := by
  unfold tagAt at h
  cases e : between (s.drop (runN (hdB nameC) s)) false [] with
  | none => rw [e] at h; cases h
  | some t =>
    rw [e] at h
    cases h
    have h1 := tagF_ats _ _ _ _ (x := t.1) (y := t.2.1) (r := t.2.2) e uniq_nil
    simp only [List.length_nil, List.length_drop] at h1
    refine ⟨fun c hc => ?_, h1.1, by omega, rfl⟩
    unfold lower at hc
    obtain ⟨d, hd, rfl⟩ := List.mem_map.1 hc
    obtain ⟨j, hj, rfl⟩ := List.mem_iff_getElem.1 hd
    rw [List.length_take] at hj
    have h2 := runN_in (hdB nameC) s j (by omega)
    rw [hd_drop nameC s j (by omega)] at h2
    rw [List.getElem_take]
    exact nameC_low _ h2
theorem ltr_name (c : UInt8) (h : ltrB c = true) : nameC c = true := by
  have := u8_all (fun c => !ltrB c || nameC c) (by decide +kernel) c
  rw [h, Bool.not_true, Bool.false_or] at this
  exact this
theorem tag_name {c : UInt8} {t nm r : List UInt8} {cl : Bool} {ats : List Attr} (hc : ltrB c = true) (h : tagAt (c :: t) = some (nm, cl, ats, r)) : nm ≠ [] := by
  rw [(tagAt_good h).2.2.2]
  have : runN (hdB nameC) (c :: t) = runN (hdB nameC) t + 1 := by
    rw [runN, if_pos (show hdB nameC (c :: t) = true from ltr_name c hc)]
  rw [this]
  simp [lower]
theorem step_good (s r : List UInt8) (e : List Tok) (hs : s ≠ []) (h : step s = some (e, r)) : ∀ t ∈ e, goodT t ∧ t.ats.length ≤ s.length := by
  intro t ht
  unfold step at h
  split at h
  · cases h; rw [List.mem_singleton] at ht; subst ht; exact ⟨good_text _, by simp [textT]⟩
  · cases h; rw [List.mem_singleton] at ht; subst ht; exact ⟨good_note _, by simp [noteT]⟩
  · cases h; simp at ht
  · cases h; simp at ht
  · rename_i hk
    split at h
    · cases h
    · rename_i nm cl ats rest hta
      obtain ⟨c, r0, hx, _, _, h3⟩ := tag_tests (.inl hk)
      obtain ⟨_, h4⟩ := h3.resolve_right (fun h => by have := h.1; omega)
      obtain ⟨g1, g2, g3, _⟩ := tagAt_good hta
      rw [hx] at hta
      have g5 := tag_name h4 hta
      rw [List.length_drop] at g3
      have gs : goodT (startT nm cl ats) := ⟨.inr (.inl rfl), ⟨fun _ => g5, fun _ => .inl rfl⟩, by simp [startT], fun h => absurd rfl h, g1, g2⟩
      split at h
      · cases h
        rcases List.mem_cons.1 ht with rfl | ht
        · exact ⟨gs, by show ats.length ≤ _; omega⟩
        · split at ht
          · simp at ht
          · rw [List.mem_singleton] at ht; subst ht; exact ⟨good_text _, by simp [textT]⟩
      · cases h
        rw [List.mem_singleton] at ht; subst ht; exact ⟨gs, by show ats.length ≤ _; omega⟩
  · rename_i k _ _ _ _ _
    split at h
    · cases h
    · rename_i nm cl ats rest hta
      cases h
      rw [List.mem_singleton] at ht; subst ht
      have hk : kindL s = 5 := by rcases kind_le s with h | h | h | h | h | h <;> simp_all
      obtain ⟨c, r0, hx, _, _, h3⟩ := tag_tests (.inr hk)
      rcases h3 with h3 | ⟨_, _, rfl, d, r', rfl, h5⟩
      · omega
      · obtain ⟨g1, _, _, _⟩ := tagAt_good hta
        rw [hx] at hta
        have g5 := tag_name h5 hta
        exact ⟨⟨.inr (.inr (.inl rfl)), ⟨fun _ => g5, fun _ => .inr rfl⟩, by simp [endT], fun _ => ⟨rfl, rfl⟩, g1, uniq_nil⟩, by simp [endT]⟩
theorem toks_good (s : List UInt8) : ∀ t ∈ toks s, goodT t := toks_ind (fun s r e hs h t ht => (step_good s r e hs h t ht).1) s.length s (Nat.le_refl _)
theorem toks_ats : ∀ (n : Nat) (s : List UInt8), s.length ≤ n → ∀ t ∈ toks s, t.ats.length ≤ s.length
  | n, s, hn, t, ht => by
    by_cases hs : s = []
    · subst hs; simp [toks_nil] at ht
    · cases hst : step s with
      | none => rw [toks_none hst] at ht; simp at ht
      | some x =>
        obtain ⟨e, r⟩ := x
        rw [toks_some hs hst] at ht
        have hlt := step_lt hs hst
        rcases List.mem_append.1 ht with h | h
        · exact (step_good s r e hs hst t h).2
        · cases n with
          | zero => omega
          | succ n => have := toks_ats n r (by omega) t h; omega
theorem step_nm (s r : List UInt8) (e : List Tok) (h : step s = some (e, r)) : ∀ t ∈ e, t.nm.length ≤ s.length := by
  intro t ht
  unfold step at h
  split at h
  · cases h; rw [List.mem_singleton] at ht; subst ht; simp [textT]
  · cases h; rw [List.mem_singleton] at ht; subst ht; simp [noteT]
  · cases h; simp at ht
  · cases h; simp at ht
  · split at h
    · cases h
    · rename_i nm cl ats rest hta
      have g := (tagAt_suf hta).2
      rw [List.length_drop] at g
      split at h
      · cases h
        rcases List.mem_cons.1 ht with rfl | ht
        · show nm.length ≤ _; omega
        · split at ht
          · simp at ht
          · rw [List.mem_singleton] at ht; subst ht; simp [textT]
      · cases h
        rw [List.mem_singleton] at ht; subst ht; show nm.length ≤ _; omega
  · split at h
    · cases h
    · rename_i nm cl ats rest hta
      have g := (tagAt_suf hta).2
      rw [List.length_drop] at g
      cases h
      rw [List.mem_singleton] at ht; subst ht; show nm.length ≤ _; omega
theorem toks_nm : ∀ (n : Nat) (s : List UInt8), s.length ≤ n → ∀ t ∈ toks s, t.nm.length ≤ s.length
  | n, s, hn, t, ht => by
    by_cases hs : s = []
    · subst hs; simp [toks_nil] at ht
    · cases hst : step s with
      | none => rw [toks_none hst] at ht; simp at ht
      | some x =>
        obtain ⟨e, r⟩ := x
        rw [toks_some hs hst] at ht
        have hlt := step_lt hs hst
        rcases List.mem_append.1 ht with h | h
        · exact step_nm s r e hst t h
        · cases n with
          | zero => omega
          | succ n => have := toks_nm n r (by omega) t h; omega
end Go.Proofs.Ytcmkiancbgmmhaa

namespace Go.Proofs.Ytcmkiancbgmmhaa
open Go.Aw
set_option maxHeartbeats 1600000
set_option linter.unusedSimpArgs false
set_option linter.unusedVariables false
mutual
/-- The tokens of a page. -/
def tkN : Node → List Tok
  | .mk nm a t k => if nm = [] then [textT t] else startT nm false a :: (if nm ∈ voids then [] else tkL k ++ [endT nm])
def tkL : List Node → List Tok
  | [] => []
  | n :: r => tkN n ++ tkL r
end
theorem tkN_eq (n : Node) : tkN n = if n.name = [] then [textT n.text] else startT n.name false n.attrs :: (if n.name ∈ voids then [] else tkL n.kids ++ [endT n.name]) := by cases n; unfold tkN; rfl
theorem tkL_cons (n : Node) (r : List Node) : tkL (n :: r) = tkN n ++ tkL r := by rw [tkL]
def markB (c : UInt8) : Bool := simC c || (decide (c = 45) || (decide (c = 95) || decide (c = 58)))
theorem mark_name (c : UInt8) (h : markB c = true) : nameC c = true ∧ attrC c = true ∧ lowB c = c ∧ blkB c = false ∧ c ≠ 60 ∧ c ≠ 61 ∧ c ≠ 62 ∧ c ≠ 47 ∧ c ≠ 33 ∧ c ≠ 63 := by
  have := u8_all (fun c => !markB c || decide (nameC c = true ∧ attrC c = true ∧ lowB c = c ∧ blkB c = false ∧ c ≠ 60 ∧ c ≠ 61 ∧ c ≠ 62 ∧ c ≠ 47 ∧ c ≠ 33 ∧ c ≠ 63)) (by decide +kernel) c
  rw [h, Bool.not_true, Bool.false_or] at this
  exact of_decide_eq_true this
theorem mark_lower {s : List UInt8} (h : ∀ c ∈ s, markB c = true) : lower s = s := by
  unfold lower
  have : s.map lowB = s.map id := List.map_congr_left fun c hc => (mark_name c (h c hc)).2.2.1
  rw [this, List.map_id]
theorem small_mark {s o : List UInt8} (h : small s o = true) (ho : ∀ c ∈ o, c ∈ ([45, 95, 58] : List UInt8)) : (∀ c ∈ s, markB c = true) ∧ ∃ c r, s = c :: r ∧ ltrB c = true := by
  cases s with
  | nil => cases h
  | cons c r =>
    unfold small at h
    rw [Bool.and_eq_true] at h
    have h1 := letter_sim c h.1
    refine ⟨fun d hd => ?_, c, r, rfl, h1.2⟩
    unfold markB
    rcases List.mem_cons.1 hd with rfl | hd
    · rw [h1.1]; rfl
    · have h2 := List.all_eq_true.1 h.2 d hd
      simp only [Bool.or_eq_true, decide_eq_true_eq] at h2
      rcases h2 with h2 | h2 | h2
      · have : simC d = true := by unfold simC; unfold letB at h2; rw [h2]; rfl
        rw [this]; rfl
      · have : simC d = true := by unfold simC; unfold digB at h2; rw [h2, Bool.or_true]
        rw [this]; rfl
      · have := ho d h2
        simp at this
        rcases this with rfl | rfl | rfl <;> decide
theorem attr_one (c : UInt8) (r v y : List UInt8) (h : ∀ d ∈ c :: r, markB d = true) : attrAt c (r ++ 61 :: 34 :: (escape true v ++ 34 :: y)) = some ((c :: r, v), y) := by
  have hr2 : runN (hdB attrC) (r ++ 61 :: 34 :: (escape true v ++ 34 :: y)) = r.length := run_all _ _ _ (fun d hd => (mark_name d (h d (by simp [hd]))).2.1) (.inr (show attrC 61 = false by decide))
  have hq : ∀ d ∈ escape true v, (!decide (d = 34)) = true := fun d hd => by
    have := (escape_clean true v.length v (Nat.le_refl _) d hd).2.2 rfl
    simp [this]
  have hr3 : runN (hdB fun x => !decide (x = 34)) (escape true v ++ 34 :: y) = (escape true v).length := run_all _ _ _ hq (.inr (by simp [hdB]))
  have hva : valueAt (34 :: (escape true v ++ 34 :: y)) = some (escape true v, y) := by
    rw [valueAt_cons, if_pos (.inl rfl), hr3, if_neg (by simp), List.take_left, ← List.drop_drop, List.drop_left]; rfl
  unfold attrAt
  rw [hr2, List.drop_left, List.take_left, mark_lower h]
  have e1 : skipB (61 :: 34 :: (escape true v ++ 34 :: y)) = 61 :: 34 :: (escape true v ++ 34 :: y) := rfl
  have e2 : skipB (34 :: (escape true v ++ 34 :: y)) = 34 :: (escape true v ++ 34 :: y) := rfl
  rw [e1]
  simp only [if_true, e2, hva, Option.map_some, res_esc]
theorem between_attrs : ∀ (ats done : List Attr) (y : List UInt8), attrsFrom (done.map (·.1)) ats = true → between (attrsH ats ++ 62 :: y) false done = some (false, done ++ ats, y)
  | [], done, y, _ => by
    show between (62 :: y) false done = _
    rw [between_cons, if_neg (by decide), if_neg (by decide), if_pos rfl, List.append_nil]
  | a :: r, done, y, h => by
    unfold attrsFrom at h
    simp only [Bool.and_eq_true, Bool.not_eq_true', decide_eq_false_iff_not] at h
    obtain ⟨⟨h1, h2⟩, h3⟩ := h
    obtain ⟨hm, c, t, hc, _⟩ := small_mark h1 (fun c hc => hc)
    rw [hc] at hm
    have hmc := mark_name c (hm c (by simp))
    have e : attrsH (a :: r) ++ 62 :: y = 32 :: c :: (t ++ 61 :: 34 :: (escape true a.2 ++ 34 :: (attrsH r ++ 62 :: y))) := by
      rw [attrsH_cons]; unfold attrH; rw [hc]; simp
    have ea : (c :: t, a.2) = a := by rw [← hc]
    have ih := between_attrs r (done ++ [a]) y (by rw [List.map_append]; exact h3)
    rw [e, between_cons, if_pos (by decide), between_cons, hmc.2.2.2.1, if_neg (by decide), if_neg hmc.2.2.2.2.2.2.2.1, if_neg hmc.2.2.2.2.2.2.1, attr_one c t a.2 _ hm, ea]
    show between (attrsH r ++ 62 :: y) false (addA done a) = _
    unfold addA
    rw [if_neg h2, ih, List.append_assoc]; rfl
theorem attrs_hd (ats : List Attr) (y : List UInt8) : hdB nameC (attrsH ats ++ 62 :: y) = false := by
  cases ats with
  | nil => show nameC 62 = false; decide
  | cons a r => rw [attrsH_cons]; unfold attrH; show nameC 32 = false; decide
theorem tag_own (nm : List UInt8) (ats : List Attr) (y : List UInt8) (h : small nm [45] = true) (ha : attrsFrom [] ats = true) : tagAt (nm ++ (attrsH ats ++ 62 :: y)) = some (nm, false, ats, y) := by
  obtain ⟨h1, _⟩ := small_mark h (fun c hc => by simp at hc; subst hc; decide)
  have hr : runN (hdB nameC) (nm ++ (attrsH ats ++ 62 :: y)) = nm.length := run_all _ _ _ (fun c hc => (mark_name c (h1 c hc)).1) (.inr (attrs_hd ats y))
  unfold tagAt
  rw [hr, List.take_left, List.drop_left, between_attrs ats [] y ha, mark_lower h1]
  rfl
theorem kind_own (nm y : List UInt8) (h : small nm [45] = true) : kindL (60 :: (nm ++ y)) = 4 := by
  obtain ⟨h1, c, r, rfl, h2⟩ := small_mark h (fun c hc => by simp at hc; subst hc; decide)
  have hc := mark_name c (h1 c (by simp))
  have e1 : hasPre (c :: (r ++ y)) [33, 45, 45] = false := by simp [hasPre]; intro _ e; exact absurd e hc.2.2.2.2.2.2.2.2.1
  simp only [List.cons_append, kindL, if_true, e1, Bool.false_eq_true, if_false, h2]
  rw [if_neg]
  rintro (e | e)
  · exact hc.2.2.2.2.2.2.2.2.1 e
  · exact hc.2.2.2.2.2.2.2.2.2 e
theorem kind_shut (nm y : List UInt8) (h : small nm [45] = true) : kindL (60 :: 47 :: (nm ++ y)) = 5 := by
  obtain ⟨h1, c, r, rfl, h2⟩ := small_mark h (fun c hc => by simp at hc; subst hc; decide)
  have hc := mark_name c (h1 c (by simp))
  have e1 : hasPre (47 :: c :: (r ++ y)) [33, 45, 45] = false := by simp [hasPre]
  have e2 : ltrB 47 = false := by decide
  simp only [List.cons_append, kindL, if_true, e1, e2, Bool.false_eq_true, if_false, h2]
  rw [if_neg (by decide), if_neg hc.2.2.2.2.2.2.1]
theorem toks_own (nm : List UInt8) (ats : List Attr) (y : List UInt8) (h : small nm [45] = true) (ha : attrsFrom [] ats = true) (hraw : rawB nm = false) : toks (60 :: (nm ++ (attrsH ats ++ 62 :: y))) = startT nm false ats :: toks y := by
  have hst : step (60 :: (nm ++ (attrsH ats ++ 62 :: y))) = some ([startT nm false ats], y) := by
    unfold step
    simp only [kind_own nm _ h]
    show (match tagAt (nm ++ (attrsH ats ++ 62 :: y)) with | none => none | some (nm, cl, ats, r) => if rawB nm then some (startT nm cl ats :: (if rawText nm r = [] then [] else [textT (rawText nm r)]), r.drop (rawN nm r)) else some ([startT nm cl ats], r)) = _
    rw [tag_own nm ats y h ha]
    simp only [hraw, Bool.false_eq_true, if_false]
  rw [toks_some (by simp) hst]; rfl
theorem toks_shut (nm y : List UInt8) (h : small nm [45] = true) : toks (60 :: 47 :: (nm ++ 62 :: y)) = endT nm :: toks y := by
  have hst : step (60 :: 47 :: (nm ++ 62 :: y)) = some ([endT nm], y) := by
    unfold step
    simp only [kind_shut nm _ h]
    show (match tagAt (nm ++ 62 :: y) with | none => none | some (nm, _, _, r) => some ([endT nm], r)) = _
    have := tag_own nm [] y h rfl
    rw [show attrsH [] ++ 62 :: y = 62 :: y from rfl] at this
    rw [this]
  rw [toks_some (by simp) hst]; rfl
theorem ownB_parts {n : Node} (h : ownB n = true) : rawB n.name = false ∧ small n.name [45] = true ∧ n.text = [] ∧ (n.name ∈ voids → n.kids = []) ∧ attrsFrom [] n.attrs = true := by
  unfold ownB at h
  rw [Bool.and_eq_true, Bool.not_eq_true'] at h
  obtain ⟨h, h5⟩ := h
  simp only [Bool.or_eq_false_iff, Bool.not_eq_false', Bool.and_eq_false_iff, decide_eq_true_eq, decide_eq_false_iff_not] at h
  obtain ⟨⟨⟨h1, h2⟩, h3⟩, h4⟩ := h
  refine ⟨h1, h2, h3, fun hv => ?_, h5⟩
  rcases h4 with h4 | h4
  · exact absurd hv h4
  · exact h4
theorem small_ne {s o : List UInt8} (h : small s o = true) : s ≠ [] := by
  intro e; subst e; cases h
/-- What follows a text is none. -/
theorem next_kind {p li : Bool} {r : List Node} (h : stL true p li r = true) {y : List UInt8} (hy : y = [] ∨ kindL y ≠ 0) : htL r ++ y = [] ∨ kindL (htL r ++ y) ≠ 0 := by
  cases r with
  | nil => rw [htL]; exact hy
  | cons n r =>
    rw [stL_cons] at h
    split at h
    · simp at h
    · rename_i hn
      rw [Bool.and_eq_true, stN_eq] at h
      simp only [Bool.and_eq_true] at h
      have ho := ownB_parts h.1.1.1.1
      refine .inr ?_
      rw [htL_cons, htN_eq, if_neg hn]
      have : ([60] ++ n.name ++ attrsH n.attrs ++ [62] ++ (if n.name ∈ voids then [] else htL n.kids ++ ([60, 47] ++ n.name ++ [62])) ++ htL r ++ y) = 60 :: (n.name ++ (attrsH n.attrs ++ [62] ++ (if n.name ∈ voids then [] else htL n.kids ++ ([60, 47] ++ n.name ++ [62])) ++ htL r ++ y)) := by simp
      rw [this, kind_own _ _ ho.2.1]; decide
mutual
/-- THE TOKENS OF A STABLE PAGE. -/
theorem toks_node : ∀ (n : Node) (p li : Bool), n.name ≠ [] → stN p li n = true → ∀ y : List UInt8, toks (htN n ++ y) = tkN n ++ toks y
  | .mk nm a t k, p, li, hn, h, y => by
    rw [stN] at h
    simp only [Bool.and_eq_true] at h
    obtain ⟨⟨⟨ho, _⟩, _⟩, hk⟩ := h
    obtain ⟨o1, o2, o3, o4, o5⟩ := ownB_parts ho
    dsimp only [Node.name, Node.text, Node.kids, Node.attrs] at *
    rw [htN, tkN, if_neg hn, if_neg hn]
    by_cases hv : nm ∈ voids
    · rw [if_pos hv, if_pos hv]
      have e : [60] ++ nm ++ attrsH a ++ [62] ++ [] ++ y = 60 :: (nm ++ (attrsH a ++ 62 :: y)) := by simp
      rw [e, toks_own nm a y o2 o5 o1]; rfl
    · rw [if_neg hv, if_neg hv]
      have e : [60] ++ nm ++ attrsH a ++ [62] ++ (htL k ++ ([60, 47] ++ nm ++ [62])) ++ y = 60 :: (nm ++ (attrsH a ++ 62 :: (htL k ++ 60 :: 47 :: (nm ++ 62 :: y)))) := by simp
      have ih := toks_page k false (p || decide (nm = [112])) (inLi li nm) hk (60 :: 47 :: (nm ++ 62 :: y)) (.inr (by rw [kind_shut nm _ o2]; decide))
      rw [e, toks_own nm a _ o2 o5 o1, ih, toks_shut nm y o2]
      simp
theorem toks_page : ∀ (l : List Node) (tx p li : Bool), stL tx p li l = true → ∀ y : List UInt8, (y = [] ∨ kindL y ≠ 0) → toks (htL l ++ y) = tkL l ++ toks y
  | [], tx, p, li, _, y, _ => by rw [htL, tkL]; rfl
  | n :: r, tx, p, li, h, y, hy => by
    rw [stL_cons] at h
    rw [htL_cons, tkL_cons, List.append_assoc, List.append_assoc]
    by_cases hn : n.name = []
    · rw [if_pos hn] at h
      simp only [Bool.and_eq_true, Bool.not_eq_true', decide_eq_true_eq, decide_eq_false_iff_not] at h
      obtain ⟨⟨⟨⟨_, h2⟩, _⟩, _⟩, h5⟩ := h
      have ih := toks_page r true p li h5 y hy
      rw [htN_eq, if_pos hn, tkN_eq, if_pos hn, toks_text _ _ (fun e => h2 ((esc_nil false _).1 e)) (esc_free false _) (next_kind h5 hy), res_esc, ih]
      rfl
    · rw [if_neg hn, Bool.and_eq_true] at h
      rw [toks_node n p li hn h.1, toks_page r false p li h.2 y hy]
end
end Go.Proofs.Ytcmkiancbgmmhaa

namespace Go.Proofs.Ytcmkiancbgmmhaa
open Go.Aw
set_option maxHeartbeats 1600000
set_option linter.unusedSimpArgs false
set_option linter.unusedVariables false
/-- An open element: its name, its attributes, what lies in it so far. The innermost stands first, the root last. -/
abbrev Op := List UInt8 × List Attr × List Node
structure Bs where
  ops : List Op
  cnt : Nat
  full : Bool
def putO (n : Node) : List Op → List Op
  | (a, b, k) :: r => (a, b, k ++ [n]) :: r
  | [] => []
def shutO : List Op → List Op
  | (a, b, k) :: r => putO (.mk a b [] k) r
  | [] => []
/-- Is such an element open, the root aside? -/
def openB (nm : List UInt8) : List Op → Bool
  | o :: o2 :: r => decide (o.1 = nm) || openB nm (o2 :: r)
  | _ => false
def closeF (nm : List UInt8) : Nat → List Op → List Op
  | n + 1, o :: o2 :: r => if o.1 = nm then shutO (o :: o2 :: r) else closeF nm n (shutO (o :: o2 :: r))
  | _, l => l
def closeO (nm : List UInt8) (ops : List Op) : List Op := if openB nm ops then closeF nm ops.length ops else ops
/-- Is a li the innermost of the li, ul and ol that are open? -/
def liB : List Op → Bool
  | o :: o2 :: r => if o.1 = [108, 105] then true else if o.1 = [117, 108] ∨ o.1 = [111, 108] then false else liB (o2 :: r)
  | _ => false
/-- Is the last one a text? -/
def textB (k : List Node) : Bool := match k.getLast? with
  | some n => decide (n.name = [])
  | none => false
def countS (s : Bs) : Bs := ⟨s.ops, s.cnt + 1, s.full || (decide (65 < s.ops.length) || decide (2000 < s.cnt + 1))⟩
def startO (nm : List UInt8) (ops : List Op) : List Op :=
  let o1 := if nm ∈ blocks then closeO [112] ops else ops
  if nm = [108, 105] ∧ liB o1 = true then closeO [108, 105] o1 else o1
def startS (nm : List UInt8) (ats : List Attr) (s : Bs) : Bs :=
  countS ⟨if nm ∈ voids then putO (.mk nm ats [] []) (startO nm s.ops) else (nm, ats, []) :: startO nm s.ops, s.cnt, s.full⟩
def endS (nm : List UInt8) (s : Bs) : Bs :=
  if openB nm s.ops then ⟨closeO nm s.ops, s.cnt, s.full⟩
  else if nm = [112] then ⟨closeO nm (startS nm [] s).ops, (startS nm [] s).cnt, (startS nm [] s).full⟩
  else if nm = [98, 114] then startS nm [] s else s
def addText (x : List UInt8) : List Op → List Op
  | (a, b, k) :: r => match k.getLast? with
    | some n => (a, b, k.dropLast ++ [.mk n.name n.attrs (n.text ++ x) n.kids]) :: r
    | none => (a, b, k) :: r
  | [] => []
def topText : List Op → Bool
  | (_, _, k) :: _ => textB k
  | [] => false
def textS (x : List UInt8) (s : Bs) : Bs :=
  if x = [] then s else if topText s.ops then ⟨addText x s.ops, s.cnt, s.full⟩ else countS ⟨putO (.mk [] [] x []) s.ops, s.cnt, s.full⟩
def tokS (t : Tok) (s : Bs) : Bs := if t.kd = 1 then textS t.tx s else if t.kd = 2 then startS t.nm t.ats s else if t.kd = 3 then endS t.nm s else s
def runS : List Tok → Bs → Option Bs
  | [], s => some s
  | t :: r, s => if (tokS t s).full then none else runS r (tokS t s)
def finO : Nat → List Op → List Op
  | n + 1, o :: o2 :: r => finO n (shutO (o :: o2 :: r))
  | _, l => l
def rootK : List Op → List Node
  | (_, _, k) :: _ => k
  | [] => []
/-- THE TREE OF TOKENS. -/
def buildL (T : List Tok) : Option (List Node) := (runS T ⟨[([], [], [])], 0, false⟩).map fun s => rootK (finO s.ops.length s.ops)
theorem countS_ok {ops : List Op} {c : Nat} (h1 : ops.length ≤ 65) (h2 : c + 1 ≤ 2000) : countS ⟨ops, c, false⟩ = ⟨ops, c + 1, false⟩ := by
  unfold countS
  dsimp only
  rw [decide_eq_false (by omega), decide_eq_false (by omega)]; rfl
theorem openB_kids (nm : List UInt8) (a : List UInt8) (b b' : List Attr) (k k' : List Node) (r : List Op) : openB nm ((a, b, k) :: r) = openB nm ((a, b', k') :: r) := by
  cases r <;> rfl
theorem liB_kids (a : List UInt8) (b b' : List Attr) (k k' : List Node) (r : List Op) : liB ((a, b, k) :: r) = liB ((a, b', k') :: r) := by
  cases r <;> rfl
theorem close_top (nm : List UInt8) (b : List Attr) (k : List Node) (o : Op) (r : List Op) : closeO nm ((nm, b, k) :: o :: r) = putO (.mk nm b [] k) (o :: r) := by
  unfold closeO
  have : openB nm ((nm, b, k) :: o :: r) = true := by simp [openB]
  rw [if_pos this]
  show closeF nm (r.length + 1 + 1) ((nm, b, k) :: o :: r) = _
  rw [closeF, if_pos rfl]; rfl
theorem startO_same {nm : List UInt8} {ops : List Op} (h1 : openB [112] ops = true → nm ∉ blocks) (h2 : liB ops = true → nm ≠ [108, 105]) : startO nm ops = ops := by
  unfold startO
  have e : (if nm ∈ blocks then closeO [112] ops else ops) = ops := by
    split
    · rename_i h
      unfold closeO
      rw [if_neg (fun h3 => h1 h3 h)]
    · rfl
  rw [e]
  show (if nm = [108, 105] ∧ liB ops = true then _ else _) = _
  rw [if_neg (fun h => h2 h.2 h.1)]
theorem textB_snoc (k : List Node) (n : Node) : textB (k ++ [n]) = decide (n.name = []) := by
  unfold textB; rw [List.getLast?_concat]
mutual
/-- What is built of a node's tokens. -/
theorem run_node : ∀ (n : Node) (p li : Bool), n.name ≠ [] → stN p li n = true → ∀ (a : List UInt8) (b : List Attr) (k : List Node) (r : List Op) (cnt : Nat) (T : List Tok), openB [112] ((a, b, k) :: r) = p → liB ((a, b, k) :: r) = li →
    cnt + szN n ≤ 2000 → r.length + dpN n ≤ 64 → runS (tkN n ++ T) ⟨(a, b, k) :: r, cnt, false⟩ = runS T ⟨(a, b, k ++ [n]) :: r, cnt + szN n, false⟩
  | .mk nm ats t ks, p, li, hn, h, a, b, k, r, cnt, T, hp, hl, hc, hd => by
    rw [stN] at h
    simp only [Bool.and_eq_true, Bool.not_eq_true', Bool.and_eq_false_iff, decide_eq_false_iff_not] at h
    obtain ⟨⟨⟨ho, hb⟩, hli⟩, hk⟩ := h
    obtain ⟨o1, o2, o3, o4, o5⟩ := ownB_parts ho
    dsimp only [Node.name, Node.text, Node.kids, Node.attrs] at *
    rw [szN] at hc ⊢
    rw [dpN, if_neg hn] at hd
    rw [tkN, if_neg hn]
    have hso : startO nm ((a, b, k) :: r) = (a, b, k) :: r := startO_same (fun h1 => by
      rcases hb with hb | hb
      · rw [← hp, h1] at hb; cases hb
      · exact hb) (fun h1 => by
      rcases hli with hli | hli
      · rw [← hl, h1] at hli; cases hli
      · exact hli)
    subst o3
    by_cases hv : nm ∈ voids
    · have hk0 := o4 hv
      subst hk0
      have e : tokS (startT nm false ats) ⟨(a, b, k) :: r, cnt, false⟩ = ⟨(a, b, k ++ [.mk nm ats [] []]) :: r, cnt + 1, false⟩ := by
        show startS nm ats _ = _
        unfold startS
        dsimp only
        rw [if_pos hv, hso, countS_ok (by simp only [putO, List.length_cons]; omega) (by omega)]; rfl
      rw [if_pos hv]
      show runS (startT nm false ats :: T) _ = _
      rw [runS, e]
      simp [szL]
    · have e : tokS (startT nm false ats) ⟨(a, b, k) :: r, cnt, false⟩ = ⟨(nm, ats, []) :: (a, b, k) :: r, cnt + 1, false⟩ := by
        show startS nm ats _ = _
        unfold startS
        dsimp only
        rw [if_neg hv, hso, countS_ok (by simp only [List.length_cons]; omega) (by omega)]
      have hp2 : openB [112] ((nm, ats, []) :: (a, b, k) :: r) = (p || decide (nm = [112])) := by
        rw [← hp, Bool.or_comm]; rfl
      have hl2 : liB ((nm, ats, []) :: (a, b, k) :: r) = inLi li nm := by
        rw [← hl]; rfl
      have ih := run_page ks false (p || decide (nm = [112])) (inLi li nm) hk nm ats [] ((a, b, k) :: r) (cnt + 1) (endT nm :: T) hp2 hl2 (fun h => by simp [textB] at h) (by omega) (by rw [List.length_cons]; omega)
      have e2 : tokS (endT nm) ⟨(nm, ats, [] ++ ks) :: (a, b, k) :: r, cnt + 1 + szL ks, false⟩ = ⟨(a, b, k ++ [.mk nm ats [] ks]) :: r, cnt + 1 + szL ks, false⟩ := by
        show endS nm _ = _
        unfold endS
        have : openB nm ((nm, ats, [] ++ ks) :: (a, b, k) :: r) = true := by simp [openB]
        dsimp only
        rw [if_pos this, close_top]; rfl
      rw [if_neg hv]
      show runS (startT nm false ats :: (tkL ks ++ [endT nm] ++ T)) _ = _
      rw [runS, e, List.append_assoc]
      show (if false = true then none else runS (tkL ks ++ endT nm :: T) _) = _
      rw [if_neg (by decide), ih, runS, e2]
      show (if false = true then none else _) = _
      rw [if_neg (by decide), Nat.add_assoc]
theorem run_page : ∀ (l : List Node) (tx p li : Bool), stL tx p li l = true → ∀ (a : List UInt8) (b : List Attr) (k : List Node) (r : List Op) (cnt : Nat) (T : List Tok), openB [112] ((a, b, k) :: r) = p → liB ((a, b, k) :: r) = li →
    (textB k = true → tx = true) → cnt + szL l ≤ 2000 → r.length + dpL l ≤ 64 → runS (tkL l ++ T) ⟨(a, b, k) :: r, cnt, false⟩ = runS T ⟨(a, b, k ++ l) :: r, cnt + szL l, false⟩
  | [], tx, p, li, _, a, b, k, r, cnt, T, _, _, _, _, _ => by rw [tkL, szL, List.append_nil]; rfl
  | n :: l, tx, p, li, h, a, b, k, r, cnt, T, hp, hl, htx, hc, hd => by
    rw [stL_cons] at h
    rw [szL] at hc ⊢
    rw [dpL_cons] at hd
    rw [tkL_cons, List.append_assoc]
    have hap : k ++ n :: l = (k ++ [n]) ++ l := by simp
    by_cases hn : n.name = []
    · rw [if_pos hn] at h
      simp only [Bool.and_eq_true, Bool.not_eq_true', decide_eq_true_eq, decide_eq_false_iff_not] at h
      obtain ⟨⟨⟨⟨h1, h2⟩, h3⟩, h4⟩, h5⟩ := h
      have hnode : n = .mk [] [] n.text [] := by
        cases n; dsimp only [Node.name, Node.text, Node.kids, Node.attrs] at *; rw [hn, h3, h4]
      have hsz : szN n = 1 := by rw [hnode]; simp [szN, szL]
      have hk : textB k = false := by
        cases hh : textB k with
        | false => rfl
        | true => rw [htx hh] at h1; cases h1
      have e : tokS (textT n.text) ⟨(a, b, k) :: r, cnt, false⟩ = ⟨(a, b, k ++ [n]) :: r, cnt + 1, false⟩ := by
        show textS n.text _ = _
        unfold textS
        rw [if_neg h2]
        show (if textB k = true then _ else _) = _
        rw [if_neg (by rw [hk]; decide), ← hnode]
        exact countS_ok (by simp only [putO, List.length_cons]; omega) (show cnt + 1 ≤ 2000 by omega)
      have ih := run_page l true p li h5 a b (k ++ [n]) r (cnt + 1) T (by rw [← hp]; exact openB_kids _ _ _ _ _ _ _) (by rw [← hl]; exact liB_kids _ _ _ _ _ _) (fun _ => rfl) (by omega) (by omega)
      rw [tkN_eq, if_pos hn]
      show runS (textT n.text :: (tkL l ++ T)) _ = _
      rw [runS, e]
      show (if false = true then none else _) = _
      rw [if_neg (by decide), ih, hap, hsz, Nat.add_assoc]
    · rw [if_neg hn, Bool.and_eq_true] at h
      have h1 := run_node n p li hn h.1 a b k r cnt (tkL l ++ T) hp hl (by omega) (by omega)
      have ih := run_page l false p li h.2 a b (k ++ [n]) r (cnt + szN n) T (by rw [← hp]; exact openB_kids _ _ _ _ _ _ _) (by rw [← hl]; exact liB_kids _ _ _ _ _ _) (fun hh => by rw [textB_snoc, decide_eq_false hn] at hh; cases hh) (by omega) (by omega)
      rw [h1, ih, hap, Nat.add_assoc]
end
/-- A STABLE TREE'S PAGE HAS JUST IT AS ITS TREE. -/
theorem build_page {l : List Node} (h : stL false false false l = true) (h1 : szL l ≤ 2000) (h2 : dpL l ≤ 64) : buildL (tkL l) = some l := by
  have := run_page l false false false h [] [] [] [] 0 [] rfl rfl (fun h => by simp [textB] at h) (by omega) (by simp; omega)
  rw [List.append_nil] at this
  unfold buildL
  rw [this]
  rfl
end Go.Proofs.Ytcmkiancbgmmhaa

namespace Go.Proofs.Ytcmkiancbgmmhaa
open Go.Aw
set_option maxHeartbeats 1600000
set_option linter.unusedSimpArgs false
set_option linter.unusedVariables false
/-- What an open element may be, with what is open around it. -/
def okE (a : List UInt8) (b : List Attr) (r : List Op) : Prop :=
  ownB (.mk a b [] []) = true ∧ (openB [112] r = true → a ∉ blocks) ∧ (liB r = true → a ≠ [108, 105]) ∧ a ∉ voids
/-- The open elements, and what lies in them, are as in a stable tree. -/
def okS : List Op → Prop
  | [] => False
  | [o] => o.1 = [] ∧ stL false false false o.2.2 = true
  | o :: o2 :: r => o.1 ≠ [] ∧ okE o.1 o.2.1 (o2 :: r) ∧ stL false (openB [112] (o :: o2 :: r)) (liB (o :: o2 :: r)) o.2.2 = true ∧ okS (o2 :: r)
theorem okS_kids {a : List UInt8} {b : List Attr} {k : List Node} {r : List Op} (h : okS ((a, b, k) :: r)) : stL false (openB [112] ((a, b, k) :: r)) (liB ((a, b, k) :: r)) k = true := by
  cases r with
  | nil => exact h.2
  | cons o r => exact h.2.2.1
theorem okS_set {a : List UInt8} {b : List Attr} {k k' : List Node} {r : List Op} (h : okS ((a, b, k) :: r)) (hk : stL false (openB [112] ((a, b, k) :: r)) (liB ((a, b, k) :: r)) k' = true) : okS ((a, b, k') :: r) := by
  cases r with
  | nil => exact ⟨h.1, hk⟩
  | cons o r => exact ⟨h.1, h.2.1, hk, h.2.2.2⟩
theorem stL_snoc : ∀ (k : List Node) (tx p li : Bool) (n : Node), stL tx p li k = true → n.name ≠ [] → stN p li n = true → stL tx p li (k ++ [n]) = true
  | [], tx, p, li, n, _, hn, h => by
    rw [List.nil_append, stL_cons, if_neg hn, h, stL]; rfl
  | m :: k, tx, p, li, n, hk, hn, h => by
    rw [stL_cons] at hk
    rw [List.cons_append, stL_cons]
    split
    · rename_i hm
      rw [if_pos hm, Bool.and_eq_true] at hk
      rw [hk.1, stL_snoc k true p li n hk.2 hn h]; rfl
    · rename_i hm
      rw [if_neg hm, Bool.and_eq_true] at hk
      rw [hk.1, stL_snoc k false p li n hk.2 hn h]; rfl
theorem textB_cons (m n : Node) (k : List Node) : textB (m :: n :: k) = textB (n :: k) := by
  unfold textB; rw [List.getLast?_cons_cons]
theorem stL_text : ∀ (k : List Node) (tx p li : Bool) (x : List UInt8), stL tx p li k = true → textB k = false → (k = [] → tx = false) → x ≠ [] → stL tx p li (k ++ [.mk [] [] x []]) = true
  | [], tx, p, li, x, _, _, ht, hx => by
    rw [List.nil_append, stL_cons, if_pos (show (Node.mk [] [] x []).name = [] from rfl), ht rfl, stL]
    simp [Node.text, Node.attrs, Node.kids, hx]
  | [m], tx, p, li, x, hk, hb, _, hx => by
    have hm : ¬ m.name = [] := by
      intro e; simp [textB, e] at hb
    rw [stL_cons, if_neg hm, Bool.and_eq_true] at hk
    rw [List.cons_append, stL_cons, if_neg hm, hk.1, stL_text [] false p li x (by rw [stL]) (by simp [textB]) (fun _ => rfl) hx]; rfl
  | m :: m2 :: k, tx, p, li, x, hk, hb, _, hx => by
    rw [textB_cons] at hb
    rw [stL_cons] at hk
    rw [List.cons_append, stL_cons]
    split
    · rename_i hm
      rw [if_pos hm, Bool.and_eq_true] at hk
      rw [hk.1, stL_text (m2 :: k) true p li x hk.2 hb (fun e => by cases e) hx]; rfl
    · rename_i hm
      rw [if_neg hm, Bool.and_eq_true] at hk
      rw [hk.1, stL_text (m2 :: k) false p li x hk.2 hb (fun e => by cases e) hx]; rfl
/-- A text that grows. -/
theorem stL_more : ∀ (k : List Node) (tx p li : Bool) (n : Node) (x : List UInt8), stL tx p li (k ++ [n]) = true → n.name = [] → stL tx p li (k ++ [.mk n.name n.attrs (n.text ++ x) n.kids]) = true
  | [], tx, p, li, n, x, h, hn => by
    rw [List.nil_append, stL_cons, if_pos hn] at h
    rw [List.nil_append, stL_cons, if_pos (show (Node.mk n.name n.attrs (n.text ++ x) n.kids).name = [] from hn)]
    simp only [Bool.and_eq_true, Bool.not_eq_true', decide_eq_true_eq, decide_eq_false_iff_not, Node.text, Node.attrs, Node.kids] at h ⊢
    obtain ⟨⟨⟨⟨h1, h2⟩, h3⟩, h4⟩, h5⟩ := h
    exact ⟨⟨⟨⟨h1, decide_eq_false fun e => (of_decide_eq_false h2) (List.append_eq_nil_iff.1 e).1⟩, h3⟩, h4⟩, h5⟩
  | m :: k, tx, p, li, n, x, h, hn => by
    rw [List.cons_append, stL_cons] at h
    rw [List.cons_append, stL_cons]
    split
    · rename_i hm
      rw [if_pos hm, Bool.and_eq_true] at h
      rw [h.1, stL_more k true p li n x h.2 hn]; rfl
    · rename_i hm
      rw [if_neg hm, Bool.and_eq_true] at h
      rw [h.1, stL_more k false p li n x h.2 hn]; rfl
theorem ownB_kids {a : List UInt8} {b : List Attr} {k : List Node} (h : ownB (.mk a b [] []) = true) (hv : a ∉ voids) : ownB (.mk a b [] k) = true := by
  have e : ∀ k : List Node, ownB (.mk a b [] k) = (!(rawB a || !small a [45] || !decide (([] : List UInt8) = []) || decide (a ∈ voids) && !decide (k = [])) && attrsFrom [] b) := fun _ => rfl
  rw [e, decide_eq_false hv, Bool.false_and] at h ⊢
  exact h
/-- The innermost element ends: all is as in a stable tree still. -/
theorem okS_shut {o o2 : Op} {r : List Op} (h : okS (o :: o2 :: r)) : okS (shutO (o :: o2 :: r)) := by
  obtain ⟨a, b, k⟩ := o
  obtain ⟨a2, b2, k2⟩ := o2
  obtain ⟨h1, ⟨e1, e2, e3, e4⟩, h3, h4⟩ := h
  have hk := okS_kids h4
  refine okS_set h4 (stL_snoc k2 false _ _ _ hk h1 ?_)
  dsimp only at *
  rw [stN]
  have hown := ownB_kids (k := k) e1 e4
  have e5 : (openB [112] ((a2, b2, k2) :: r) && decide (a ∈ blocks)) = false := by
    cases hh : openB [112] ((a2, b2, k2) :: r) with
    | false => rfl
    | true => rw [decide_eq_false (e2 hh)]; rfl
  have e6 : (liB ((a2, b2, k2) :: r) && decide (a = [108, 105])) = false := by
    cases hh : liB ((a2, b2, k2) :: r) with
    | false => rfl
    | true => rw [decide_eq_false (e3 hh)]; rfl
  have e7 : openB [112] ((a, b, k) :: (a2, b2, k2) :: r) = (openB [112] ((a2, b2, k2) :: r) || decide (a = [112])) := by rw [Bool.or_comm]; rfl
  have e8 : liB ((a, b, k) :: (a2, b2, k2) :: r) = inLi (liB ((a2, b2, k2) :: r)) a := rfl
  rw [e7, e8] at h3
  rw [hown, e5, e6, h3]; rfl
theorem okS_closeF (nm : List UInt8) : ∀ (n : Nat) (ops : List Op), okS ops → okS (closeF nm n ops)
  | 0, ops, h => by unfold closeF; exact h
  | n + 1, [], h => h.elim
  | n + 1, [o], h => by unfold closeF; exact h
  | n + 1, o :: o2 :: r, h => by
    rw [closeF]
    split
    · exact okS_shut h
    · exact okS_closeF nm n _ (okS_shut h)
theorem okS_close (nm : List UInt8) {ops : List Op} (h : okS ops) : okS (closeO nm ops) := by
  unfold closeO
  split
  · exact okS_closeF nm _ _ h
  · exact h
theorem openB_shut (q : List UInt8) (o o2 : Op) (r : List Op) : openB q (shutO (o :: o2 :: r)) = openB q (o2 :: r) := by
  obtain ⟨a, b, k⟩ := o
  obtain ⟨a2, b2, k2⟩ := o2
  exact openB_kids _ _ _ _ _ _ _
theorem liB_shut (o o2 : Op) (r : List Op) : liB (shutO (o :: o2 :: r)) = liB (o2 :: r) := by
  obtain ⟨a, b, k⟩ := o
  obtain ⟨a2, b2, k2⟩ := o2
  exact liB_kids _ _ _ _ _ _
theorem shut_len (o o2 : Op) (r : List Op) : (shutO (o :: o2 :: r)).length = r.length + 1 := by
  obtain ⟨a, b, k⟩ := o
  obtain ⟨a2, b2, k2⟩ := o2
  rfl
theorem openB_closeF (q nm : List UInt8) : ∀ (n : Nat) (ops : List Op), openB q (closeF nm n ops) = true → openB q ops = true
  | 0, ops, h => by unfold closeF at h; exact h
  | n + 1, [], h => by unfold closeF at h; exact h
  | n + 1, [o], h => by unfold closeF at h; exact h
  | n + 1, o :: o2 :: r, h => by
    rw [closeF] at h
    have e : openB q (o :: o2 :: r) = (decide (o.1 = q) || openB q (o2 :: r)) := rfl
    rw [e]
    split at h
    · rw [openB_shut] at h; rw [h, Bool.or_true]
    · have := openB_closeF q nm n _ h
      rw [openB_shut] at this; rw [this, Bool.or_true]
theorem openB_close {q nm : List UInt8} {ops : List Op} (h : openB q (closeO nm ops) = true) : openB q ops = true := by
  unfold closeO at h
  split at h
  · exact openB_closeF q nm _ _ h
  · exact h
theorem close_p : ∀ (n : Nat) (ops : List Op), okS ops → ops.length ≤ n → openB [112] ops = true → openB [112] (closeF [112] n ops) = false
  | n, [], h, _, _ => h.elim
  | n, [o], _, _, h => by cases h
  | 0, o :: o2 :: r, _, h, _ => by simp at h
  | n + 1, o :: o2 :: r, h, hl, ho => by
    rw [closeF]
    split
    · rename_i e
      rw [openB_shut]
      cases hh : openB [112] (o2 :: r) with
      | false => rfl
      | true =>
        have := h.2.1.2.1 hh
        rw [e] at this
        exact absurd (by decide) this
    · rename_i e
      have h2 : openB [112] (o :: o2 :: r) = (decide (o.1 = [112]) || openB [112] (o2 :: r)) := rfl
      rw [h2, decide_eq_false e, Bool.false_or] at ho
      exact close_p n _ (okS_shut h) (by rw [shut_len]; simp at hl; omega) (by rw [openB_shut]; exact ho)
theorem p_closed {ops : List Op} (h : okS ops) : openB [112] (closeO [112] ops) = false := by
  unfold closeO
  cases hh : openB [112] ops with
  | false => rw [if_neg (by decide)]; exact hh
  | true => rw [if_pos rfl]; exact close_p _ _ h (Nat.le_refl _) hh
theorem li_open : ∀ (ops : List Op), liB ops = true → openB [108, 105] ops = true
  | [], h => by cases h
  | [o], h => by cases h
  | o :: o2 :: r, h => by
    have e : liB (o :: o2 :: r) = if o.1 = [108, 105] then true else if o.1 = [117, 108] ∨ o.1 = [111, 108] then false else liB (o2 :: r) := rfl
    rw [e] at h
    show (decide (o.1 = [108, 105]) || openB [108, 105] (o2 :: r)) = true
    split at h
    · rename_i h1; rw [decide_eq_true h1]; rfl
    · split at h
      · cases h
      · rw [li_open _ h, Bool.or_true]
theorem close_li : ∀ (n : Nat) (ops : List Op), okS ops → ops.length ≤ n → liB ops = true → liB (closeF [108, 105] n ops) = false
  | n, [], h, _, _ => h.elim
  | n, [o], _, _, h => by cases h
  | 0, o :: o2 :: r, _, h, _ => by simp at h
  | n + 1, o :: o2 :: r, h, hl, ho => by
    rw [closeF]
    split
    · rename_i e
      rw [liB_shut]
      cases hh : liB (o2 :: r) with
      | false => rfl
      | true => exact absurd e (h.2.1.2.2.1 hh)
    · rename_i e
      have h2 : liB (o :: o2 :: r) = if o.1 = [108, 105] then true else if o.1 = [117, 108] ∨ o.1 = [111, 108] then false else liB (o2 :: r) := rfl
      rw [h2, if_neg e] at ho
      split at ho
      · cases ho
      · exact close_li n _ (okS_shut h) (by rw [shut_len]; simp at hl; omega) (by rw [liB_shut]; exact ho)
theorem li_closed {ops : List Op} (h : okS ops) (hl : liB ops = true) : liB (closeO [108, 105] ops) = false := by
  unfold closeO
  rw [if_pos (li_open _ hl)]
  exact close_li _ _ h (Nat.le_refl _) hl
theorem okS_startO (nm : List UInt8) {ops : List Op} (h : okS ops) : okS (startO nm ops) ∧ (openB [112] (startO nm ops) = true → nm ∉ blocks) ∧ (liB (startO nm ops) = true → nm ≠ [108, 105]) := by
  have h1 : okS (if nm ∈ blocks then closeO [112] ops else ops) := by
    split
    · exact okS_close _ h
    · exact h
  have h2 : openB [112] (if nm ∈ blocks then closeO [112] ops else ops) = true → nm ∉ blocks := by
    intro h3 h4
    rw [if_pos h4, p_closed h] at h3; cases h3
  unfold startO
  generalize (if nm ∈ blocks then closeO [112] ops else ops) = o1 at *
  show okS (if nm = [108, 105] ∧ liB o1 = true then closeO [108, 105] o1 else o1) ∧ (openB [112] (if nm = [108, 105] ∧ liB o1 = true then closeO [108, 105] o1 else o1) = true → nm ∉ blocks) ∧ (liB (if nm = [108, 105] ∧ liB o1 = true then closeO [108, 105] o1 else o1) = true → nm ≠ [108, 105])
  by_cases hc : nm = [108, 105] ∧ liB o1 = true
  · rw [if_pos hc]
    exact ⟨okS_close _ h1, fun h3 => h2 (openB_close h3), fun h3 => by rw [li_closed h1 hc.2] at h3; cases h3⟩
  · rw [if_neg hc]
    exact ⟨h1, h2, fun h3 h4 => hc ⟨h4, h3⟩⟩
theorem okS_put {n : Node} {ops : List Op} (h : okS ops) (hn : n.name ≠ []) (hs : stN (openB [112] ops) (liB ops) n = true) : okS (putO n ops) := by
  cases ops with
  | nil => exact h
  | cons o r =>
    obtain ⟨a, b, k⟩ := o
    exact okS_set h (stL_snoc k false _ _ n (okS_kids h) hn hs)
theorem okS_start {nm : List UInt8} {ats : List Attr} {s : Bs} (h : okS s.ops) (ho : ownB (.mk nm ats [] []) = true) (hn : nm ≠ []) : okS (startS nm ats s).ops := by
  obtain ⟨h1, h2, h3⟩ := okS_startO nm h
  show okS (if nm ∈ voids then putO (.mk nm ats [] []) (startO nm s.ops) else (nm, ats, []) :: startO nm s.ops)
  generalize startO nm s.ops = R at *
  split
  · refine okS_put h1 hn ?_
    rw [stN, ho, stL]
    have e5 : (openB [112] R && decide (nm ∈ blocks)) = false := by
      cases hh : openB [112] R with
      | false => rfl
      | true => rw [decide_eq_false (h2 hh)]; rfl
    have e6 : (liB R && decide (nm = [108, 105])) = false := by
      cases hh : liB R with
      | false => rfl
      | true => rw [decide_eq_false (h3 hh)]; rfl
    rw [e5, e6]; rfl
  · rename_i hv
    cases R with
    | nil => exact h1.elim
    | cons o2 r => exact ⟨hn, ⟨ho, h2, h3, hv⟩, by rw [stL], h1⟩
theorem okS_end (nm : List UInt8) {s : Bs} (h : okS s.ops) : okS (endS nm s).ops := by
  unfold endS
  split
  · exact okS_close _ h
  · split
    · rename_i e
      subst e
      exact okS_close _ (okS_start h (by decide) (by decide))
    · split
      · rename_i e
        subst e
        exact okS_start h (by decide) (by decide)
      · exact h
theorem okS_text (x : List UInt8) {s : Bs} (h : okS s.ops) : okS (textS x s).ops := by
  unfold textS
  split
  · exact h
  · rename_i hx
    obtain ⟨ops, cnt, full⟩ := s
    cases ops with
    | nil => exact h.elim
    | cons o r =>
      obtain ⟨a, b, k⟩ := o
      have hk := okS_kids h
      by_cases ht : topText ((a, b, k) :: r) = true
      · rw [if_pos ht]
        show okS (addText x ((a, b, k) :: r))
        have ht2 : textB k = true := ht
        unfold textB at ht2
        cases hg : k.getLast? with
        | none => rw [hg] at ht2; cases ht2
        | some n =>
          rw [hg] at ht2
          have hn : n.name = [] := of_decide_eq_true ht2
          obtain ⟨ys, hys⟩ := List.getLast?_eq_some_iff.1 hg
          have hdl : k.dropLast = ys := by rw [hys, List.dropLast_concat]
          show okS (match k.getLast? with
            | some n => (a, b, k.dropLast ++ [.mk n.name n.attrs (n.text ++ x) n.kids]) :: r
            | none => (a, b, k) :: r)
          rw [hg]
          refine okS_set h ?_
          rw [openB_kids [112] a b b k [] r, liB_kids a b b k [] r] at hk ⊢
          rw [hdl]
          rw [hys] at hk
          exact stL_more ys _ _ _ n x hk hn
      · rw [if_neg ht]
        show okS (putO (.mk [] [] x []) ((a, b, k) :: r))
        exact okS_set h (stL_text k false _ _ x hk (by
          cases hh : textB k with
          | false => rfl
          | true => exact absurd hh ht) (fun _ => rfl) hx)
/-- A token that opens what may stand in a stable tree, or opens nothing. -/
def goodT2 (t : Tok) : Prop := t.kd = 2 → ownB (.mk t.nm t.ats [] []) = true ∧ t.nm ≠ []
theorem okS_tok {t : Tok} (ht : goodT2 t) {s : Bs} (h : okS s.ops) : okS (tokS t s).ops := by
  unfold tokS
  split
  · exact okS_text _ h
  · split
    · rename_i h2
      exact okS_start h (ht h2).1 (ht h2).2
    · split
      · exact okS_end _ h
      · exact h
theorem okS_run : ∀ (T : List Tok), (∀ t ∈ T, goodT2 t) → ∀ (s s2 : Bs), okS s.ops → runS T s = some s2 → okS s2.ops
  | [], _, s, s2, h, hr => by cases hr; exact h
  | t :: T, hT, s, s2, h, hr => by
    rw [runS] at hr
    split at hr
    · cases hr
    · exact okS_run T (fun u hu => hT u (by simp [hu])) _ s2 (okS_tok (hT t (by simp)) h) hr
theorem okS_fin : ∀ (n : Nat) (ops : List Op), okS ops → ops.length ≤ n + 1 → ∃ o, finO n ops = [o] ∧ stL false false false o.2.2 = true
  | n, [], h, _ => h.elim
  | 0, [o], h, _ => ⟨o, rfl, h.2⟩
  | n + 1, [o], h, _ => ⟨o, rfl, h.2⟩
  | 0, o :: o2 :: r, _, hl => by simp at hl
  | n + 1, o :: o2 :: r, h, hl => by
    rw [finO]
    exact okS_fin n _ (okS_shut h) (by rw [shut_len]; simp at hl; omega)
/-- WHAT IS BUILT IS STABLE (but for its size). -/
theorem build_stable {T : List Tok} (hT : ∀ t ∈ T, goodT2 t) {l : List Node} (h : buildL T = some l) : stL false false false l = true := by
  unfold buildL at h
  obtain ⟨s, hs, rfl⟩ := Option.map_eq_some_iff.1 h
  have h1 := okS_run T hT _ s (show okS [([], [], [])] from ⟨rfl, by rw [stL]⟩) hs
  obtain ⟨o, e, h2⟩ := okS_fin s.ops.length s.ops h1 (by omega)
  rw [e]
  exact h2
end Go.Proofs.Ytcmkiancbgmmhaa

namespace Go.Proofs.Ytcmkiancbgmmhaa
open Go.Aw
set_option maxHeartbeats 1600000
set_option linter.unusedSimpArgs false
set_option linter.unusedVariables false
/-- How many nodes there are, within and open. -/
def sumO : List Op → Nat
  | [] => 0
  | o :: r => szL o.2.2 + sumO r
def tot (ops : List Op) : Nat := sumO ops + ops.length
theorem szL_snoc (n : Node) : ∀ k : List Node, szL (k ++ [n]) = szL k + szN n
  | [] => by rw [List.nil_append, szL, szL]; simp [szL]
  | m :: k => by rw [List.cons_append, szL, szL, szL_snoc n k]; omega
theorem tot_put (n : Node) (o : Op) (r : List Op) : tot (putO n (o :: r)) = tot (o :: r) + szN n := by
  obtain ⟨a, b, k⟩ := o
  unfold tot
  show szL (k ++ [n]) + sumO r + (r.length + 1) = szL k + sumO r + (r.length + 1) + szN n
  rw [szL_snoc]; omega
theorem tot_shut (o o2 : Op) (r : List Op) : tot (shutO (o :: o2 :: r)) = tot (o :: o2 :: r) := by
  obtain ⟨a, b, k⟩ := o
  show tot (putO (.mk a b [] k) (o2 :: r)) = _
  rw [tot_put, szN]
  unfold tot
  simp only [sumO, List.length_cons]; omega
theorem tot_closeF (nm : List UInt8) : ∀ (n : Nat) (ops : List Op), tot (closeF nm n ops) = tot ops
  | 0, ops => by unfold closeF; rfl
  | n + 1, [] => by unfold closeF; rfl
  | n + 1, [o] => by unfold closeF; rfl
  | n + 1, o :: o2 :: r => by
    rw [closeF]
    split
    · exact tot_shut _ _ _
    · rw [tot_closeF nm n, tot_shut]
theorem tot_close (nm : List UInt8) (ops : List Op) : tot (closeO nm ops) = tot ops := by
  unfold closeO
  split
  · exact tot_closeF _ _ _
  · rfl
theorem tot_startO (nm : List UInt8) (ops : List Op) : tot (startO nm ops) = tot ops := by
  have h1 : tot (if nm ∈ blocks then closeO [112] ops else ops) = tot ops := by
    split
    · exact tot_close _ _
    · rfl
  unfold startO
  generalize (if nm ∈ blocks then closeO [112] ops else ops) = o1 at *
  show tot (if nm = [108, 105] ∧ liB o1 = true then closeO [108, 105] o1 else o1) = _
  split
  · rw [tot_close, h1]
  · exact h1
/-- No more nodes than are counted, and no more than may be. -/
def okC (s : Bs) : Prop := tot s.ops ≤ s.cnt + 1 ∧ (s.full = false → s.cnt ≤ 2000)
theorem okC_count {ops : List Op} {c : Nat} {f : Bool} (h : tot ops ≤ c + 2) : okC (countS ⟨ops, c, f⟩) := by
  refine ⟨h, fun hf => ?_⟩
  have hf2 : (f || (decide (65 < ops.length) || decide (2000 < c + 1))) = false := hf
  simp only [Bool.or_eq_false_iff, decide_eq_false_iff_not] at hf2
  show c + 1 ≤ 2000
  omega
theorem okC_start {nm : List UInt8} {ats : List Attr} {s : Bs} (h : okC s) : okC (startS nm ats s) := by
  refine okC_count ?_
  have h1 := h.1
  rw [← tot_startO nm s.ops] at h1
  generalize startO nm s.ops = R at *
  split
  · cases R with
    | nil => show tot [] ≤ _; unfold tot; simp [sumO]
    | cons o r => rw [tot_put, szN, szL]; omega
  · unfold tot at *
    simp only [sumO, List.length_cons, szL]; omega
theorem okC_end (nm : List UInt8) {s : Bs} (h : okC s) : okC (endS nm s) := by
  unfold endS
  split
  · exact ⟨by show tot (closeO nm s.ops) ≤ _; rw [tot_close]; exact h.1, h.2⟩
  · split
    · have h2 := okC_start (nm := nm) (ats := []) h
      exact ⟨by show tot (closeO nm (startS nm [] s).ops) ≤ _; rw [tot_close]; exact h2.1, h2.2⟩
    · split
      · exact okC_start h
      · exact h
theorem szN_text (n : Node) (x : List UInt8) : szN (.mk n.name n.attrs (n.text ++ x) n.kids) = szN n := by
  cases n; rw [szN, szN]; rfl
theorem tot_addText (x : List UInt8) : ∀ ops : List Op, tot (addText x ops) = tot ops
  | [] => rfl
  | (a, b, k) :: r => by
    show tot (match k.getLast? with
      | some n => (a, b, k.dropLast ++ [.mk n.name n.attrs (n.text ++ x) n.kids]) :: r
      | none => (a, b, k) :: r) = _
    cases hg : k.getLast? with
    | none => rfl
    | some n =>
      obtain ⟨ys, hys⟩ := List.getLast?_eq_some_iff.1 hg
      show szL (k.dropLast ++ [.mk n.name n.attrs (n.text ++ x) n.kids]) + sumO r + (r.length + 1) = szL k + sumO r + (r.length + 1)
      rw [szL_snoc, szN_text, hys, List.dropLast_concat, szL_snoc]
theorem okC_text (x : List UInt8) {s : Bs} (h : okC s) : okC (textS x s) := by
  unfold textS
  split
  · exact h
  · split
    · exact ⟨by show tot (addText x s.ops) ≤ _; rw [tot_addText]; exact h.1, h.2⟩
    · refine okC_count ?_
      have h1 := h.1
      cases hh : s.ops with
      | nil => show tot [] ≤ _; unfold tot; simp [sumO]
      | cons o r => rw [hh] at h1; rw [tot_put, szN, szL]; omega
theorem okC_tok (t : Tok) {s : Bs} (h : okC s) : okC (tokS t s) := by
  unfold tokS
  split
  · exact okC_text _ h
  · split
    · exact okC_start h
    · split
      · exact okC_end _ h
      · exact h
theorem okC_run : ∀ (T : List Tok) (s s2 : Bs), okC s → s.full = false → runS T s = some s2 → okC s2 ∧ s2.full = false
  | [], s, s2, h, hf, hr => by cases hr; exact ⟨h, hf⟩
  | t :: T, s, s2, h, hf, hr => by
    rw [runS] at hr
    split at hr
    · cases hr
    · rename_i hn
      exact okC_run T _ s2 (okC_tok t h) (by simpa using hn) hr
theorem tot_fin : ∀ (n : Nat) (ops : List Op), tot (finO n ops) = tot ops
  | 0, ops => by unfold finO; rfl
  | n + 1, [] => by unfold finO; rfl
  | n + 1, [o] => by unfold finO; rfl
  | n + 1, o :: o2 :: r => by rw [finO, tot_fin n, tot_shut]
/-- WHAT IS BUILT HAS NO MORE NODES THAN MAY BE. -/
theorem build_size {T : List Tok} {l : List Node} (h : buildL T = some l) : szL l ≤ 2000 := by
  unfold buildL at h
  obtain ⟨s, hs, rfl⟩ := Option.map_eq_some_iff.1 h
  obtain ⟨h1, h2⟩ := okC_run T _ s (by refine ⟨?_, fun _ => ?_⟩ <;> simp [tot, sumO, szL]) rfl hs
  have h3 := h1.2 h2
  have h4 := tot_fin s.ops.length s.ops
  generalize finO s.ops.length s.ops = F at *
  cases F with
  | nil => exact Nat.zero_le _
  | cons o r =>
    obtain ⟨a, b, k⟩ := o
    have h5 := h1.1
    rw [← h4] at h5
    unfold tot at h5
    simp only [sumO, List.length_cons] at h5
    show szL k ≤ 2000
    omega
/-- WHAT IS BUILT IS STABLE, AND IS READ AGAIN AS IT WAS. -/
theorem build_again {T : List Tok} (hT : ∀ t ∈ T, goodT2 t) {l : List Node} (h : buildL T = some l) (hd : dpL l ≤ 64) : stL false false false l = true ∧ szL l ≤ 2000 ∧ buildL (toks (htL l)) = some l := by
  have h1 := build_stable hT h
  have h2 := build_size h
  refine ⟨h1, h2, ?_⟩
  have := toks_page l false false false h1 [] (.inl rfl)
  rw [List.append_nil, toks_nil, List.append_nil] at this
  rw [this]
  exact build_page h1 h2 hd
end Go.Proofs.Ytcmkiancbgmmhaa

namespace Go.Proofs.Ytcmkiancbgmmhaa
open Go.Aw
set_option maxHeartbeats 1600000
set_option linter.unusedSimpArgs false
set_option linter.unusedVariables false
theorem attrsFrom_of : ∀ (ats : List Attr) (seen : List (List UInt8)), (∀ a ∈ ats, small a.1 [45, 95, 58] = true) → (ats.map (·.1)).Nodup → (∀ a ∈ ats, a.1 ∉ seen) → attrsFrom seen ats = true
  | [], _, _, _, _ => rfl
  | a :: r, seen, h1, h2, h3 => by
    rw [List.map_cons, List.nodup_cons] at h2
    unfold attrsFrom
    rw [h1 a (by simp), decide_eq_false (h3 a (by simp)), attrsFrom_of r (seen ++ [a.1]) (fun b hb => h1 b (by simp [hb])) h2.2 (fun b hb hm => ?_)]
    · rfl
    · rcases List.mem_append.1 hm with hm | hm
      · exact h3 b (by simp [hb]) hm
      · rw [List.mem_singleton] at hm
        exact h2.1 (List.mem_map.2 ⟨b, hb, hm⟩)
theorem nodup_of {ats : List Attr} (h : Uniq ats) : (ats.map (·.1)).Nodup := by
  rw [List.Nodup, List.pairwise_iff_getElem]
  intro i j hi hj hij
  simp only [List.getElem_map]
  exact h i j hij (by simpa using hj)
/-- A token of which the law's guard holds. -/
theorem good_of {t : Tok} (hu : Uniq t.ats) (h : t.kd = 2 → small t.nm [45] = true ∧ rawB t.nm = false ∧ ∀ a ∈ t.ats, small a.1 [45, 95, 58] = true) : goodT2 t := by
  intro hk
  obtain ⟨h1, h2, h3⟩ := h hk
  refine ⟨?_, small_ne h1⟩
  have e : ownB (.mk t.nm t.ats [] []) = (!(rawB t.nm || !small t.nm [45] || !decide (([] : List UInt8) = []) || decide (t.nm ∈ voids) && !decide (([] : List Node) = [])) && attrsFrom [] t.ats) := rfl
  rw [e, h1, h2, attrsFrom_of t.ats [] h3 (nodup_of hu) (fun _ _ h => by cases h), decide_eq_true rfl]
  simp
end Go.Proofs.Ytcmkiancbgmmhaa

namespace Go.Proofs.Ytcmkiancbgmmhaa
open Go.Aw
set_option maxHeartbeats 1600000
set_option linter.unusedSimpArgs false
set_option linter.unusedVariables false
/-- A value that is one cell. -/
abbrev OV := {v : Value // v.oneCell' = true}
def boxB (j m c : Nat) (f : Bool) : Ob := .rows (3, 70) [[.own j 0 m, .d (.int .i64 c), .d (.bool f)]]
def kidsO (k : List Node) : Ob := .rows (4, 29) ((nodesD k).map fun r => r.map AV.d)
def rowO (o : Op) (v : AV) : List AV := [.d (.str o.1), .d (.sl (attrsD o.2.1)), .d (.str []), v, .d (.str o.1)]
def rowsO : List Op → List OV → List (List AV)
  | o :: r, v :: vs => rowsO r vs ++ [rowO o (.lit v.1)]
  | _, _ => []
def kinL : List Op → List OV → List (Value × List (List D))
  | o :: r, v :: vs => (v.1, nodesD o.2.2) :: kinL r vs
  | _, _ => []
def openR (i : Nat) (vs : List OV) (o : Op) (r : List Op) : List (List AV) := rowsO r vs ++ [rowO o (.own i 0 o.2.2.length)]
def openO (i : Nat) (vs : List OV) (o : Op) (r : List Op) : Ob := .rows (5, 67) (openR i vs o r)
def kinO (vs : List OV) (r : List Op) : Ob := .kin (4, 29) (kinL r vs)
abbrev B0 (vs : List OV) (o : Op) (r : List Op) (c : Nat) (f : Bool) : Store := ⟨4, [(3, kinO vs r), (2, kidsO o.2.2), (1, openO 2 vs o r), (0, boxB 1 (r.length + 1) c f)]⟩
abbrev B3 (vs : List OV) (o : Op) (r : List Op) (c : Nat) (f : Bool) : Store := ⟨7, [(6, kinO vs r), (5, kidsO o.2.2), (4, openO 5 vs o r), (0, boxB 4 (r.length + 1) c f)]⟩
theorem rowsO_len : ∀ {r : List Op} {vs : List OV}, vs.length = r.length → (rowsO r vs).length = r.length
  | [], [], _ => rfl
  | o :: r, v :: vs, h => by
    rw [rowsO, List.length_append, rowsO_len (by simpa using h)]; rfl
  | [], _ :: _, h => by simp at h
  | _ :: _, [], h => by simp at h
theorem rowsO_pure : ∀ (r : List Op) (vs : List OV), ∀ row ∈ rowsO r vs, pureL row = true
  | o :: r, v :: vs, row, h => by
    rw [rowsO] at h
    rcases List.mem_append.1 h with h | h
    · exact rowsO_pure r vs row h
    · rw [List.mem_singleton.1 h]; rfl
  | [], _, row, h => by simp [rowsO] at h
  | _ :: _, [], row, h => by simp [rowsO] at h
theorem openR_rel {f : Nat → Option VE} {i i' : Nat} (h : f i' = some (.old i)) (vs : List OV) (o : Op) (r : List Op) : rrel f (openR i' vs o r) (openR i vs o r) :=
  rrel_app _ (rowsO_pure r vs) ⟨⟨rfl, rfl, rfl, ⟨h, rfl, rfl⟩, rfl, trivial⟩, trivial⟩
theorem openO_rel {f : Nat → Option VE} {i i' : Nat} (h : f i' = some (.old i)) (vs : List OV) (o : Op) (r : List Op) : orel f (openO i' vs o r) (openO i vs o r) := ⟨rfl, .inr (openR_rel h vs o r)⟩
theorem kidsO_rel {f : Nat → Option VE} (k : List Node) : orel f (kidsO k) (kidsO k) := ⟨rfl, .inl ⟨rfl, dataA_pure _⟩⟩
theorem kinO_rel {f : Nat → Option VE} (vs : List OV) (r : List Op) : orel f (kinO vs r) (kinO vs r) := ⟨rfl, rfl⟩
theorem boxB_rel {f : Nat → Option VE} {j j' : Nat} (h : f j' = some (.old j)) (m c : Nat) (b : Bool) : orel f (boxB j' m c b) (boxB j m c b) := ⟨rfl, .inr ⟨⟨⟨h, rfl, rfl⟩, rfl, rfl, trivial⟩, trivial⟩⟩
theorem B_up {σ0 : Store} {r r' : AV} (vs : List OV) (o : Op) (q : List Op) (c : Nat) (f : Bool) (hr : vrel (upf 4 [1, 2, 3]) r' r) : FinMove σ0 r (B0 vs o q c f) r' (B3 vs o q c f) :=
  fin_ups [1, 2, 3] rfl (by decide) ⟨rfl, rfl, rfl, trivial⟩ ⟨fun h => (by cases h), fun h => (by cases h), fun h => (by cases h), trivial⟩
    ⟨kinO_rel (f := upf 4 [1, 2, 3]) vs q, kidsO_rel (f := upf 4 [1, 2, 3]) o.2.2, openO_rel (f := upf 4 [1, 2, 3]) rfl vs o q, boxB_rel (f := upf 4 [1, 2, 3]) rfl _ _ _, trivial⟩ hr
/-- What a method leaves behind. -/
def Bp (ops : List Op) (c : Nat) (f : Bool) (σ' : Store) : Prop := ∃ o r vs, ops = o :: r ∧ vs.length = r.length ∧ σ' = B3 vs o r c f
/-- WHAT A METHOD DOES. -/
def Meth (P : Program) (g : FuncId) (args : List AV) (res : AV) (s s' : Bs) : Prop :=
  ∀ o r vs, s.ops = o :: r → vs.length = r.length → CallsAbs P g args (B0 vs o r s.cnt s.full) fun x σ' => x = res ∧ Bp s'.ops s'.cnt s'.full σ'
/-- A method called where there are more objects, and otherwise numbered. -/
theorem Meth.use {P : Program} {g : FuncId} {args args0 : List AV} {res : AV} {s s' : Bs} (hm : Meth P g args0 res s s') {σ : Store} {K : AV → Store → Prop} {o : Op} {r : List Op} {vs : List OV} (j i l n0 n1 n2 n3 : Nat)
    (ho : s.ops = o :: r) (hv : vs.length = r.length) (hres : res.pure = true) (e0 : σ.n = n0) (e1 : n0 + 1 = n1) (e2 : n0 + 2 = n2) (e3 : n0 + 3 = n3)
    (hg : goodr 0 σ.n [.old 0, .old j, .old i, .old l] = true) (h0 : σ.get 0 = boxB j (r.length + 1) s.cnt s.full) (h1 : σ.get j = openO i vs o r) (h2 : σ.get i = kidsO o.2.2) (h3 : σ.get l = kinO vs r)
    (ha : vrelL (phi 0 [.old 0, .old j, .old i, .old l]) args0 args)
    (hK : ∀ o' r' vs', s'.ops = o' :: r' → vs'.length = r'.length → K res ⟨n3, (0, boxB n0 (r'.length + 1) s'.cnt s'.full) :: (n0, openO n1 vs' o' r') :: (n1, kidsO o'.2.2) :: (n2, kinO vs' r') :: (j, .dead) :: (i, .dead) :: (l, .dead) :: σ.objs⟩) : CallsAbs P g args σ K := by
  subst e0; subst e1; subst e2; subst e3
  have p1 : phi 0 [.old 0, .old j, .old i, .old l] 1 = some (.old j) := rfl
  have p2 : phi 0 [.old 0, .old j, .old i, .old l] 2 = some (.old i) := rfl
  have p3 : phi 0 [.old 0, .old j, .old i, .old l] 3 = some (.old l) := rfl
  have p0 : phi 0 [.old 0, .old j, .old i, .old l] 0 = some (.old 0) := rfl
  have hpos : 0 < σ.n := by
    have := good_nth (r := [.old 0, .old j, .old i, .old l]) (j := 0) (k := 0) hg rfl
    omega
  have hjn : j < σ.n := (good_nth (r := [.old 0, .old j, .old i, .old l]) (j := 1) hg rfl).2
  have hin : i < σ.n := (good_nth (r := [.old 0, .old j, .old i, .old l]) (j := 2) hg rfl).2
  have hln : l < σ.n := (good_nth (r := [.old 0, .old j, .old i, .old l]) (j := 3) hg rfl).2
  have x1 := idx_of_nth (B := 0) (n := σ.n) (r := [.old 0, .old j, .old i, .old l]) (j := 1) (k := j) (a := 0) hg rfl
  have x2 := idx_of_nth (B := 0) (n := σ.n) (r := [.old 0, .old j, .old i, .old l]) (j := 2) (k := i) (a := 0) hg rfl
  have x3 := idx_of_nth (B := 0) (n := σ.n) (r := [.old 0, .old j, .old i, .old l]) (j := 3) (k := l) (a := 0) hg rfl
  have x0 := idx_of_nth (B := 0) (n := σ.n) (r := [.old 0, .old j, .old i, .old l]) (j := 0) (k := 0) (a := 0) hg rfl
  refine CallsAbs.frame (hm o r vs ho hv) [.old 0, .old j, .old i, .old l] ⟨Nat.zero_le _, rfl, hg, ⟨?_, ?_, ?_, ?_, trivial⟩⟩ ha ?_
  · show entry _ _ 3 _; unfold entry; rw [p3]; dsimp only; rw [h3]; exact kinO_rel _ _
  · show entry _ _ 2 _; unfold entry; rw [p2]; dsimp only; rw [h2]; exact kidsO_rel _
  · show entry _ _ 1 _; unfold entry; rw [p1]; dsimp only; rw [h1]; exact openO_rel p2 _ _ _
  · show entry _ _ 0 _; unfold entry; rw [p0]; dsimp only; rw [h0]; exact boxB_rel p1 _ _ _
  · rintro _ _ ⟨rfl, o', r', vs', q1, q2, rfl⟩
    have b0 : back [.old 0, .old j, .old i, .old l] σ.n 4 7 0 = some (.old 0) := by
      unfold back
      have : Nat.ble σ.n 0 = false := by
        cases hb : Nat.ble σ.n 0 with
        | false => rfl
        | true => have := Nat.le_of_ble_eq_true hb; omega
      rw [this]; dsimp only; rw [x0]
    have bl : ∀ k m, k < σ.n → idx [.old 0, .old j, .old i, .old l] k 0 = some m → back [.old 0, .old j, .old i, .old l] σ.n 4 7 k = some (.old m) := fun k m hk hx => by
      unfold back
      have : Nat.ble σ.n k = false := by
        cases hb : Nat.ble σ.n k with
        | false => rfl
        | true => have := Nat.le_of_ble_eq_true hb; omega
      rw [this]; dsimp only; rw [hx]
    have bh : ∀ m, m < 3 → back [.old 0, .old j, .old i, .old l] σ.n 4 7 (σ.n + m) = some (.old (4 + m)) := fun m hm => by
      unfold back
      rw [Nat.ble_eq_true_of_le (by omega : σ.n ≤ σ.n + m)]
      dsimp only
      rw [Nat.ble_eq_true_of_le (by omega : σ.n + m + 4 + 1 ≤ 7 + σ.n)]
      dsimp only
      rw [show σ.n + m + 4 - σ.n = 4 + m by omega]
    refine ⟨_, [(0, boxB σ.n (r'.length + 1) s'.cnt s'.full), (σ.n, openO (σ.n + 1) vs' o' r'), (σ.n + 1, kidsO o'.2.2), (σ.n + 2, kinO vs' r'), (j, .dead), (i, .dead), (l, .dead)], ⟨?_, ?_, ?_, ?_, ?_, ?_, ?_, trivial⟩, ?_, vrel_self _ hres, hK o' r' vs' q1 q2⟩
    · unfold entry; rw [b0]; exact boxB_rel (bh 0 (by omega)) _ _ _
    · unfold entry; rw [show back _ σ.n 4 7 σ.n = some (.old 4) from bh 0 (by omega)]; exact openO_rel (bh 1 (by omega)) _ _ _
    · unfold entry; rw [bh 1 (by omega)]; exact kidsO_rel _
    · unfold entry; rw [bh 2 (by omega)]; exact kinO_rel _ _
    · unfold entry; rw [bl j _ hjn x1]; trivial
    · unfold entry; rw [bl i _ hin x2]; trivial
    · unfold entry; rw [bl l _ hln x3]; trivial
    · have hb : ∀ k, Nat.beq k k = true := Nat.beq_refl
      simp [covers, keys, hb]
set_option maxRecDepth 100000 in
theorem last_7 (a b : Ob) (rows : List (List AV)) (m c : Nat) (f : Bool) (hm : 1 ≤ m) (hm2 : m ≤ 1000000) : CallsAbs Try.prog 57 [.ref 0 0 0] ⟨7, [(6, a), (5, b), (4, .rows (5, 67) rows), (0, boxB 4 m c f)]⟩ fun r σ' => r = .ref 4 (m - 1) 0 ∧ σ' = ⟨7, [(6, a), (5, b), (4, .rows (5, 67) rows), (0, boxB 4 m c f)]⟩ := by
  refine fn_okT Try.wf Try.tab_ok Try.func57 (by decide +kernel) rfl rfl ?_
  repeat' (first |                        refine ⟨fun _ => ?_, fun h => absurd h (by decide)⟩ | refine ⟨fun h => absurd h (by decide), fun _ => ?_⟩ | (refine ⟨fun h => ?_, fun h => ?_⟩ <;> (try simp only [decide_eq_true_eq, decide_eq_false_iff_not, Bool.not_eq_true', Bool.not_eq_false', Bool.not_eq_true, Bool.not_eq_false, not_true_eq_false, beq_iff_eq, beq_eq_false_iff_ne, ne_eq, decide_eq_decide, true_iff, false_iff, iff_true, iff_false, true_and, and_true, false_or, or_false, Bool.and_true, Bool.and_eq_true, Bool.and_eq_false_iff, Bool.or_eq_true, Bool.or_eq_false_iff, List.length_cons, List.length_nil] at h) <;> (try (exfalso; first | omega | exact h rfl | (cases h; done) | exact absurd h (by assumption) | exact h (by assumption) | (simp at h; done)))) | refine ⟨⟨by (first | omega | (simp only [lenS]; omega)), by (first | omega | (simp only [lenS]; omega))⟩, _, by assumption, by rfl, ?_⟩ | refine .inl ⟨⟨by (first | omega | (simp only [lenS]; omega)), by (first | omega | (simp only [lenS]; omega))⟩, ?_⟩ | refine ⟨⟨by (first | omega | (simp only [lenS]; omega)), by (first | omega | (simp only [lenS]; omega))⟩, ?_⟩ | refine ⟨⟨by (first | omega | (simp only [lenS]; omega)), by (first | omega | (simp only [lenS]; omega)), by (first | omega | (simp only [lenS]; omega))⟩, ?_⟩ | refine ⟨.inl rfl, ?_⟩ | refine ⟨.inr (.inl (by (first | omega | (simp only [lenS]; omega)))), ?_⟩ | refine ⟨_, rfl, rfl, by (first | exact Nat.le_refl _ | exact Nat.le_of_ble_eq_true rfl | decide), ?_⟩ | refine ⟨_, rfl, by (first | exact Nat.le_refl _ | exact Nat.le_of_ble_eq_true rfl | decide), ?_⟩ | refine ⟨by (first | exact Nat.le_refl _ | exact Nat.le_of_ble_eq_true rfl | decide | exact rfl), ?_⟩ | refine ⟨show _ ≤ (9223372036854775807 : Nat) by (first | omega | (simp only [lenS]; omega)), ?_⟩ | refine ⟨show _ ≠ (0 : Int) by (first | omega | (simp only [lenS]; omega)), ?_⟩ | refine ⟨_, rfl, _, rfl, ?_⟩ | refine ⟨_, by assumption, Nat.le_of_ble_eq_true rfl, ?_⟩ | refine ⟨_, by assumption, _, rfl, ?_⟩ | refine ⟨_, rfl, ?_⟩ | fail)
  refine drawnT Try.wf Try.tab_ok Try.mixed (by decide +kernel) ?_
  repeat' (first |       refine qskip rfl rfl ?_ | refine qstep (r := .d (.bool true)) rfl rfl (fin_eq (congrArg (fun b => AV.d (.bool b)) (decide_eq_true (by omega)))) ?_ | refine qstep (r := .d (.bool false)) rfl rfl (fin_eq (congrArg (fun b => AV.d (.bool b)) (decide_eq_false (by omega)))) ?_ | refine qstep rfl rfl ⟨fun _ => FinMove.refl _ _ _, fun h => absurd h (by decide)⟩ ?_ | refine qstep rfl rfl ⟨fun h => absurd h (by decide), fun _ => FinMove.refl _ _ _⟩ ?_ | refine qstep rfl rfl (FinMove.refl _ _ _) ?_ |             refine qstep rfl rfl ⟨⟨by (first | omega | (simp only [lenS]; omega)), by (first | omega | (simp only [lenS]; omega))⟩, _, by assumption, by rfl, FinMove.refl _ _ _⟩ ?_ | refine qstep rfl rfl (.inl ⟨⟨by (first | omega | (simp only [lenS]; omega)), by (first | omega | (simp only [lenS]; omega))⟩, FinMove.refl _ _ _⟩) ?_ | refine qstep rfl rfl ⟨⟨by (first | omega | (simp only [lenS]; omega)), by (first | omega | (simp only [lenS]; omega))⟩, FinMove.refl _ _ _⟩ ?_ | refine qstep rfl rfl ⟨⟨by (first | omega | (simp only [lenS]; omega)), by (first | omega | (simp only [lenS]; omega)), by (first | omega | (simp only [lenS]; omega))⟩, FinMove.refl _ _ _⟩ ?_ | refine qstep rfl rfl ⟨⟨by (first | omega | (simp only [lenS]; omega)), by (first | omega | (simp only [lenS]; omega)), by (first | omega | (simp only [lenS]; omega))⟩, .inl rfl, FinMove.refl _ _ _⟩ ?_ | refine qstep rfl rfl ⟨_, rfl, _, rfl, FinMove.refl _ _ _⟩ ?_ | refine qstep rfl rfl ⟨_, rfl, FinMove.refl _ _ _⟩ ?_ | refine qstep rfl rfl ⟨_, rfl, Nat.le_refl _, FinMove.refl _ _ _⟩ ?_ | refine qstep rfl rfl ⟨Nat.le_refl _, FinMove.refl _ _ _⟩ ?_ | refine qstep rfl rfl ⟨by decide, FinMove.refl _ _ _⟩ ?_ | refine qstep rfl rfl ⟨show _ ≤ (9223372036854775807 : Nat) by (first | omega | (simp only [lenS]; omega)), FinMove.refl _ _ _⟩ ?_ | fail)
  repeat' (first |                        refine ⟨fun _ => ?_, fun h => absurd h (by decide)⟩ | refine ⟨fun h => absurd h (by decide), fun _ => ?_⟩ | (refine ⟨fun h => ?_, fun h => ?_⟩ <;> (try simp only [decide_eq_true_eq, decide_eq_false_iff_not, Bool.not_eq_true', Bool.not_eq_false', Bool.not_eq_true, Bool.not_eq_false, not_true_eq_false, beq_iff_eq, beq_eq_false_iff_ne, ne_eq, decide_eq_decide, true_iff, false_iff, iff_true, iff_false, true_and, and_true, false_or, or_false, Bool.and_true, Bool.and_eq_true, Bool.and_eq_false_iff, Bool.or_eq_true, Bool.or_eq_false_iff, List.length_cons, List.length_nil] at h) <;> (try (exfalso; first | omega | exact h rfl | (cases h; done) | exact absurd h (by assumption) | exact h (by assumption) | (simp at h; done)))) | refine ⟨⟨by (first | omega | (simp only [lenS]; omega)), by (first | omega | (simp only [lenS]; omega))⟩, _, by assumption, by rfl, ?_⟩ | refine .inl ⟨⟨by (first | omega | (simp only [lenS]; omega)), by (first | omega | (simp only [lenS]; omega))⟩, ?_⟩ | refine ⟨⟨by (first | omega | (simp only [lenS]; omega)), by (first | omega | (simp only [lenS]; omega))⟩, ?_⟩ | refine ⟨⟨by (first | omega | (simp only [lenS]; omega)), by (first | omega | (simp only [lenS]; omega)), by (first | omega | (simp only [lenS]; omega))⟩, ?_⟩ | refine ⟨.inl rfl, ?_⟩ | refine ⟨.inr (.inl (by (first | omega | (simp only [lenS]; omega)))), ?_⟩ | refine ⟨_, rfl, rfl, by (first | exact Nat.le_refl _ | exact Nat.le_of_ble_eq_true rfl | decide), ?_⟩ | refine ⟨_, rfl, by (first | exact Nat.le_refl _ | exact Nat.le_of_ble_eq_true rfl | decide), ?_⟩ | refine ⟨by (first | exact Nat.le_refl _ | exact Nat.le_of_ble_eq_true rfl | decide | exact rfl), ?_⟩ | refine ⟨show _ ≤ (9223372036854775807 : Nat) by (first | omega | (simp only [lenS]; omega)), ?_⟩ | refine ⟨show _ ≠ (0 : Int) by (first | omega | (simp only [lenS]; omega)), ?_⟩ | refine ⟨_, rfl, _, rfl, ?_⟩ | refine ⟨_, by assumption, Nat.le_of_ble_eq_true rfl, ?_⟩ | refine ⟨_, by assumption, _, rfl, ?_⟩ | refine ⟨_, rfl, ?_⟩ | fail)
  exact ⟨_, _, FinMove.refl _ _ _, congrArg (fun x => AV.ref 4 x 0) (by omega), rfl⟩
set_option maxRecDepth 100000 in
theorem last_8 (x a b : Ob) (rows : List (List AV)) (m c : Nat) (f : Bool) (hm : 1 ≤ m) (hm2 : m ≤ 1000000) : CallsAbs Try.prog 57 [.ref 0 0 0] ⟨8, [(7, x), (6, a), (5, b), (4, .rows (5, 67) rows), (0, boxB 4 m c f)]⟩ fun r σ' => r = .ref 4 (m - 1) 0 ∧ σ' = ⟨8, [(7, x), (6, a), (5, b), (4, .rows (5, 67) rows), (0, boxB 4 m c f)]⟩ := by
  refine fn_okT Try.wf Try.tab_ok Try.func57 (by decide +kernel) rfl rfl ?_
  repeat' (first |                        refine ⟨fun _ => ?_, fun h => absurd h (by decide)⟩ | refine ⟨fun h => absurd h (by decide), fun _ => ?_⟩ | (refine ⟨fun h => ?_, fun h => ?_⟩ <;> (try simp only [decide_eq_true_eq, decide_eq_false_iff_not, Bool.not_eq_true', Bool.not_eq_false', Bool.not_eq_true, Bool.not_eq_false, not_true_eq_false, beq_iff_eq, beq_eq_false_iff_ne, ne_eq, decide_eq_decide, true_iff, false_iff, iff_true, iff_false, true_and, and_true, false_or, or_false, Bool.and_true, Bool.and_eq_true, Bool.and_eq_false_iff, Bool.or_eq_true, Bool.or_eq_false_iff, List.length_cons, List.length_nil] at h) <;> (try (exfalso; first | omega | exact h rfl | (cases h; done) | exact absurd h (by assumption) | exact h (by assumption) | (simp at h; done)))) | refine ⟨⟨by (first | omega | (simp only [lenS]; omega)), by (first | omega | (simp only [lenS]; omega))⟩, _, by assumption, by rfl, ?_⟩ | refine .inl ⟨⟨by (first | omega | (simp only [lenS]; omega)), by (first | omega | (simp only [lenS]; omega))⟩, ?_⟩ | refine ⟨⟨by (first | omega | (simp only [lenS]; omega)), by (first | omega | (simp only [lenS]; omega))⟩, ?_⟩ | refine ⟨⟨by (first | omega | (simp only [lenS]; omega)), by (first | omega | (simp only [lenS]; omega)), by (first | omega | (simp only [lenS]; omega))⟩, ?_⟩ | refine ⟨.inl rfl, ?_⟩ | refine ⟨.inr (.inl (by (first | omega | (simp only [lenS]; omega)))), ?_⟩ | refine ⟨_, rfl, rfl, by (first | exact Nat.le_refl _ | exact Nat.le_of_ble_eq_true rfl | decide), ?_⟩ | refine ⟨_, rfl, by (first | exact Nat.le_refl _ | exact Nat.le_of_ble_eq_true rfl | decide), ?_⟩ | refine ⟨by (first | exact Nat.le_refl _ | exact Nat.le_of_ble_eq_true rfl | decide | exact rfl), ?_⟩ | refine ⟨show _ ≤ (9223372036854775807 : Nat) by (first | omega | (simp only [lenS]; omega)), ?_⟩ | refine ⟨show _ ≠ (0 : Int) by (first | omega | (simp only [lenS]; omega)), ?_⟩ | refine ⟨_, rfl, _, rfl, ?_⟩ | refine ⟨_, by assumption, Nat.le_of_ble_eq_true rfl, ?_⟩ | refine ⟨_, by assumption, _, rfl, ?_⟩ | refine ⟨_, rfl, ?_⟩ | fail)
  refine drawnT Try.wf Try.tab_ok Try.mixed (by decide +kernel) ?_
  repeat' (first |       refine qskip rfl rfl ?_ | refine qstep (r := .d (.bool true)) rfl rfl (fin_eq (congrArg (fun b => AV.d (.bool b)) (decide_eq_true (by omega)))) ?_ | refine qstep (r := .d (.bool false)) rfl rfl (fin_eq (congrArg (fun b => AV.d (.bool b)) (decide_eq_false (by omega)))) ?_ | refine qstep rfl rfl ⟨fun _ => FinMove.refl _ _ _, fun h => absurd h (by decide)⟩ ?_ | refine qstep rfl rfl ⟨fun h => absurd h (by decide), fun _ => FinMove.refl _ _ _⟩ ?_ | refine qstep rfl rfl (FinMove.refl _ _ _) ?_ |             refine qstep rfl rfl ⟨⟨by (first | omega | (simp only [lenS]; omega)), by (first | omega | (simp only [lenS]; omega))⟩, _, by assumption, by rfl, FinMove.refl _ _ _⟩ ?_ | refine qstep rfl rfl (.inl ⟨⟨by (first | omega | (simp only [lenS]; omega)), by (first | omega | (simp only [lenS]; omega))⟩, FinMove.refl _ _ _⟩) ?_ | refine qstep rfl rfl ⟨⟨by (first | omega | (simp only [lenS]; omega)), by (first | omega | (simp only [lenS]; omega))⟩, FinMove.refl _ _ _⟩ ?_ | refine qstep rfl rfl ⟨⟨by (first | omega | (simp only [lenS]; omega)), by (first | omega | (simp only [lenS]; omega)), by (first | omega | (simp only [lenS]; omega))⟩, FinMove.refl _ _ _⟩ ?_ | refine qstep rfl rfl ⟨⟨by (first | omega | (simp only [lenS]; omega)), by (first | omega | (simp only [lenS]; omega)), by (first | omega | (simp only [lenS]; omega))⟩, .inl rfl, FinMove.refl _ _ _⟩ ?_ | refine qstep rfl rfl ⟨_, rfl, _, rfl, FinMove.refl _ _ _⟩ ?_ | refine qstep rfl rfl ⟨_, rfl, FinMove.refl _ _ _⟩ ?_ | refine qstep rfl rfl ⟨_, rfl, Nat.le_refl _, FinMove.refl _ _ _⟩ ?_ | refine qstep rfl rfl ⟨Nat.le_refl _, FinMove.refl _ _ _⟩ ?_ | refine qstep rfl rfl ⟨by decide, FinMove.refl _ _ _⟩ ?_ | refine qstep rfl rfl ⟨show _ ≤ (9223372036854775807 : Nat) by (first | omega | (simp only [lenS]; omega)), FinMove.refl _ _ _⟩ ?_ | fail)
  repeat' (first |                        refine ⟨fun _ => ?_, fun h => absurd h (by decide)⟩ | refine ⟨fun h => absurd h (by decide), fun _ => ?_⟩ | (refine ⟨fun h => ?_, fun h => ?_⟩ <;> (try simp only [decide_eq_true_eq, decide_eq_false_iff_not, Bool.not_eq_true', Bool.not_eq_false', Bool.not_eq_true, Bool.not_eq_false, not_true_eq_false, beq_iff_eq, beq_eq_false_iff_ne, ne_eq, decide_eq_decide, true_iff, false_iff, iff_true, iff_false, true_and, and_true, false_or, or_false, Bool.and_true, Bool.and_eq_true, Bool.and_eq_false_iff, Bool.or_eq_true, Bool.or_eq_false_iff, List.length_cons, List.length_nil] at h) <;> (try (exfalso; first | omega | exact h rfl | (cases h; done) | exact absurd h (by assumption) | exact h (by assumption) | (simp at h; done)))) | refine ⟨⟨by (first | omega | (simp only [lenS]; omega)), by (first | omega | (simp only [lenS]; omega))⟩, _, by assumption, by rfl, ?_⟩ | refine .inl ⟨⟨by (first | omega | (simp only [lenS]; omega)), by (first | omega | (simp only [lenS]; omega))⟩, ?_⟩ | refine ⟨⟨by (first | omega | (simp only [lenS]; omega)), by (first | omega | (simp only [lenS]; omega))⟩, ?_⟩ | refine ⟨⟨by (first | omega | (simp only [lenS]; omega)), by (first | omega | (simp only [lenS]; omega)), by (first | omega | (simp only [lenS]; omega))⟩, ?_⟩ | refine ⟨.inl rfl, ?_⟩ | refine ⟨.inr (.inl (by (first | omega | (simp only [lenS]; omega)))), ?_⟩ | refine ⟨_, rfl, rfl, by (first | exact Nat.le_refl _ | exact Nat.le_of_ble_eq_true rfl | decide), ?_⟩ | refine ⟨_, rfl, by (first | exact Nat.le_refl _ | exact Nat.le_of_ble_eq_true rfl | decide), ?_⟩ | refine ⟨by (first | exact Nat.le_refl _ | exact Nat.le_of_ble_eq_true rfl | decide | exact rfl), ?_⟩ | refine ⟨show _ ≤ (9223372036854775807 : Nat) by (first | omega | (simp only [lenS]; omega)), ?_⟩ | refine ⟨show _ ≠ (0 : Int) by (first | omega | (simp only [lenS]; omega)), ?_⟩ | refine ⟨_, rfl, _, rfl, ?_⟩ | refine ⟨_, by assumption, Nat.le_of_ble_eq_true rfl, ?_⟩ | refine ⟨_, by assumption, _, rfl, ?_⟩ | refine ⟨_, rfl, ?_⟩ | fail)
  exact ⟨_, _, FinMove.refl _ _ _, congrArg (fun x => AV.ref 4 x 0) (by omega), rfl⟩
end Go.Proofs.Ytcmkiancbgmmhaa

namespace Go.Proofs.Ytcmkiancbgmmhaa
open Go.Aw
set_option maxHeartbeats 1600000
set_option linter.unusedSimpArgs false
set_option linter.unusedVariables false
/-- How many nodes and open elements there are. -/
def totO : List Op → Nat
  | [] => 0
  | o :: r => o.2.2.length + 1 + totO r
theorem totO_len : ∀ ops : List Op, ops.length ≤ totO ops
  | [] => Nat.le_refl _
  | o :: r => by have := totO_len r; rw [totO, List.length_cons]; omega
abbrev nodA (n : Node) : AV := .agg [.d (.str n.name), .d (.sl (attrsD n.attrs)), .d (.str n.text), .d (.sl (nodesD n.kids))]
theorem nodeD_len (n : Node) : (nodeD n).length = 4 := by rw [nodeD_eq]; rfl
theorem nodesA_len (k : List Node) : ((nodesD k).map fun r => r.map AV.d).length = k.length := by rw [List.length_map, nodesD_len]
theorem nodesRows (k : List Node) : ∀ row ∈ (nodesD k).map (fun r => r.map AV.d), row.length = 4 ∧ ∀ a ∈ row, a.one = true := dataRows fun r hr => by
  rw [nodesD_map] at hr
  obtain ⟨n, _, rfl⟩ := List.mem_map.1 hr
  exact nodeD_len n
theorem nodes_snoc (k : List Node) (n : Node) : (nodesD (k ++ [n])).map (fun r => r.map AV.d) = ((nodesD k).map fun r => r.map AV.d) ++ [(nodeD n).map .d] := by
  rw [nodesD_map, nodesD_map]; simp
theorem openR_get (i : Nat) (vs : List OV) (o : Op) (r : List Op) (hv : vs.length = r.length) : (openR i vs o r)[r.length]? = some (rowO o (.own i 0 o.2.2.length)) := by
  unfold openR
  rw [List.getElem?_append_right (by rw [rowsO_len hv]; exact Nat.le_refl _), rowsO_len hv, Nat.sub_self]; rfl
theorem openR_set (i j len : Nat) (vs : List OV) (o o' : Op) (r : List Op) (hv : vs.length = r.length) (h1 : o'.1 = o.1) (h2 : o'.2.1 = o.2.1) (h3 : o'.2.2.length = len) :
    (openR i vs o r).set r.length [.d (.str o.1), .d (.sl (attrsD o.2.1)), .d (.str []), .own j 0 len, .d (.str o.1)] = openR j vs o' r := by
  unfold openR
  rw [List.set_append_right _ _ (by rw [rowsO_len hv]; exact Nat.le_refl _), rowsO_len hv, Nat.sub_self]
  rw [rowO, rowO, h1, h2, h3]; rfl
theorem openR_len (i : Nat) (vs : List OV) (o : Op) (r : List Op) (hv : vs.length = r.length) : (openR i vs o r).length = r.length + 1 := by
  unfold openR; rw [List.length_append, rowsO_len hv]; rfl
def nodR (n : Node) : Ob := .rows (4, 29) [[.d (.str n.name), .d (.sl (attrsD n.attrs)), .d (.str n.text), .d (.sl (nodesD n.kids))]]
/-- A node more. -/
theorem kids_app (i : Nat) (k : List Node) (n : Node) (σ : Store) (K : AV → Store → Prop) (h1 : σ.get i = kidsO k) (hl : k.length ≤ 1000000) (hK : K (.own σ.n 0 (k ++ [n]).length) ⟨σ.n + 1, (σ.n, kidsO (k ++ [n])) :: (i, .dead) :: σ.objs⟩) :
    aappend Try.tab σ [22, 22] (.own i 0 k.length) (.d (.sl [nodeD n])) K := by
  have hml := nodesA_len k
  have e1 := nodes_snoc k n
  have e2 : ((nodesD k).map fun r => r.map AV.d).length + 1 = (k ++ [n]).length := by rw [hml]; simp
  refine ⟨(nodesD k).map (fun r : List D => List.map AV.d r), [(nodeD n).map AV.d], ?_, rfl, (show srcLen (.own i 0 k.length) _ from hml), trivial, (by rw [hml]; show (k.length + 1) * 80 ≤ 140737488355328; omega), Nat.le_of_ble_eq_true rfl, Nat.le_of_ble_eq_true rfl, rfl, rfl, nodesRows k, (by have := nodesRows [n]; rwa [nodesD_map] at this), ?_⟩
  · show (match σ.get i with | .rows _ rs => some ((rs.drop 0).take k.length) | _ => none) = _
    rw [h1]
    exact congrArg some (takeAll hml)
  · show chk (isRowsE 4 29 (σ.get i)) _
    rw [h1]
    show K (.own σ.n 0 (((nodesD k).map fun r => r.map AV.d).length + 1)) ⟨σ.n + 1, (σ.n, .rows (4, 29) (((nodesD k).map fun r => r.map AV.d) ++ [(nodeD n).map AV.d])) :: (i, .dead) :: σ.objs⟩
    rw [← e1, e2]
    exact hK
theorem kids_set (k : List Node) (z n : Node) : ((nodesD (k ++ [z])).map fun r => r.map AV.d).set k.length [.d (.str n.name), .d (.sl (attrsD n.attrs)), .d (.str n.text), .d (.sl (nodesD n.kids))] = (nodesD (k ++ [n])).map fun r => r.map AV.d := by
  rw [nodes_snoc, nodes_snoc, List.set_append_right _ _ (by rw [nodesA_len]; exact Nat.le_refl _), nodesA_len, Nat.sub_self, nodeD_eq n]; rfl
theorem kids_last (k : List Node) (z : Node) : ((nodesD (k ++ [z])).map fun r => r.map AV.d)[k.length]? = some [.d (.str z.name), .d (.sl (attrsD z.attrs)), .d (.str z.text), .d (.sl (nodesD z.kids))] := by
  rw [nodes_snoc, List.getElem?_append_right (by rw [nodesA_len]; exact Nat.le_refl _), nodesA_len, Nat.sub_self, nodeD_eq z]; rfl
theorem fin_st {σ0 σ σ' : Store} {r : AV} (h : σ = σ') : FinMove σ0 r σ r σ' := h ▸ FinMove.refl _ _ _
theorem get_swap {n a b : Nat} {x y : Ob} {l : List (Nat × Ob)} (h : a ≠ b) (i : Nat) : (Store.mk n ((a, x) :: (b, y) :: l)).get i = (Store.mk n ((b, y) :: (a, x) :: l)).get i := by
  simp only [Store.get, look_cons]
  by_cases h1 : a = i
  · subst h1; rw [if_pos rfl, if_neg (Ne.symm h), if_pos rfl]
  · rw [if_neg h1, if_neg h1]
/-- The struct of an element, its kids an object. -/
def nodO5 (o : Op) : Ob := .rows (4, 29) [[.d (.str o.1), .d (.sl (attrsD o.2.1)), .d (.str []), .own 5 0 o.2.2.length]]
abbrev pS0 (n : Node) (vs : List OV) (o : Op) (r : List Op) (c : Nat) (f : Bool) : Store := ⟨8, (7, nodR n) :: (B3 vs o r c f).objs⟩
abbrev pS1 (n : Node) (vs : List OV) (o : Op) (r : List Op) (c : Nat) (f : Bool) : Store := ⟨9, (8, kidsO (o.2.2 ++ [.mk [] [] [] []])) :: (5, .dead) :: (pS0 n vs o r c f).objs⟩
abbrev pS2 (n : Node) (vs : List OV) (o : Op) (r : List Op) (c : Nat) (f : Bool) : Store := ⟨9, (8, kidsO (o.2.2 ++ [n])) :: (pS1 n vs o r c f).objs⟩
abbrev pS4 (n : Node) (vs : List OV) (o : Op) (r : List Op) (c : Nat) (f : Bool) : Store := ⟨9, (4, openO 8 vs (o.1, o.2.1, o.2.2 ++ [n]) r) :: (pS1 n vs o r c f).objs⟩
abbrev pS6 (n : Node) (vs : List OV) (o : Op) (r : List Op) (c : Nat) (f : Bool) : Store := ⟨9, (4, openO 8 vs (o.1, o.2.1, o.2.2 ++ [n]) r) :: (pS2 n vs o r c f).objs⟩
set_option maxRecDepth 100000 in
theorem put_ok (n : Node) (s : Bs) (hs : totO s.ops ≤ 1000000) : Meth Try.prog 58 [.ref 0 0 0, nodA n] (.tup []) s ⟨putO n s.ops, s.cnt, s.full⟩ := by
  intro o r vs ho hv
  rw [ho] at hs ⊢
  have hlen := totO_len (o :: r)
  rw [List.length_cons] at hlen
  have hk : o.2.2.length ≤ 1000000 := by rw [totO] at hs; omega
  generalize s.cnt = c
  generalize s.full = f
  have hd1 := last_8 (.rows (4, 29) [[.d (.str n.name), .d (.sl (attrsD n.attrs)), .d (.str n.text), .d (.sl (nodesD n.kids))]]) (kinO vs r) (kidsO o.2.2) (openR 5 vs o r) (r.length + 1) c f (by omega) (by omega)
  rw [Nat.add_sub_cancel] at hd1
  have hrow := openR_get 5 vs o r hv
  have hkl := kids_last o.2.2 (.mk [] [] [] [])
  have hks := kids_set o.2.2 (.mk [] [] [] []) n
  have hrs := openR_set 5 8 (o.2.2 ++ [n]).length vs o (o.1, o.2.1, o.2.2 ++ [n]) r hv rfl rfl rfl
  refine fn_okTE Try.wf Try.tab_ok Try.func58 (by decide +kernel) rfl rfl ?_
  refine E.fm (s' := [(0, .ref 0 0 0), (1, nodA n)]) (σ' := B3 vs o r c f) (B_up vs o r _ _ ⟨⟨rfl, rfl, rfl⟩, ⟨rfl, rfl, rfl, rfl, trivial⟩, trivial⟩) ?_
  refine E.of Try.wf Try.tab_ok ?_
  repeat' (first |            refine CallsAbs.use1 hd1 ?_ |            refine ⟨fun _ => ?_, fun h => absurd h (by decide)⟩ | refine ⟨fun h => absurd h (by decide), fun _ => ?_⟩ | (refine ⟨fun h => ?_, fun h => ?_⟩ <;> (try simp only [decide_eq_true_eq, decide_eq_false_iff_not, Bool.not_eq_true', Bool.not_eq_false', Bool.not_eq_true, Bool.not_eq_false, not_true_eq_false, beq_iff_eq, beq_eq_false_iff_ne, ne_eq, decide_eq_decide, true_iff, false_iff, iff_true, iff_false, true_and, and_true, false_or, or_false, Bool.and_true, Bool.and_eq_true, Bool.and_eq_false_iff, Bool.or_eq_true, Bool.or_eq_false_iff, List.length_cons, List.length_nil] at h) <;> (try (exfalso; first | omega | exact h rfl | (cases h; done) | exact absurd h (by assumption) | exact h (by assumption) | (simp at h; done)))) | refine ⟨⟨by (first | omega | (simp only [lenS]; omega)), by (first | omega | (simp only [lenS]; omega))⟩, _, by assumption, by rfl, ?_⟩ | refine .inl ⟨⟨by (first | omega | (simp only [lenS]; omega)), by (first | omega | (simp only [lenS]; omega))⟩, ?_⟩ | refine ⟨⟨by (first | omega | (simp only [lenS]; omega)), by (first | omega | (simp only [lenS]; omega))⟩, ?_⟩ | refine ⟨⟨by (first | omega | (simp only [lenS]; omega)), by (first | omega | (simp only [lenS]; omega)), by (first | omega | (simp only [lenS]; omega))⟩, ?_⟩ | refine ⟨.inl rfl, ?_⟩ | refine ⟨.inr (.inl (by (first | omega | (simp only [lenS]; omega)))), ?_⟩ | refine ⟨_, rfl, rfl, by (first | exact Nat.le_refl _ | exact Nat.le_of_ble_eq_true rfl | decide), ?_⟩ | refine ⟨_, rfl, by (first | exact Nat.le_refl _ | exact Nat.le_of_ble_eq_true rfl | decide), ?_⟩ | refine ⟨by (first | exact Nat.le_refl _ | exact Nat.le_of_ble_eq_true rfl | decide | exact rfl), ?_⟩ | refine ⟨show _ ≤ (9223372036854775807 : Nat) by (first | omega | (simp only [lenS]; omega)), ?_⟩ | refine ⟨show _ ≠ (0 : Int) by (first | omega | (simp only [lenS]; omega)), ?_⟩ | refine ⟨_, rfl, _, rfl, ?_⟩ | refine ⟨_, by assumption, Nat.le_of_ble_eq_true rfl, ?_⟩ | refine ⟨_, by assumption, _, rfl, ?_⟩ | refine ⟨_, rfl, ?_⟩ | fail)
  refine drawnM Try.wf Try.tab_ok [8, 10, 14] (fun t => match t with
    | [true, false, false] => pS1 n vs o r c f
    | [true, true, false] => pS2 n vs o r c f
    | [true, false, true] => pS4 n vs o r c f
    | [true, true, true] => pS6 n vs o r c f
    | _ => pS0 n vs o r c f) rfl Try.mixed (by decide +kernel) ?_
  iterate 4 refine mblind (by decide +kernel) rfl rfl (fun _ => FinMove.refl _ _ _) ?_
  refine mreadL [[false, false, false]] (by decide +kernel) rfl rfl ⟨⟨_, hrow, _, rfl, FinMove.refl _ _ _⟩, trivial⟩ ?_
  refine mreadL (r := nodA n) [[false, false, false]] (by decide +kernel) rfl rfl ⟨⟨_, rfl, Nat.le_of_ble_eq_true rfl, FinMove.refl _ _ _⟩, trivial⟩ ?_
  refine mblind (by decide +kernel) rfl rfl (fun _ => FinMove.refl _ _ _) ?_
  refine mreadL (r := .d (.sl [nodeD (.mk [] [] [] [])])) [[false, false, false]] (by decide +kernel) rfl rfl ⟨fin_lit rfl rfl rfl ⟨⟨rfl, .inl ⟨rfl, fun row h => by rw [List.mem_singleton.1 h]; rfl⟩⟩, ⟨rfl, rfl⟩, ⟨rfl, .inl ⟨rfl, dataA_pure _⟩⟩, ⟨rfl, .inr (openR_rel rfl _ _ _)⟩, ⟨rfl, .inr ⟨⟨⟨rfl, rfl, rfl⟩, rfl, rfl, trivial⟩, trivial⟩⟩, trivial⟩, trivial⟩ ?_
  refine meff (r := .own 8 0 (o.2.2 ++ [n]).length) 0 [[false, false, false]] (by decide +kernel) rfl rfl rfl rfl ⟨?_, trivial⟩ ?_
  · refine kids_app 5 o.2.2 (.mk [] [] [] []) (pS0 n vs o r c f) (fun v σ' => FinMove (pS0 n vs o r c f) v σ' (.own 8 0 (o.2.2 ++ [n]).length) (pS1 n vs o r c f)) rfl hk ?_
    rw [show (o.2.2 ++ [Node.mk [] [] [] []]).length = (o.2.2 ++ [n]).length by simp]
    exact FinMove.refl _ _ _
  refine mreadL (r := .ref 8 o.2.2.length 0) [[true, false, false], [true, false, true]] (by decide +kernel) rfl rfl ⟨⟨⟨by omega, by simp only [List.length_append, List.length_cons, List.length_nil]; omega⟩, fin_eq (congrArg (fun x => AV.ref 8 x 0) (by omega))⟩, ⟨⟨by omega, by simp only [List.length_append, List.length_cons, List.length_nil]; omega⟩, fin_eq (congrArg (fun x => AV.ref 8 x 0) (by omega))⟩, trivial⟩ ?_
  refine meff (r := .top) 1 [[true, false, false], [true, false, true]] (by decide +kernel) rfl rfl rfl rfl ⟨⟨_, hkl, rfl, Nat.le_of_ble_eq_true rfl, ?_⟩, ⟨_, hkl, rfl, Nat.le_of_ble_eq_true rfl, ?_⟩, trivial⟩ ?_
  · exact fin_st (congrArg (fun x => Store.mk 9 ((8, Ob.rows (4, 29) x) :: (pS1 n vs o r c f).objs)) hks)
  · refine (fin_st (congrArg (fun x => Store.mk 9 ((8, Ob.rows (4, 29) x) :: (pS4 n vs o r c f).objs)) hks)).trans (fin_same rfl (get_swap (by decide)))
  iterate 3 refine mblind (by decide +kernel) rfl rfl (fun _ => FinMove.refl _ _ _) ?_
  refine meff (r := .top) 2 [[true, false, false], [true, true, false]] (by decide +kernel) rfl rfl rfl rfl ⟨⟨_, hrow, rfl, Nat.le_of_ble_eq_true rfl, ?_⟩, ⟨_, hrow, rfl, Nat.le_of_ble_eq_true rfl, ?_⟩, trivial⟩ ?_
  · exact fin_st (congrArg (fun x => Store.mk 9 ((4, Ob.rows (5, 67) x) :: (pS1 n vs o r c f).objs)) hrs)
  · exact fin_st (congrArg (fun x => Store.mk 9 ((4, Ob.rows (5, 67) x) :: (pS2 n vs o r c f).objs)) hrs)
  exact ⟨.tup [], B3 vs (o.1, o.2.1, o.2.2 ++ [n]) r c f, fin_mv [.old 4, .old 8, .old 6] rfl rfl rfl ⟨⟨rfl, rfl⟩, ⟨rfl, .inl ⟨rfl, dataA_pure _⟩⟩, ⟨rfl, .inr (openR_rel rfl _ _ _)⟩, ⟨rfl, .inr ⟨⟨⟨rfl, rfl, rfl⟩, rfl, rfl, trivial⟩, trivial⟩⟩, trivial⟩ trivial, rfl, _, r, vs, rfl, hv, rfl⟩
end Go.Proofs.Ytcmkiancbgmmhaa

namespace Go.Proofs.Ytcmkiancbgmmhaa
open Go.Aw
set_option maxHeartbeats 1600000
set_option linter.unusedSimpArgs false
set_option linter.unusedVariables false
theorem openR_cut (i : Nat) (vs : List OV) (o : Op) (r : List Op) (hv : vs.length = r.length) : rowsO r vs = (openR i vs o r).take r.length := by
  unfold openR
  rw [List.take_append_of_le_length (by rw [rowsO_len hv]; exact Nat.le_refl _), List.take_of_length_le (by rw [rowsO_len hv]; exact Nat.le_refl _)]
theorem krows_open (i : Nat) (v : OV) (vs : List OV) (p : Op) (r : List Op)   : krows v.1 (.own i 0 (nodesD p.2.2).length) (openR i vs p r) (rowsO (p :: r) (v :: vs)) := by
  rw [nodesD_len]
  unfold openR
  rw [rowsO]
  exact krows_app _ ⟨⟨.inl rfl, .inl rfl, .inl rfl, .inr ⟨rfl, rfl⟩, .inl rfl, trivial⟩, trivial⟩
set_option maxRecDepth 100000 in
theorem shut_ok (s : Bs) (hs : totO s.ops ≤ 1000000) (h2 : 2 ≤ s.ops.length) : Meth Try.prog 41 [.ref 0 0 0] (.tup []) s ⟨shutO s.ops, s.cnt, s.full⟩ := by
  intro o r vs ho hv
  rw [ho] at hs h2 ⊢
  obtain ⟨p, r, rfl⟩ : ∃ p q, r = p :: q := by cases r with
    | nil => simp at h2
    | cons p q => exact ⟨p, q, rfl⟩
  obtain ⟨v, vs, rfl⟩ : ∃ v q, vs = v :: q := by cases vs with
    | nil => simp at hv
    | cons p q => exact ⟨p, q, rfl⟩
  have hlen := totO_len (o :: p :: r)
  simp only [List.length_cons] at hlen
  have hv' : vs.length = r.length := by simpa using hv
  have hsp : totO (p :: r) ≤ 1000000 := by rw [totO] at hs; omega
  generalize s.cnt = c
  generalize s.full = f
  have hm := put_ok (.mk o.1 o.2.1 [] o.2.2) ⟨p :: r, c, f⟩ hsp
  have hd1 := last_7 (kinO (v :: vs) (p :: r)) (kidsO o.2.2) (openR 5 (v :: vs) o (p :: r)) ((p :: r).length + 1) c f (by omega) (by simp only [List.length_cons]; omega)
  rw [Nat.add_sub_cancel] at hd1
  have hrow := openR_get 5 (v :: vs) o (p :: r) hv
  refine fn_okTE Try.wf Try.tab_ok Try.func41 (by decide +kernel) rfl rfl ?_
  refine E.fm (s' := [(0, .ref 0 0 0)]) (σ' := B3 (v :: vs) o (p :: r) c f) (B_up (v :: vs) o (p :: r) _ _ ⟨⟨rfl, rfl, rfl⟩, trivial⟩) ?_
  refine E.seq (E.of Try.wf Try.tab_ok ?_)
  repeat' (first |            refine CallsAbs.use1 hd1 ?_ |            refine ⟨fun _ => ?_, fun h => absurd h (by decide)⟩ | refine ⟨fun h => absurd h (by decide), fun _ => ?_⟩ | (refine ⟨fun h => ?_, fun h => ?_⟩ <;> (try simp only [decide_eq_true_eq, decide_eq_false_iff_not, Bool.not_eq_true', Bool.not_eq_false', Bool.not_eq_true, Bool.not_eq_false, not_true_eq_false, beq_iff_eq, beq_eq_false_iff_ne, ne_eq, decide_eq_decide, true_iff, false_iff, iff_true, iff_false, true_and, and_true, false_or, or_false, Bool.and_true, Bool.and_eq_true, Bool.and_eq_false_iff, Bool.or_eq_true, Bool.or_eq_false_iff, List.length_cons, List.length_nil] at h) <;> (try (exfalso; first | omega | exact h rfl | (cases h; done) | exact absurd h (by assumption) | exact h (by assumption) | (simp at h; done)))) | refine ⟨⟨by (first | omega | (simp only [lenS]; omega)), by (first | omega | (simp only [lenS]; omega))⟩, _, by assumption, by rfl, ?_⟩ | refine .inl ⟨⟨by (first | omega | (simp only [lenS]; omega)), by (first | omega | (simp only [lenS]; omega))⟩, ?_⟩ | refine ⟨⟨by (first | omega | (simp only [lenS]; omega)), by (first | omega | (simp only [lenS]; omega))⟩, ?_⟩ | refine ⟨⟨by (first | omega | (simp only [lenS]; omega)), by (first | omega | (simp only [lenS]; omega)), by (first | omega | (simp only [lenS]; omega))⟩, ?_⟩ | refine ⟨.inl rfl, ?_⟩ | refine ⟨.inr (.inl (by (first | omega | (simp only [lenS]; omega)))), ?_⟩ | refine ⟨_, rfl, rfl, by (first | exact Nat.le_refl _ | exact Nat.le_of_ble_eq_true rfl | decide), ?_⟩ | refine ⟨_, rfl, by (first | exact Nat.le_refl _ | exact Nat.le_of_ble_eq_true rfl | decide), ?_⟩ | refine ⟨by (first | exact Nat.le_refl _ | exact Nat.le_of_ble_eq_true rfl | decide | exact rfl), ?_⟩ | refine ⟨show _ ≤ (9223372036854775807 : Nat) by (first | omega | (simp only [lenS]; omega)), ?_⟩ | refine ⟨show _ ≠ (0 : Int) by (first | omega | (simp only [lenS]; omega)), ?_⟩ | refine ⟨_, rfl, _, rfl, ?_⟩ | refine ⟨_, by assumption, Nat.le_of_ble_eq_true rfl, ?_⟩ | refine ⟨_, by assumption, _, rfl, ?_⟩ | refine ⟨_, rfl, ?_⟩ | fail)
  refine E.seq (drawnZ Try.wf Try.tab_ok [14] (fun t => match t with
    | 0 => ⟨8, (7, nodO5 o) :: (7, .rows (4, 29) [[.d (.str []), .nil, .d (.str []), .nil]]) :: (B3 (v :: vs) o (p :: r) c f).objs⟩
    | _ => ⟨8, (0, boxB 4 (p :: r).length c f) :: (7, nodO5 o) :: (7, .rows (4, 29) [[.d (.str []), .nil, .d (.str []), .nil]]) :: (B3 (v :: vs) o (p :: r) c f).objs⟩) rfl Try.mixed (by decide +kernel) ?_)
  repeat' (first |   refine zskip (by decide +kernel) rfl rfl ?_ | refine zblind (by decide +kernel) rfl rfl (fun _ => FinMove.refl _ _ _) ?_ | refine zreadL [0] (by decide +kernel) rfl rfl ⟨⟨_, rfl, _, rfl, FinMove.refl _ _ _⟩, trivial⟩ ?_ |         refine zblind (by decide +kernel) rfl rfl (fun _ => ⟨⟨by (first | omega | (simp only [lenS]; omega)), by (first | omega | (simp only [lenS]; omega)), by (first | omega | (simp only [lenS]; omega))⟩, FinMove.refl _ _ _⟩) ?_ | refine zblind (by decide +kernel) rfl rfl (fun _ => .inl ⟨⟨by (first | omega | (simp only [lenS]; omega)), by (first | omega | (simp only [lenS]; omega))⟩, FinMove.refl _ _ _⟩) ?_ | refine zblind (by decide +kernel) rfl rfl (fun _ => ⟨_, rfl, FinMove.refl _ _ _⟩) ?_ | fail)
  refine zblind (r := .own 4 0 (p :: r).length) (by decide +kernel) rfl rfl (fun _ => ⟨⟨by (first | omega | (simp only [lenS]; omega)), by (first | omega | (simp only [lenS]; omega)), by (first | omega | (simp only [lenS]; omega))⟩, .inl ⟨rfl, fin_eq (congrArg (fun x => AV.own 4 0 x) (by (first | omega | (simp only [lenS]; omega))))⟩⟩) ?_
  repeat' (first |   refine zskip (by decide +kernel) rfl rfl ?_ | refine zblind (by decide +kernel) rfl rfl (fun _ => FinMove.refl _ _ _) ?_ | refine zreadL [0] (by decide +kernel) rfl rfl ⟨⟨_, rfl, _, rfl, FinMove.refl _ _ _⟩, trivial⟩ ?_ |         refine zblind (by decide +kernel) rfl rfl (fun _ => ⟨⟨by (first | omega | (simp only [lenS]; omega)), by (first | omega | (simp only [lenS]; omega)), by (first | omega | (simp only [lenS]; omega))⟩, FinMove.refl _ _ _⟩) ?_ | refine zblind (by decide +kernel) rfl rfl (fun _ => .inl ⟨⟨by (first | omega | (simp only [lenS]; omega)), by (first | omega | (simp only [lenS]; omega))⟩, FinMove.refl _ _ _⟩) ?_ | refine zblind (by decide +kernel) rfl rfl (fun _ => ⟨_, rfl, FinMove.refl _ _ _⟩) ?_ | fail)
  refine zeff (r := .top) rfl rfl rfl ⟨_, rfl, rfl, Nat.le_of_ble_eq_true rfl, FinMove.refl _ _ _⟩ ?_
  refine E.fm (s' := [(0, .ref 0 0 0), (2, .ref 7 0 0)]) (fin_cut (j := 4) (rs := openR 5 (v :: vs) o (p :: r)) (rs' := rowsO (p :: r) (v :: vs)) rfl (p :: r).length (openR_cut 5 (v :: vs) o (p :: r) hv)) ?_
  refine E.kinOut (s' := [(0, .ref 0 0 0), (2, .ref 7 0 0)]) (i := 6) (j := 4) (v := v.1) (rows := nodesD p.2.2) (l := kinL r vs) (rs := rowsO (p :: r) (v :: vs)) (rs' := openR 8 vs p r) rfl rfl (krows_open 8 v vs p r) ⟨.inl rfl, .inl rfl, trivial⟩ (.inr trivial) ?_
  refine E.of Try.wf Try.tab_ok ?_
  repeat' (first |            refine CallsAbs.use1 hd1 ?_ |            refine ⟨fun _ => ?_, fun h => absurd h (by decide)⟩ | refine ⟨fun h => absurd h (by decide), fun _ => ?_⟩ | (refine ⟨fun h => ?_, fun h => ?_⟩ <;> (try simp only [decide_eq_true_eq, decide_eq_false_iff_not, Bool.not_eq_true', Bool.not_eq_false', Bool.not_eq_true, Bool.not_eq_false, not_true_eq_false, beq_iff_eq, beq_eq_false_iff_ne, ne_eq, decide_eq_decide, true_iff, false_iff, iff_true, iff_false, true_and, and_true, false_or, or_false, Bool.and_true, Bool.and_eq_true, Bool.and_eq_false_iff, Bool.or_eq_true, Bool.or_eq_false_iff, List.length_cons, List.length_nil] at h) <;> (try (exfalso; first | omega | exact h rfl | (cases h; done) | exact absurd h (by assumption) | exact h (by assumption) | (simp at h; done)))) | refine ⟨⟨by (first | omega | (simp only [lenS]; omega)), by (first | omega | (simp only [lenS]; omega))⟩, _, by assumption, by rfl, ?_⟩ | refine .inl ⟨⟨by (first | omega | (simp only [lenS]; omega)), by (first | omega | (simp only [lenS]; omega))⟩, ?_⟩ | refine ⟨⟨by (first | omega | (simp only [lenS]; omega)), by (first | omega | (simp only [lenS]; omega))⟩, ?_⟩ | refine ⟨⟨by (first | omega | (simp only [lenS]; omega)), by (first | omega | (simp only [lenS]; omega)), by (first | omega | (simp only [lenS]; omega))⟩, ?_⟩ | refine ⟨.inl rfl, ?_⟩ | refine ⟨.inr (.inl (by (first | omega | (simp only [lenS]; omega)))), ?_⟩ | refine ⟨_, rfl, rfl, by (first | exact Nat.le_refl _ | exact Nat.le_of_ble_eq_true rfl | decide), ?_⟩ | refine ⟨_, rfl, by (first | exact Nat.le_refl _ | exact Nat.le_of_ble_eq_true rfl | decide), ?_⟩ | refine ⟨by (first | exact Nat.le_refl _ | exact Nat.le_of_ble_eq_true rfl | decide | exact rfl), ?_⟩ | refine ⟨show _ ≤ (9223372036854775807 : Nat) by (first | omega | (simp only [lenS]; omega)), ?_⟩ | refine ⟨show _ ≠ (0 : Int) by (first | omega | (simp only [lenS]; omega)), ?_⟩ | refine ⟨_, rfl, _, rfl, ?_⟩ | refine ⟨_, by assumption, Nat.le_of_ble_eq_true rfl, ?_⟩ | refine ⟨_, by assumption, _, rfl, ?_⟩ | refine ⟨_, rfl, ?_⟩ | fail)
  refine CallsAbs.freezeTo (args' := [.ref 0 0 0, nodA (.mk o.1 o.2.1 [] o.2.2)]) (ds := nodesD o.2.2) 5 rfl (rowsD_d _) ⟨trivial, ⟨trivial, trivial, trivial, (fun _ => by rw [nodesA_len]; exact Nat.le_of_eq (Nat.zero_add _)), trivial⟩, trivial⟩ ?_ ?_
  · show [AV.ref 0 0 0, .agg [.d (.str o.1), .d (.sl (attrsD o.2.1)), .d (.str []), frz 5 (nodesD o.2.2) (.own 5 0 o.2.2.length)]] = _
    rw [frz_whole 5 _ _ (nodesD_len _).symm]; rfl
  refine hm.use (o := p) (r := r) (vs := vs) 4 8 6 9 10 11 12 rfl hv' rfl rfl rfl rfl rfl rfl rfl rfl rfl rfl ⟨⟨rfl, rfl, rfl⟩, ⟨rfl, rfl, rfl, rfl, trivial⟩, trivial⟩ fun o' r' vs' q1 q2 => ?_
  repeat' (first |            refine CallsAbs.use1 hd1 ?_ |            refine ⟨fun _ => ?_, fun h => absurd h (by decide)⟩ | refine ⟨fun h => absurd h (by decide), fun _ => ?_⟩ | (refine ⟨fun h => ?_, fun h => ?_⟩ <;> (try simp only [decide_eq_true_eq, decide_eq_false_iff_not, Bool.not_eq_true', Bool.not_eq_false', Bool.not_eq_true, Bool.not_eq_false, not_true_eq_false, beq_iff_eq, beq_eq_false_iff_ne, ne_eq, decide_eq_decide, true_iff, false_iff, iff_true, iff_false, true_and, and_true, false_or, or_false, Bool.and_true, Bool.and_eq_true, Bool.and_eq_false_iff, Bool.or_eq_true, Bool.or_eq_false_iff, List.length_cons, List.length_nil] at h) <;> (try (exfalso; first | omega | exact h rfl | (cases h; done) | exact absurd h (by assumption) | exact h (by assumption) | (simp at h; done)))) | refine ⟨⟨by (first | omega | (simp only [lenS]; omega)), by (first | omega | (simp only [lenS]; omega))⟩, _, by assumption, by rfl, ?_⟩ | refine .inl ⟨⟨by (first | omega | (simp only [lenS]; omega)), by (first | omega | (simp only [lenS]; omega))⟩, ?_⟩ | refine ⟨⟨by (first | omega | (simp only [lenS]; omega)), by (first | omega | (simp only [lenS]; omega))⟩, ?_⟩ | refine ⟨⟨by (first | omega | (simp only [lenS]; omega)), by (first | omega | (simp only [lenS]; omega)), by (first | omega | (simp only [lenS]; omega))⟩, ?_⟩ | refine ⟨.inl rfl, ?_⟩ | refine ⟨.inr (.inl (by (first | omega | (simp only [lenS]; omega)))), ?_⟩ | refine ⟨_, rfl, rfl, by (first | exact Nat.le_refl _ | exact Nat.le_of_ble_eq_true rfl | decide), ?_⟩ | refine ⟨_, rfl, by (first | exact Nat.le_refl _ | exact Nat.le_of_ble_eq_true rfl | decide), ?_⟩ | refine ⟨by (first | exact Nat.le_refl _ | exact Nat.le_of_ble_eq_true rfl | decide | exact rfl), ?_⟩ | refine ⟨show _ ≤ (9223372036854775807 : Nat) by (first | omega | (simp only [lenS]; omega)), ?_⟩ | refine ⟨show _ ≠ (0 : Int) by (first | omega | (simp only [lenS]; omega)), ?_⟩ | refine ⟨_, rfl, _, rfl, ?_⟩ | refine ⟨_, by assumption, Nat.le_of_ble_eq_true rfl, ?_⟩ | refine ⟨_, by assumption, _, rfl, ?_⟩ | refine ⟨_, rfl, ?_⟩ | fail)
  exact ⟨.tup [], B3 vs' o' r' c f, fin_mv [.old 9, .old 10, .old 11] rfl rfl rfl ⟨⟨rfl, rfl⟩, ⟨rfl, .inl ⟨rfl, dataA_pure _⟩⟩, ⟨rfl, .inr (openR_rel rfl _ _ _)⟩, ⟨rfl, .inr ⟨⟨⟨rfl, rfl, rfl⟩, rfl, rfl, trivial⟩, trivial⟩⟩, trivial⟩ trivial, rfl, _, _, vs', q1, q2, rfl⟩
end Go.Proofs.Ytcmkiancbgmmhaa

namespace Go.Proofs.Ytcmkiancbgmmhaa
open Go.Aw
set_option maxHeartbeats 1600000
set_option linter.unusedSimpArgs false
set_option linter.unusedVariables false
theorem over_eq (n c : Nat) : (false || (decide (65 < n + 1) || decide (2000 < c + 1))) = !(decide (((n + 1 : Nat) : Int) - 1 = if 64 < ((n + 1 : Nat) : Int) - 1 then 64 else ((n + 1 : Nat) : Int) - 1) && (decide (((c + 1 : Nat) : Int) = if 2000 < ((c + 1 : Nat) : Int) then 2000 else ((c + 1 : Nat) : Int)) && true)) := by
  by_cases h1 : 64 < n <;> by_cases h2 : 2000 < c + 1
  all_goals
    simp only [show (64 < ((n + 1 : Nat) : Int) - 1) ↔ (64 < n) by omega, show ((2000 : Int) < ((c + 1 : Nat) : Int)) ↔ (2000 < c + 1) by omega, h1, h2, if_true, if_false, show (65 < n + 1) ↔ (64 < n) by omega, decide_true, decide_false]
    first | rfl | (rw [decide_eq_false (by omega)]; rfl) | (rw [decide_eq_false (p := ((n + 1 : Nat) : Int) - 1 = 64) (by omega)]; rfl) | (simp; omega)
set_option maxRecDepth 100000 in
theorem count_ok (s : Bs) (hs : s.ops.length ≤ 1000000) (hc : s.cnt ≤ 1000000) : Meth Try.prog 59 [.ref 0 0 0] (.tup []) s (countS s) := by
  intro o r vs ho hv
  unfold countS
  rw [ho] at hs ⊢
  dsimp only
  generalize s.cnt = c at *
  generalize s.full = f
  have hlen : (o :: r).length = r.length + 1 := rfl
  rw [hlen] at hs ⊢
  refine fn_okTE Try.wf Try.tab_ok Try.func59 (by decide +kernel) rfl rfl ?_
  refine E.fm (s' := [(0, .ref 0 0 0)]) (σ' := B3 vs o r c f) (B_up vs o r _ _ ⟨⟨rfl, rfl, rfl⟩, trivial⟩) ?_
  refine E.seq (E.of Try.wf Try.tab_ok ?_)
  repeat' (first |                        refine ⟨fun _ => ?_, fun h => absurd h (by decide)⟩ | refine ⟨fun h => absurd h (by decide), fun _ => ?_⟩ | (refine ⟨fun h => ?_, fun h => ?_⟩ <;> (try simp only [decide_eq_true_eq, decide_eq_false_iff_not, Bool.not_eq_true', Bool.not_eq_false', Bool.not_eq_true, Bool.not_eq_false, not_true_eq_false, beq_iff_eq, beq_eq_false_iff_ne, ne_eq, decide_eq_decide, true_iff, false_iff, iff_true, iff_false, true_and, and_true, false_or, or_false, Bool.and_true, Bool.and_eq_true, Bool.and_eq_false_iff, Bool.or_eq_true, Bool.or_eq_false_iff, List.length_cons, List.length_nil] at h) <;> (try (exfalso; first | omega | exact h rfl | (cases h; done) | exact absurd h (by assumption) | exact h (by assumption) | (simp at h; done)))) | refine ⟨⟨by (first | omega | (simp only [lenS]; omega)), by (first | omega | (simp only [lenS]; omega))⟩, _, by assumption, by rfl, ?_⟩ | refine .inl ⟨⟨by (first | omega | (simp only [lenS]; omega)), by (first | omega | (simp only [lenS]; omega))⟩, ?_⟩ | refine ⟨⟨by (first | omega | (simp only [lenS]; omega)), by (first | omega | (simp only [lenS]; omega))⟩, ?_⟩ | refine ⟨⟨by (first | omega | (simp only [lenS]; omega)), by (first | omega | (simp only [lenS]; omega)), by (first | omega | (simp only [lenS]; omega))⟩, ?_⟩ | refine ⟨.inl rfl, ?_⟩ | refine ⟨.inr (.inl (by (first | omega | (simp only [lenS]; omega)))), ?_⟩ | refine ⟨_, rfl, rfl, by (first | exact Nat.le_refl _ | exact Nat.le_of_ble_eq_true rfl | decide), ?_⟩ | refine ⟨_, rfl, by (first | exact Nat.le_refl _ | exact Nat.le_of_ble_eq_true rfl | decide), ?_⟩ | refine ⟨by (first | exact Nat.le_refl _ | exact Nat.le_of_ble_eq_true rfl | decide | exact rfl), ?_⟩ | refine ⟨show _ ≤ (9223372036854775807 : Nat) by (first | omega | (simp only [lenS]; omega)), ?_⟩ | refine ⟨show _ ≠ (0 : Int) by (first | omega | (simp only [lenS]; omega)), ?_⟩ | refine ⟨_, rfl, _, rfl, ?_⟩ | refine ⟨_, by assumption, Nat.le_of_ble_eq_true rfl, ?_⟩ | refine ⟨_, by assumption, _, rfl, ?_⟩ | refine ⟨_, rfl, ?_⟩ | fail)
  refine E.view (s' := [(0, .ref 0 0 0)]) (σ' := B3 vs o r (c + 1) f) (Mv.of [.old 4, .old 5, .old 6] rfl rfl rfl ⟨⟨rfl, rfl⟩, ⟨rfl, .inl ⟨rfl, dataA_pure _⟩⟩, ⟨rfl, .inr (openR_rel rfl _ _ _)⟩, ⟨rfl, .inr ⟨⟨⟨rfl, rfl, rfl⟩, rfl, rfl, trivial⟩, trivial⟩⟩, trivial⟩ ⟨⟨rfl, rfl, rfl⟩, trivial⟩) ?_
  refine E.seq (drawnZ Try.wf Try.tab_ok [11, 12] (fun t => match t with
    | 0 => B3 vs o r (c + 1) f
    | 1 => ⟨8, (7, .rows (2, 98) [[.d (.int .i64 0), .d (.int .i64 0)]]) :: (B3 vs o r (c + 1) f).objs⟩
    | _ => ⟨8, (7, .rows (2, 98) [[.d (.int .i64 (((r.length + 1 : Nat) : Int) - 1)), .d (.int .i64 ((c + 1 : Nat) : Int))]]) :: (7, .rows (2, 98) [[.d (.int .i64 0), .d (.int .i64 0)]]) :: (B3 vs o r (c + 1) f).objs⟩) rfl Try.mixed (by decide +kernel) ?_)
  repeat' (first |   refine zskip (by decide +kernel) rfl rfl ?_ | refine zblind (by decide +kernel) rfl rfl (fun _ => FinMove.refl _ _ _) ?_ | refine zreadL [0] (by decide +kernel) rfl rfl ⟨⟨_, rfl, _, rfl, FinMove.refl _ _ _⟩, trivial⟩ ?_ |         refine zblind (by decide +kernel) rfl rfl (fun _ => ⟨⟨by (first | omega | (simp only [lenS]; omega)), by (first | omega | (simp only [lenS]; omega)), by (first | omega | (simp only [lenS]; omega))⟩, FinMove.refl _ _ _⟩) ?_ | refine zblind (by decide +kernel) rfl rfl (fun _ => .inl ⟨⟨by (first | omega | (simp only [lenS]; omega)), by (first | omega | (simp only [lenS]; omega))⟩, FinMove.refl _ _ _⟩) ?_ | refine zblind (by decide +kernel) rfl rfl (fun _ => ⟨_, rfl, FinMove.refl _ _ _⟩) ?_ | fail)
  refine zreadL (List.range 3) (by decide +kernel) rfl rfl (by repeat' first | exact trivial | exact ⟨_, rfl, _, rfl, FinMove.refl _ _ _⟩ | refine ⟨?_, ?_⟩) ?_
  repeat' (first |   refine zskip (by decide +kernel) rfl rfl ?_ | refine zblind (by decide +kernel) rfl rfl (fun _ => FinMove.refl _ _ _) ?_ | refine zreadL [0] (by decide +kernel) rfl rfl ⟨⟨_, rfl, _, rfl, FinMove.refl _ _ _⟩, trivial⟩ ?_ |         refine zblind (by decide +kernel) rfl rfl (fun _ => ⟨⟨by (first | omega | (simp only [lenS]; omega)), by (first | omega | (simp only [lenS]; omega)), by (first | omega | (simp only [lenS]; omega))⟩, FinMove.refl _ _ _⟩) ?_ | refine zblind (by decide +kernel) rfl rfl (fun _ => .inl ⟨⟨by (first | omega | (simp only [lenS]; omega)), by (first | omega | (simp only [lenS]; omega))⟩, FinMove.refl _ _ _⟩) ?_ | refine zblind (by decide +kernel) rfl rfl (fun _ => ⟨_, rfl, FinMove.refl _ _ _⟩) ?_ | fail)
  refine zreadL (List.range 3) (by decide +kernel) rfl rfl (by repeat' first | exact trivial | exact ⟨_, rfl, _, rfl, FinMove.refl _ _ _⟩ | refine ⟨?_, ?_⟩) ?_
  repeat' (first |   refine zskip (by decide +kernel) rfl rfl ?_ | refine zblind (by decide +kernel) rfl rfl (fun _ => FinMove.refl _ _ _) ?_ | refine zreadL [0] (by decide +kernel) rfl rfl ⟨⟨_, rfl, _, rfl, FinMove.refl _ _ _⟩, trivial⟩ ?_ |         refine zblind (by decide +kernel) rfl rfl (fun _ => ⟨⟨by (first | omega | (simp only [lenS]; omega)), by (first | omega | (simp only [lenS]; omega)), by (first | omega | (simp only [lenS]; omega))⟩, FinMove.refl _ _ _⟩) ?_ | refine zblind (by decide +kernel) rfl rfl (fun _ => .inl ⟨⟨by (first | omega | (simp only [lenS]; omega)), by (first | omega | (simp only [lenS]; omega))⟩, FinMove.refl _ _ _⟩) ?_ | refine zblind (by decide +kernel) rfl rfl (fun _ => ⟨_, rfl, FinMove.refl _ _ _⟩) ?_ | fail)
  refine zeff (r := .ref 7 0 0) rfl rfl rfl (FinMove.refl _ _ _) ?_
  refine zeff (r := .top) rfl rfl rfl ⟨_, rfl, rfl, Nat.le_of_ble_eq_true rfl, FinMove.refl _ _ _⟩ ?_
  refine E.of Try.wf Try.tab_ok ?_
  cases f with
  | true =>
    repeat' (first |                        refine ⟨fun _ => ?_, fun h => absurd h (by decide)⟩ | refine ⟨fun h => absurd h (by decide), fun _ => ?_⟩ | (refine ⟨fun h => ?_, fun h => ?_⟩ <;> (try simp only [decide_eq_true_eq, decide_eq_false_iff_not, Bool.not_eq_true', Bool.not_eq_false', Bool.not_eq_true, Bool.not_eq_false, not_true_eq_false, beq_iff_eq, beq_eq_false_iff_ne, ne_eq, decide_eq_decide, true_iff, false_iff, iff_true, iff_false, true_and, and_true, false_or, or_false, Bool.and_true, Bool.and_eq_true, Bool.and_eq_false_iff, Bool.or_eq_true, Bool.or_eq_false_iff, List.length_cons, List.length_nil] at h) <;> (try (exfalso; first | omega | exact h rfl | (cases h; done) | exact absurd h (by assumption) | exact h (by assumption) | (simp at h; done)))) | refine ⟨⟨by (first | omega | (simp only [lenS]; omega)), by (first | omega | (simp only [lenS]; omega))⟩, _, by assumption, by rfl, ?_⟩ | refine .inl ⟨⟨by (first | omega | (simp only [lenS]; omega)), by (first | omega | (simp only [lenS]; omega))⟩, ?_⟩ | refine ⟨⟨by (first | omega | (simp only [lenS]; omega)), by (first | omega | (simp only [lenS]; omega))⟩, ?_⟩ | refine ⟨⟨by (first | omega | (simp only [lenS]; omega)), by (first | omega | (simp only [lenS]; omega)), by (first | omega | (simp only [lenS]; omega))⟩, ?_⟩ | refine ⟨.inl rfl, ?_⟩ | refine ⟨.inr (.inl (by (first | omega | (simp only [lenS]; omega)))), ?_⟩ | refine ⟨_, rfl, rfl, by (first | exact Nat.le_refl _ | exact Nat.le_of_ble_eq_true rfl | decide), ?_⟩ | refine ⟨_, rfl, by (first | exact Nat.le_refl _ | exact Nat.le_of_ble_eq_true rfl | decide), ?_⟩ | refine ⟨by (first | exact Nat.le_refl _ | exact Nat.le_of_ble_eq_true rfl | decide | exact rfl), ?_⟩ | refine ⟨show _ ≤ (9223372036854775807 : Nat) by (first | omega | (simp only [lenS]; omega)), ?_⟩ | refine ⟨show _ ≠ (0 : Int) by (first | omega | (simp only [lenS]; omega)), ?_⟩ | refine ⟨_, rfl, _, rfl, ?_⟩ | refine ⟨_, by assumption, Nat.le_of_ble_eq_true rfl, ?_⟩ | refine ⟨_, by assumption, _, rfl, ?_⟩ | refine ⟨_, rfl, ?_⟩ | fail)
    exact ⟨.tup [], B3 vs o r (c + 1) _, fin_mv [.old 4, .old 5, .old 6] rfl rfl rfl ⟨⟨rfl, rfl⟩, ⟨rfl, .inl ⟨rfl, dataA_pure _⟩⟩, ⟨rfl, .inr (openR_rel rfl _ _ _)⟩, ⟨rfl, .inr ⟨⟨⟨rfl, rfl, rfl⟩, rfl, (rfl), trivial⟩, trivial⟩⟩, trivial⟩ trivial, rfl, _, r, vs, rfl, hv, rfl⟩
  | false =>
    repeat' (first |                        refine ⟨fun _ => ?_, fun h => absurd h (by decide)⟩ | refine ⟨fun h => absurd h (by decide), fun _ => ?_⟩ | (refine ⟨fun h => ?_, fun h => ?_⟩ <;> (try simp only [decide_eq_true_eq, decide_eq_false_iff_not, Bool.not_eq_true', Bool.not_eq_false', Bool.not_eq_true, Bool.not_eq_false, not_true_eq_false, beq_iff_eq, beq_eq_false_iff_ne, ne_eq, decide_eq_decide, true_iff, false_iff, iff_true, iff_false, true_and, and_true, false_or, or_false, Bool.and_true, Bool.and_eq_true, Bool.and_eq_false_iff, Bool.or_eq_true, Bool.or_eq_false_iff, List.length_cons, List.length_nil] at h) <;> (try (exfalso; first | omega | exact h rfl | (cases h; done) | exact absurd h (by assumption) | exact h (by assumption) | (simp at h; done)))) | refine ⟨⟨by (first | omega | (simp only [lenS]; omega)), by (first | omega | (simp only [lenS]; omega))⟩, _, by assumption, by rfl, ?_⟩ | refine .inl ⟨⟨by (first | omega | (simp only [lenS]; omega)), by (first | omega | (simp only [lenS]; omega))⟩, ?_⟩ | refine ⟨⟨by (first | omega | (simp only [lenS]; omega)), by (first | omega | (simp only [lenS]; omega))⟩, ?_⟩ | refine ⟨⟨by (first | omega | (simp only [lenS]; omega)), by (first | omega | (simp only [lenS]; omega)), by (first | omega | (simp only [lenS]; omega))⟩, ?_⟩ | refine ⟨.inl rfl, ?_⟩ | refine ⟨.inr (.inl (by (first | omega | (simp only [lenS]; omega)))), ?_⟩ | refine ⟨_, rfl, rfl, by (first | exact Nat.le_refl _ | exact Nat.le_of_ble_eq_true rfl | decide), ?_⟩ | refine ⟨_, rfl, by (first | exact Nat.le_refl _ | exact Nat.le_of_ble_eq_true rfl | decide), ?_⟩ | refine ⟨by (first | exact Nat.le_refl _ | exact Nat.le_of_ble_eq_true rfl | decide | exact rfl), ?_⟩ | refine ⟨show _ ≤ (9223372036854775807 : Nat) by (first | omega | (simp only [lenS]; omega)), ?_⟩ | refine ⟨show _ ≠ (0 : Int) by (first | omega | (simp only [lenS]; omega)), ?_⟩ | refine ⟨_, rfl, _, rfl, ?_⟩ | refine ⟨_, by assumption, Nat.le_of_ble_eq_true rfl, ?_⟩ | refine ⟨_, by assumption, _, rfl, ?_⟩ | refine ⟨_, rfl, ?_⟩ | fail)
    exact ⟨.tup [], B3 vs o r (c + 1) _, fin_mv [.old 4, .old 5, .old 6] rfl rfl rfl ⟨⟨rfl, rfl⟩, ⟨rfl, .inl ⟨rfl, dataA_pure _⟩⟩, ⟨rfl, .inr (openR_rel rfl _ _ _)⟩, ⟨rfl, .inr ⟨⟨⟨rfl, rfl, rfl⟩, rfl, (congrArg D.bool (over_eq r.length c)), trivial⟩, trivial⟩⟩, trivial⟩ trivial, rfl, _, r, vs, rfl, hv, rfl⟩
end Go.Proofs.Ytcmkiancbgmmhaa

namespace Go.Proofs.Ytcmkiancbgmmhaa
open Go.Aw
set_option maxHeartbeats 1600000
set_option linter.unusedSimpArgs false
set_option linter.unusedVariables false
/-- The place of the innermost element of some names; 0: none is open. -/
def innerN (names : List (List UInt8)) : List Op → Nat
  | o :: o2 :: r => if o.1 ∈ names then r.length + 1 else innerN names (o2 :: r)
  | _ => 0
theorem innerN_hit {names : List (List UInt8)} {x : Op} {t : List Op} (h : 0 < t.length) (hm : x.1 ∈ names) : innerN names (x :: t) = t.length := by
  cases t with
  | nil => simp at h
  | cons y t => rw [innerN, if_pos hm]; rfl
theorem innerN_miss {names : List (List UInt8)} {x y : Op} {t : List Op} (hm : x.1 ∉ names) : innerN names (x :: y :: t) = innerN names (y :: t) := by
  rw [innerN, if_neg hm]
theorem rowsO_at : ∀ {r : List Op} {vs : List OV}, vs.length = r.length → ∀ (pre : List Op) (x : Op) (t : List Op), r = pre ++ x :: t → ∃ v : OV, (rowsO r vs)[t.length]? = some (rowO x (.lit v.1))
  | o :: r, v :: vs, h, [], x, t, e => by
    cases e
    refine ⟨v, ?_⟩
    rw [rowsO, List.getElem?_append_right (by rw [rowsO_len (by simpa using h)]; exact Nat.le_refl _), rowsO_len (by simpa using h), Nat.sub_self]; rfl
  | o :: r, v :: vs, h, p :: pre, x, t, e => by
    cases e
    obtain ⟨u, hu⟩ := rowsO_at (vs := vs) (by simpa using h) pre x t rfl
    refine ⟨u, ?_⟩
    show (rowsO (pre ++ x :: t) vs ++ [rowO o (.lit v.1)])[t.length]? = _
    rw [List.getElem?_append_left (List.getElem?_eq_some_iff.1 hu).1]
    exact hu
  | [], [], _, pre, x, t, e => by cases pre <;> cases e
  | [], _ :: _, h, _, _, _, _ => by simp at h
  | _ :: _, [], h, _, _, _, _ => by simp at h
theorem openR_at (i : Nat) (vs : List OV) (o : Op) (r : List Op) (hv : vs.length = r.length) (pre : List Op) (x : Op) (t : List Op) (e : o :: r = pre ++ x :: t) : ∃ w, (openR i vs o r)[t.length]? = some (rowO x w) := by
  cases pre with
  | nil => cases e; exact ⟨_, openR_get i vs o r hv⟩
  | cons p pre =>
    cases e
    obtain ⟨u, hu⟩ := rowsO_at hv pre x t rfl
    refine ⟨.lit u.1, ?_⟩
    unfold openR
    rw [List.getElem?_append_left (List.getElem?_eq_some_iff.1 hu).1]
    exact hu
set_option maxRecDepth 100000 in
theorem inner_ok (names : List (List UInt8)) (hn : names.length ≤ 4611686018427387903) (vs : List OV) (o : Op) (r : List Op) (c : Nat) (f : Bool) (hv : vs.length = r.length) (hr : r.length ≤ 1000000) :
    CallsAbs Try.prog 61 [.ref 0 0 0, .d (.sl (strsD names))] ⟨8, (B3 vs o r c f).objs⟩ fun x σ' => x = .d (.int .i64 (innerN names (o :: r) : Nat)) ∧ σ' = ⟨8, (B3 vs o r c f).objs⟩ := by
  refine fn_okTE Try.wf Try.tab_ok Try.func61 (by decide +kernel) rfl rfl ?_
  refine E.seq (E.of Try.wf Try.tab_ok ?_)
  repeat' (first | refine PureC.use hc1 ?_ |                       refine ⟨fun _ => ?_, fun h => absurd h (by decide)⟩ | refine ⟨fun h => absurd h (by decide), fun _ => ?_⟩ | (refine ⟨fun h => ?_, fun h => ?_⟩ <;> (try simp only [decide_eq_true_eq, decide_eq_false_iff_not, Bool.not_eq_true', Bool.not_eq_false', Bool.not_eq_true, Bool.not_eq_false, not_true_eq_false, beq_iff_eq, beq_eq_false_iff_ne, ne_eq, decide_eq_decide, true_iff, false_iff, iff_true, iff_false, true_and, and_true, false_or, or_false, Bool.and_true, Bool.and_eq_true, Bool.and_eq_false_iff, Bool.or_eq_true, Bool.or_eq_false_iff, List.length_cons, List.length_nil] at h) <;> (try (exfalso; first | omega | exact h rfl | (cases h; done) | exact absurd h (by assumption) | exact h (by assumption) | (simp at h; done)))) | refine ⟨⟨by (first | omega | (simp only [lenS]; omega)), by (first | omega | (simp only [lenS]; omega))⟩, _, by assumption, by rfl, ?_⟩ | refine .inl ⟨⟨by (first | omega | (simp only [lenS]; omega)), by (first | omega | (simp only [lenS]; omega))⟩, ?_⟩ | refine ⟨⟨by (first | omega | (simp only [lenS]; omega)), by (first | omega | (simp only [lenS]; omega))⟩, ?_⟩ | refine ⟨⟨by (first | omega | (simp only [lenS]; omega)), by (first | omega | (simp only [lenS]; omega)), by (first | omega | (simp only [lenS]; omega))⟩, ?_⟩ | refine ⟨.inl rfl, ?_⟩ | refine ⟨.inr (.inl (by (first | omega | (simp only [lenS]; omega)))), ?_⟩ | refine ⟨_, rfl, rfl, by (first | exact Nat.le_refl _ | exact Nat.le_of_ble_eq_true rfl | decide), ?_⟩ | refine ⟨_, rfl, by (first | exact Nat.le_refl _ | exact Nat.le_of_ble_eq_true rfl | decide), ?_⟩ | refine ⟨by (first | exact Nat.le_refl _ | exact Nat.le_of_ble_eq_true rfl | decide | exact rfl), ?_⟩ | refine ⟨show _ ≤ (9223372036854775807 : Nat) by (first | omega | (simp only [lenS]; omega)), ?_⟩ | refine ⟨show _ ≠ (0 : Int) by (first | omega | (simp only [lenS]; omega)), ?_⟩ | refine ⟨_, rfl, _, rfl, ?_⟩ | refine ⟨_, by assumption, Nat.le_of_ble_eq_true rfl, ?_⟩ | refine ⟨_, by assumption, _, rfl, ?_⟩ | refine ⟨_, rfl, ?_⟩ | fail)
  refine scopeE ?_
  refine E.of Try.wf Try.tab_ok ?_
  repeat' (first | refine PureC.use hc1 ?_ |                       refine ⟨fun _ => ?_, fun h => absurd h (by decide)⟩ | refine ⟨fun h => absurd h (by decide), fun _ => ?_⟩ | (refine ⟨fun h => ?_, fun h => ?_⟩ <;> (try simp only [decide_eq_true_eq, decide_eq_false_iff_not, Bool.not_eq_true', Bool.not_eq_false', Bool.not_eq_true, Bool.not_eq_false, not_true_eq_false, beq_iff_eq, beq_eq_false_iff_ne, ne_eq, decide_eq_decide, true_iff, false_iff, iff_true, iff_false, true_and, and_true, false_or, or_false, Bool.and_true, Bool.and_eq_true, Bool.and_eq_false_iff, Bool.or_eq_true, Bool.or_eq_false_iff, List.length_cons, List.length_nil] at h) <;> (try (exfalso; first | omega | exact h rfl | (cases h; done) | exact absurd h (by assumption) | exact h (by assumption) | (simp at h; done)))) | refine ⟨⟨by (first | omega | (simp only [lenS]; omega)), by (first | omega | (simp only [lenS]; omega))⟩, _, by assumption, by rfl, ?_⟩ | refine .inl ⟨⟨by (first | omega | (simp only [lenS]; omega)), by (first | omega | (simp only [lenS]; omega))⟩, ?_⟩ | refine ⟨⟨by (first | omega | (simp only [lenS]; omega)), by (first | omega | (simp only [lenS]; omega))⟩, ?_⟩ | refine ⟨⟨by (first | omega | (simp only [lenS]; omega)), by (first | omega | (simp only [lenS]; omega)), by (first | omega | (simp only [lenS]; omega))⟩, ?_⟩ | refine ⟨.inl rfl, ?_⟩ | refine ⟨.inr (.inl (by (first | omega | (simp only [lenS]; omega)))), ?_⟩ | refine ⟨_, rfl, rfl, by (first | exact Nat.le_refl _ | exact Nat.le_of_ble_eq_true rfl | decide), ?_⟩ | refine ⟨_, rfl, by (first | exact Nat.le_refl _ | exact Nat.le_of_ble_eq_true rfl | decide), ?_⟩ | refine ⟨by (first | exact Nat.le_refl _ | exact Nat.le_of_ble_eq_true rfl | decide | exact rfl), ?_⟩ | refine ⟨show _ ≤ (9223372036854775807 : Nat) by (first | omega | (simp only [lenS]; omega)), ?_⟩ | refine ⟨show _ ≠ (0 : Int) by (first | omega | (simp only [lenS]; omega)), ?_⟩ | refine ⟨_, rfl, _, rfl, ?_⟩ | refine ⟨_, by assumption, Nat.le_of_ble_eq_true rfl, ?_⟩ | refine ⟨_, by assumption, _, rfl, ?_⟩ | refine ⟨_, rfl, ?_⟩ | fail)
  refine loopT Try.wf Try.tab_ok (fun n s' σ => ∃ (pre : List Op) (x : Op) (t : List Op), n = t.length ∧ o :: r = pre ++ x :: t ∧ innerN names (x :: t) = innerN names (o :: r) ∧ s' = [(0, .ref 0 0 0), (1, .d (.sl (strsD names))), (5, .d (.int .i64 0)), (6, .d (.int .i64 t.length))] ∧ σ = ⟨8, (B3 vs o r c f).objs⟩)
    ⟨[], o, r, rfl, rfl, rfl, rfl, rfl⟩ (Mv.of [] rfl rfl rfl ⟨⟨rfl, rfl⟩, ⟨rfl, .inl ⟨rfl, dataA_pure _⟩⟩, ⟨rfl, .inr (openR_rel rfl _ _ _)⟩, ⟨rfl, .inr ⟨⟨⟨rfl, rfl, rfl⟩, rfl, rfl, trivial⟩, trivial⟩⟩, trivial⟩ ⟨⟨rfl, rfl, rfl⟩, rfl, rfl, congrArg (fun n : Int => D.int .i64 n) (by omega), trivial⟩) ?_
  rintro _ _ _ ⟨pre, x, t, rfl, hq, hI, rfl, rfl⟩
  obtain ⟨w, hrow⟩ := openR_at 5 vs o r hv pre x t hq
  have hlt : t.length ≤ r.length := by have := congrArg List.length hq; simp at this; omega
  have hc1 := Contains_ok names x.1 hn
  repeat' (first | refine PureC.use hc1 ?_ |                       refine ⟨fun _ => ?_, fun h => absurd h (by decide)⟩ | refine ⟨fun h => absurd h (by decide), fun _ => ?_⟩ | (refine ⟨fun h => ?_, fun h => ?_⟩ <;> (try simp only [decide_eq_true_eq, decide_eq_false_iff_not, Bool.not_eq_true', Bool.not_eq_false', Bool.not_eq_true, Bool.not_eq_false, not_true_eq_false, beq_iff_eq, beq_eq_false_iff_ne, ne_eq, decide_eq_decide, true_iff, false_iff, iff_true, iff_false, true_and, and_true, false_or, or_false, Bool.and_true, Bool.and_eq_true, Bool.and_eq_false_iff, Bool.or_eq_true, Bool.or_eq_false_iff, List.length_cons, List.length_nil] at h) <;> (try (exfalso; first | omega | exact h rfl | (cases h; done) | exact absurd h (by assumption) | exact h (by assumption) | (simp at h; done)))) | refine ⟨⟨by (first | omega | (simp only [lenS]; omega)), by (first | omega | (simp only [lenS]; omega))⟩, _, by assumption, by rfl, ?_⟩ | refine .inl ⟨⟨by (first | omega | (simp only [lenS]; omega)), by (first | omega | (simp only [lenS]; omega))⟩, ?_⟩ | refine ⟨⟨by (first | omega | (simp only [lenS]; omega)), by (first | omega | (simp only [lenS]; omega))⟩, ?_⟩ | refine ⟨⟨by (first | omega | (simp only [lenS]; omega)), by (first | omega | (simp only [lenS]; omega)), by (first | omega | (simp only [lenS]; omega))⟩, ?_⟩ | refine ⟨.inl rfl, ?_⟩ | refine ⟨.inr (.inl (by (first | omega | (simp only [lenS]; omega)))), ?_⟩ | refine ⟨_, rfl, rfl, by (first | exact Nat.le_refl _ | exact Nat.le_of_ble_eq_true rfl | decide), ?_⟩ | refine ⟨_, rfl, by (first | exact Nat.le_refl _ | exact Nat.le_of_ble_eq_true rfl | decide), ?_⟩ | refine ⟨by (first | exact Nat.le_refl _ | exact Nat.le_of_ble_eq_true rfl | decide | exact rfl), ?_⟩ | refine ⟨show _ ≤ (9223372036854775807 : Nat) by (first | omega | (simp only [lenS]; omega)), ?_⟩ | refine ⟨show _ ≠ (0 : Int) by (first | omega | (simp only [lenS]; omega)), ?_⟩ | refine ⟨_, rfl, _, rfl, ?_⟩ | refine ⟨_, by assumption, Nat.le_of_ble_eq_true rfl, ?_⟩ | refine ⟨_, by assumption, _, rfl, ?_⟩ | refine ⟨_, rfl, ?_⟩ | fail)
  · exact ⟨_, _, FinMove.refl _ _ _, congrArg (fun n : Nat => AV.d (.int .i64 (n : Int))) ((innerN_hit (by omega) (by assumption)).symm.trans hI), rfl⟩
  · cases t with
    | nil => exact absurd (by assumption : (0 : Int) < _) (by simp)
    | cons y t =>
      exact ⟨_, _, _, ⟨pre ++ [x], y, t, rfl, by rw [hq]; simp, (innerN_miss (by assumption)).symm.trans hI, rfl, rfl⟩, by simp, Mv.of [] rfl rfl rfl ⟨⟨rfl, rfl⟩, ⟨rfl, .inl ⟨rfl, dataA_pure _⟩⟩, ⟨rfl, .inr (openR_rel rfl _ _ _)⟩, ⟨rfl, .inr ⟨⟨⟨rfl, rfl, rfl⟩, rfl, rfl, trivial⟩, trivial⟩⟩, trivial⟩ ⟨⟨rfl, rfl, rfl⟩, rfl, rfl, congrArg (fun n : Int => D.int .i64 n) (by simp), trivial⟩⟩
  · cases t with
    | cons y t => exact absurd (by simp : (0 : Int) < ((y :: t).length : Nat)) (by assumption)
    | nil =>
      exact ⟨_, _, FinMove.refl _ _ _, congrArg (fun n : Nat => AV.d (.int .i64 (n : Int))) (show 0 = _ from hI), rfl⟩
end Go.Proofs.Ytcmkiancbgmmhaa

namespace Go.Proofs.Ytcmkiancbgmmhaa
open Go.Aw
set_option maxHeartbeats 1600000
set_option linter.unusedSimpArgs false
set_option linter.unusedVariables false
theorem innerN_put (names : List (List UInt8)) (n : Node) : ∀ ops : List Op, innerN names (putO n ops) = innerN names ops
  | [] => rfl
  | (a, b, k) :: r => by cases r <;> rfl
theorem putO_len (n : Node) : ∀ ops : List Op, (putO n ops).length = ops.length
  | [] => rfl
  | (a, b, k) :: r => rfl
theorem putO_tot (n : Node) : ∀ ops : List Op, totO (putO n ops) ≤ totO ops + 1
  | [] => by simp [putO]
  | (a, b, k) :: r => by simp only [putO, totO, List.length_append, List.length_cons, List.length_nil]; omega
theorem shutO_len (o p : Op) (r : List Op) : (shutO (o :: p :: r)).length = r.length + 1 := by
  obtain ⟨a, b, k⟩ := o
  show (putO _ (p :: r)).length = _
  rw [putO_len]; rfl
theorem shutO_tot : ∀ ops : List Op, totO (shutO ops) ≤ totO ops
  | [] => Nat.le_refl _
  | (a, b, k) :: r => by
    have := putO_tot (.mk a b [] k) r
    show totO (putO _ r) ≤ _
    rw [totO]; omega
theorem shutO_inner (names : List (List UInt8)) (o p : Op) (r : List Op) : innerN names (shutO (o :: p :: r)) = innerN names (p :: r) := by
  obtain ⟨a, b, k⟩ := o
  show innerN names (putO _ (p :: r)) = _
  exact innerN_put names _ _
theorem openB_inner (nm : List UInt8) : ∀ ops : List Op, openB nm ops = decide (0 < innerN [nm] ops)
  | o :: o2 :: r => by
    rw [openB, innerN, openB_inner nm (o2 :: r)]
    by_cases h : o.1 = nm
    · rw [if_pos (by rw [h]; exact List.mem_singleton.2 rfl), decide_eq_true h, decide_eq_true (p := 0 < r.length + 1) (Nat.succ_pos _)]; rfl
    · rw [if_neg (fun hm => h (List.mem_singleton.1 hm)), decide_eq_false h]; rfl
  | [] => rfl
  | [_] => rfl
theorem innerN_lt (names : List (List UInt8)) : ∀ ops : List Op, ops ≠ [] → innerN names ops < ops.length
  | o :: o2 :: r, _ => by
    have := innerN_lt names (o2 :: r) (by simp)
    rw [innerN]
    split <;> simp only [List.length_cons] at * <;> omega
  | [_], _ => by simp [innerN]
/-- One round of closing. -/
theorem closeF_step (nm : List UInt8) {q : List Op} {A : Nat} (hA : 0 < A) (hI : innerN [nm] q = A) : ∃ o p r, q = o :: p :: r ∧
    ((A = r.length + 1 ∧ closeF nm q.length q = shutO q) ∨ (innerN [nm] (shutO q) = A ∧ A < r.length + 1 ∧ closeF nm q.length q = closeF nm (shutO q).length (shutO q))) := by
  cases q with
  | nil => simp [innerN] at hI; omega
  | cons o q =>
  cases q with
  | nil => simp [innerN] at hI; omega
  | cons p r =>
    refine ⟨o, p, r, rfl, ?_⟩
    have e : closeF nm (o :: p :: r).length (o :: p :: r) = if o.1 = nm then shutO (o :: p :: r) else closeF nm (p :: r).length (shutO (o :: p :: r)) := by
      simp only [List.length_cons]; rw [closeF]
    rw [e]
    rw [innerN] at hI
    by_cases h : o.1 = nm
    · rw [if_pos (by rw [h]; exact List.mem_singleton.2 rfl)] at hI
      rw [if_pos h]
      exact .inl ⟨hI.symm, rfl⟩
    · rw [if_neg (fun hm => h (List.mem_singleton.1 hm))] at hI
      rw [if_neg h]
      refine .inr ⟨by rw [shutO_inner]; exact hI, ?_, by rw [shutO_len]; rfl⟩
      have := innerN_lt [nm] (p :: r) (by simp)
      rw [hI] at this; exact this
set_option maxRecDepth 100000 in
theorem close_ok (nm : List UInt8) (s : Bs) (hs : totO s.ops ≤ 1000000) : Meth Try.prog 60 [.ref 0 0 0, .d (.str nm)] (.d (.bool (openB nm s.ops))) s ⟨closeO nm s.ops, s.cnt, s.full⟩ := by
  intro o r vs ho hv
  rw [ho] at hs ⊢
  have hlen := totO_len (o :: r)
  rw [List.length_cons] at hlen
  dsimp only
  generalize s.cnt = c
  generalize s.full = f
  rw [openB_inner]
  have hd1 := inner_ok [nm] (show 1 ≤ 4611686018427387903 by omega) vs o r c f hv (by omega)
  generalize hA : innerN [nm] (o :: r) = A at *
  have hfin : closeO nm (o :: r) = if 0 < A then closeF nm (o :: r).length (o :: r) else o :: r := by
    unfold closeO
    rw [openB_inner, hA]
    by_cases h : 0 < A <;> simp [h]
  refine fn_okTE Try.wf Try.tab_ok Try.func60 (by decide +kernel) rfl rfl ?_
  refine E.fm (s' := [(0, .ref 0 0 0), (1, .d (.str nm))]) (σ' := B3 vs o r c f) (B_up vs o r _ _ ⟨⟨rfl, rfl, rfl⟩, rfl, trivial⟩) ?_
  refine E.of Try.wf Try.tab_ok ?_
  repeat (first | refine ⟨fun _ => ?_, fun h => absurd h (by decide)⟩ | refine ⟨fun h => absurd h (by decide), fun _ => ?_⟩)
  refine CallsAbs.freezeTo (ds := strsD [nm]) (args' := [.ref 0 0 0, .d (.sl (strsD [nm]))]) 7 rfl rfl ⟨trivial, fun _ => Nat.le_refl _, trivial⟩ rfl ?_
  refine CallsAbs.fm (σ' := ⟨8, (B3 vs o r c f).objs⟩) (fin_same rfl fun i => ?_) ?_
  · simp only [Store.get, look_cons]
    by_cases h : 7 = i
    · subst h; rfl
    · simp [h]
  refine CallsAbs.use1 hd1 ?_
  refine loopT Try.wf Try.tab_ok (fun n s' σ => ∃ (q : List Op) (o' : Op) (r' : List Op) (vs' : List OV), n = q.length ∧ q = o' :: r' ∧ vs'.length = r'.length ∧ totO q ≤ 1000000 ∧
      ((0 < A ∧ A < q.length ∧ innerN [nm] q = A ∧ closeF nm q.length q = closeO nm (o :: r)) ∨ ((A = 0 ∨ A = q.length) ∧ q = closeO nm (o :: r))) ∧ s' = [(0, .ref 0 0 0), (5, .d (.int .i64 A))] ∧ σ = B3 vs' o' r' c f)
    ⟨o :: r, o, r, vs, rfl, rfl, hv, hs, ?_, rfl, rfl⟩ (Mv.of [.old 4, .old 5, .old 6] rfl rfl rfl ⟨⟨rfl, rfl⟩, ⟨rfl, .inl ⟨rfl, dataA_pure _⟩⟩, ⟨rfl, .inr (openR_rel rfl _ _ _)⟩, ⟨rfl, .inr ⟨⟨⟨rfl, rfl, rfl⟩, rfl, rfl, trivial⟩, trivial⟩⟩, trivial⟩ ⟨⟨rfl, rfl, rfl⟩, rfl, trivial⟩) ?_
  · rw [hfin]
    by_cases h : 0 < A
    · rw [if_pos h]
      exact .inl ⟨h, by rw [← hA]; exact innerN_lt _ _ (by simp), hA, rfl⟩
    · rw [if_neg h]
      exact .inr ⟨.inl (by omega), rfl⟩
  rintro _ _ _ ⟨q, o', r', vs', rfl, rfl, hv', hq, hI, rfl, rfl⟩
  have hlq := totO_len (o' :: r')
  rw [List.length_cons] at hlq
  rcases hI with ⟨h1, h2, h3, h4⟩ | ⟨h1, h2⟩
  · obtain ⟨a, p, u, e, hstep⟩ := closeF_step nm h1 h3
    cases e
    have hm := shut_ok ⟨o' :: p :: u, c, f⟩ hq (by simp)
    have hsl := shutO_len o' p u
    rw [List.length_cons] at h2
    repeat' (first |            refine CallsAbs.use1 hd1 ?_ |            refine ⟨fun _ => ?_, fun h => absurd h (by decide)⟩ | refine ⟨fun h => absurd h (by decide), fun _ => ?_⟩ | (refine ⟨fun h => ?_, fun h => ?_⟩ <;> (try simp only [decide_eq_true_eq, decide_eq_false_iff_not, Bool.not_eq_true', Bool.not_eq_false', Bool.not_eq_true, Bool.not_eq_false, not_true_eq_false, beq_iff_eq, beq_eq_false_iff_ne, ne_eq, decide_eq_decide, true_iff, false_iff, iff_true, iff_false, true_and, and_true, false_or, or_false, Bool.and_true, Bool.and_eq_true, Bool.and_eq_false_iff, Bool.or_eq_true, Bool.or_eq_false_iff, List.length_cons, List.length_nil] at h) <;> (try (exfalso; first | omega | exact h rfl | (cases h; done) | exact absurd h (by assumption) | exact h (by assumption) | (simp at h; done)))) | refine ⟨⟨by (first | omega | (simp only [lenS]; omega)), by (first | omega | (simp only [lenS]; omega))⟩, _, by assumption, by rfl, ?_⟩ | refine .inl ⟨⟨by (first | omega | (simp only [lenS]; omega)), by (first | omega | (simp only [lenS]; omega))⟩, ?_⟩ | refine ⟨⟨by (first | omega | (simp only [lenS]; omega)), by (first | omega | (simp only [lenS]; omega))⟩, ?_⟩ | refine ⟨⟨by (first | omega | (simp only [lenS]; omega)), by (first | omega | (simp only [lenS]; omega)), by (first | omega | (simp only [lenS]; omega))⟩, ?_⟩ | refine ⟨.inl rfl, ?_⟩ | refine ⟨.inr (.inl (by (first | omega | (simp only [lenS]; omega)))), ?_⟩ | refine ⟨_, rfl, rfl, by (first | exact Nat.le_refl _ | exact Nat.le_of_ble_eq_true rfl | decide), ?_⟩ | refine ⟨_, rfl, by (first | exact Nat.le_refl _ | exact Nat.le_of_ble_eq_true rfl | decide), ?_⟩ | refine ⟨by (first | exact Nat.le_refl _ | exact Nat.le_of_ble_eq_true rfl | decide | exact rfl), ?_⟩ | refine ⟨show _ ≤ (9223372036854775807 : Nat) by (first | omega | (simp only [lenS]; omega)), ?_⟩ | refine ⟨show _ ≠ (0 : Int) by (first | omega | (simp only [lenS]; omega)), ?_⟩ | refine ⟨_, rfl, _, rfl, ?_⟩ | refine ⟨_, by assumption, Nat.le_of_ble_eq_true rfl, ?_⟩ | refine ⟨_, by assumption, _, rfl, ?_⟩ | refine ⟨_, rfl, ?_⟩ | fail)
    refine hm.use (o := o') (r := p :: u) (vs := vs') 4 5 6 7 8 9 10 rfl hv' rfl rfl rfl rfl rfl rfl rfl rfl rfl rfl ⟨⟨rfl, rfl, rfl⟩, trivial⟩ fun o2 r2 vs2 q1 q2 => ?_
    refine ⟨_, _, _, ⟨shutO (o' :: p :: u), o2, r2, vs2, rfl, q1, q2, Nat.le_trans (shutO_tot _) hq, ?_, rfl, rfl⟩, by rw [hsl]; simp, Mv.of [.old 7, .old 8, .old 9] rfl rfl rfl ⟨⟨rfl, rfl⟩, ⟨rfl, .inl ⟨rfl, dataA_pure _⟩⟩, ⟨rfl, .inr (openR_rel rfl _ _ _)⟩, ⟨rfl, .inr ⟨⟨⟨rfl, rfl, rfl⟩, rfl, rfl, trivial⟩, trivial⟩⟩, trivial⟩ ⟨⟨rfl, rfl, rfl⟩, rfl, trivial⟩⟩
    rcases hstep with ⟨k1, k2⟩ | ⟨k1, k2, k3⟩
    · exact .inr ⟨.inr (by rw [hsl]; exact k1), k2.symm.trans h4⟩
    · exact .inl ⟨h1, by rw [hsl]; exact k2, k1, k3.symm.trans h4⟩
  · rw [List.length_cons] at h1
    repeat' (first |            refine CallsAbs.use1 hd1 ?_ |            refine ⟨fun _ => ?_, fun h => absurd h (by decide)⟩ | refine ⟨fun h => absurd h (by decide), fun _ => ?_⟩ | (refine ⟨fun h => ?_, fun h => ?_⟩ <;> (try simp only [decide_eq_true_eq, decide_eq_false_iff_not, Bool.not_eq_true', Bool.not_eq_false', Bool.not_eq_true, Bool.not_eq_false, not_true_eq_false, beq_iff_eq, beq_eq_false_iff_ne, ne_eq, decide_eq_decide, true_iff, false_iff, iff_true, iff_false, true_and, and_true, false_or, or_false, Bool.and_true, Bool.and_eq_true, Bool.and_eq_false_iff, Bool.or_eq_true, Bool.or_eq_false_iff, List.length_cons, List.length_nil] at h) <;> (try (exfalso; first | omega | exact h rfl | (cases h; done) | exact absurd h (by assumption) | exact h (by assumption) | (simp at h; done)))) | refine ⟨⟨by (first | omega | (simp only [lenS]; omega)), by (first | omega | (simp only [lenS]; omega))⟩, _, by assumption, by rfl, ?_⟩ | refine .inl ⟨⟨by (first | omega | (simp only [lenS]; omega)), by (first | omega | (simp only [lenS]; omega))⟩, ?_⟩ | refine ⟨⟨by (first | omega | (simp only [lenS]; omega)), by (first | omega | (simp only [lenS]; omega))⟩, ?_⟩ | refine ⟨⟨by (first | omega | (simp only [lenS]; omega)), by (first | omega | (simp only [lenS]; omega)), by (first | omega | (simp only [lenS]; omega))⟩, ?_⟩ | refine ⟨.inl rfl, ?_⟩ | refine ⟨.inr (.inl (by (first | omega | (simp only [lenS]; omega)))), ?_⟩ | refine ⟨_, rfl, rfl, by (first | exact Nat.le_refl _ | exact Nat.le_of_ble_eq_true rfl | decide), ?_⟩ | refine ⟨_, rfl, by (first | exact Nat.le_refl _ | exact Nat.le_of_ble_eq_true rfl | decide), ?_⟩ | refine ⟨by (first | exact Nat.le_refl _ | exact Nat.le_of_ble_eq_true rfl | decide | exact rfl), ?_⟩ | refine ⟨show _ ≤ (9223372036854775807 : Nat) by (first | omega | (simp only [lenS]; omega)), ?_⟩ | refine ⟨show _ ≠ (0 : Int) by (first | omega | (simp only [lenS]; omega)), ?_⟩ | refine ⟨_, rfl, _, rfl, ?_⟩ | refine ⟨_, by assumption, Nat.le_of_ble_eq_true rfl, ?_⟩ | refine ⟨_, by assumption, _, rfl, ?_⟩ | refine ⟨_, rfl, ?_⟩ | fail)
    all_goals first
      | (exfalso; omega)
      | exact ⟨.d (.bool (decide (0 < A))), B3 vs' o' r' c f, fin_mv [.old 4, .old 5, .old 6] rfl rfl rfl ⟨⟨rfl, rfl⟩, ⟨rfl, .inl ⟨rfl, dataA_pure _⟩⟩, ⟨rfl, .inr (openR_rel rfl _ _ _)⟩, ⟨rfl, .inr ⟨⟨⟨rfl, rfl, rfl⟩, rfl, rfl, trivial⟩, trivial⟩⟩, trivial⟩ (congrArg D.bool (decide_eq_decide.2 (by omega))), rfl, o', r', vs', h2.symm, hv', rfl⟩
end Go.Proofs.Ytcmkiancbgmmhaa
