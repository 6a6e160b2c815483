import Derived.Test.YtcmkiancbgmmhaaTokG
namespace Go.Proofs.Ytcmkiancbgmmhaa
open Go.Aw
set_option maxHeartbeats 1600000
set_option linter.unusedSimpArgs false
set_option linter.unusedVariables false

def NextK (s : List UInt8) (l : List Tok) (x : List UInt8) (r : AV) (σ' : Store) : Prop := match step x with
  | some (e, r') => r = .d (.bool true) ∧ ((e = [] ∧ σ' = rdS s (s.length - r'.length) l) ∨ (e ≠ [] ∧ σ' = rdS2 s (s.length - r'.length) (l ++ e)))
  | none => ∃ m, m ≤ s.length ∧ r = .d (.bool false) ∧ σ' = rdS s m l

theorem kind_cases {x : List UInt8} (hk : kindL x ≠ 0) : ∃ c r, x = 60 :: c :: r ∧
    ((kindL x = 1 ∧ hasPre x [60, 33, 45, 45] = true ∧ c = 33) ∨
     (hasPre x [60, 33, 45, 45] = false ∧ ((kindL x = 3 ∧ (c = 33 ∨ c = 63)) ∨ (kindL x = 4 ∧ ltrB c = true ∧ c ≠ 47) ∨
       (c = 47 ∧ ∃ d r', r = d :: r' ∧ ((kindL x = 2 ∧ d = 62) ∨ (kindL x = 5 ∧ ltrB d = true ∧ d ≠ 62) ∨ (kindL x = 3 ∧ ltrB d = false ∧ d ≠ 62)))))) := by
  obtain ⟨c, r, rfl⟩ := kind_pos hk
  refine ⟨c, r, rfl, ?_⟩
  have e1 : hasPre (60 :: c :: r) [60, 33, 45, 45] = hasPre (c :: r) [33, 45, 45] := by simp [hasPre]
  rw [e1]
  unfold kindL at hk ⊢
  simp only [if_true] at hk ⊢
  by_cases h1 : hasPre (c :: r) [33, 45, 45] = true
  · refine .inl ⟨by rw [if_pos h1], h1, ?_⟩
    simp [hasPre] at h1; exact h1.2.1
  · refine .inr ⟨by simpa using h1, ?_⟩
    rw [if_neg h1] at hk ⊢
    by_cases h2 : c = 33 ∨ c = 63
    · exact .inl ⟨if_pos h2, h2⟩
    · rw [if_neg h2] at hk ⊢
      by_cases h3 : ltrB c = true
      · rw [if_pos h3] at hk ⊢
        exact .inr (.inl ⟨rfl, h3, fun e => by subst e; revert h3; decide⟩)
      · rw [if_neg h3] at hk ⊢
        by_cases h4 : c = 47
        · rw [if_pos h4] at hk ⊢
          cases r with
          | nil => exact absurd rfl hk
          | cons d r' =>
            refine .inr (.inr ⟨h4, d, r', rfl, ?_⟩)
            dsimp only
            by_cases h5 : d = 62
            · exact .inl ⟨if_pos h5, h5⟩
            · rw [if_neg h5]
              by_cases h6 : ltrB d = true
              · exact .inr (.inl ⟨if_pos h6, h6, h5⟩)
              · exact .inr (.inr ⟨if_neg h6, by simpa using h6, h5⟩)
        · rw [if_neg h4] at hk
          exact absurd rfl hk

set_option maxRecDepth 100000 in
theorem next_text (s : List UInt8) (n : Nat) (l : List Tok) (hn : n < s.length) (hs : s.length ≤ 1000000) (hl : l.length ≤ 1000000) (hk : kindL (s.drop n) = 0) :
    CallsAbs Try.prog 37 [.ref 0 0 0] (rdS s n l) (NextK s l (s.drop n)) := by
  have hd1 := left_any s n l (by omega) (rdS s n l) rfl rfl
  have hd2 := plain_any s n l hn (rdS s n l) rfl rfl
  have hd3 := text_ok s n l (by omega) hs hl
  have hle := runN_le plainB (s.drop n)
  have hlen : ((s.drop n).drop (runN plainB (s.drop n))).length = s.length - n - runN plainB (s.drop n) := by simp [Nat.sub_sub]
  rw [List.length_drop] at hle
  have hst : step (s.drop n) = some ([textT (resolve ((s.drop n).take (runN plainB (s.drop n))))], (s.drop n).drop (runN plainB (s.drop n))) := by unfold step; rw [hk]; rfl
  have hp : plainB (s.drop n) = true := by unfold plainB; rw [hk]; rfl
  rw [hp] at hd2
  unfold NextK
  rw [hst]
  refine fn_okT Try.wf Try.tab_ok Try.func37 (by decide +kernel) rfl rfl ?_
  repeat' (first |            refine CallsAbs.use1 hd1 ?_ | refine CallsAbs.use1 hd2 ?_ | refine CallsAbs.use1 hd3 ?_ |          refine ⟨fun _ => ?_, fun h => absurd h (by decide)⟩ | refine ⟨fun h => absurd h (by decide), fun _ => ?_⟩ | (refine ⟨fun h => ?_, fun h => ?_⟩ <;> (try simp only [decide_eq_true_eq, decide_eq_false_iff_not, Bool.not_eq_true', Bool.not_eq_false', Bool.not_eq_true, Bool.not_eq_false, not_true_eq_false, beq_iff_eq, beq_eq_false_iff_ne, ne_eq, decide_eq_decide, true_iff, false_iff, iff_true, iff_false, true_and, and_true, false_or, or_false, Bool.and_true, Bool.and_eq_true, Bool.and_eq_false_iff, Bool.or_eq_true, Bool.or_eq_false_iff, List.length_cons, List.length_nil] at h) <;> (try (exfalso; first | omega | exact h rfl | (cases h; done) | exact absurd h (by assumption) | exact h (by assumption) | (simp at h; done)))) | refine ⟨⟨by (first | omega | (simp only [lenS]; omega)), by (first | omega | (simp only [lenS]; omega))⟩, _, by assumption, by rfl, ?_⟩ | refine .inl ⟨⟨by (first | omega | (simp only [lenS]; omega)), by (first | omega | (simp only [lenS]; omega))⟩, ?_⟩ | refine ⟨⟨by (first | omega | (simp only [lenS]; omega)), by (first | omega | (simp only [lenS]; omega))⟩, ?_⟩ | refine ⟨⟨by (first | omega | (simp only [lenS]; omega)), by (first | omega | (simp only [lenS]; omega)), by (first | omega | (simp only [lenS]; omega))⟩, ?_⟩ | refine ⟨.inl rfl, ?_⟩ | refine ⟨.inr (.inl (by (first | omega | (simp only [lenS]; omega)))), ?_⟩ | refine ⟨_, rfl, rfl, by (first | exact Nat.le_refl _ | exact Nat.le_of_ble_eq_true rfl | decide), ?_⟩ | refine ⟨_, rfl, by (first | exact Nat.le_refl _ | exact Nat.le_of_ble_eq_true rfl | decide), ?_⟩ | refine ⟨by (first | exact Nat.le_refl _ | exact Nat.le_of_ble_eq_true rfl | decide | exact rfl), ?_⟩ | refine ⟨show _ ≤ (9223372036854775807 : Nat) by (first | omega | (simp only [lenS]; omega)), ?_⟩ | refine ⟨show _ ≠ (0 : Int) by (first | omega | (simp only [lenS]; omega)), ?_⟩ | refine ⟨_, rfl, _, rfl, ?_⟩ | refine ⟨_, by assumption, Nat.le_of_ble_eq_true rfl, ?_⟩ | refine ⟨_, by assumption, _, rfl, ?_⟩ | refine ⟨_, rfl, ?_⟩ | fail)
  exact ⟨_, _, FinMove.refl _ _ _, rfl, .inr ⟨by simp, by rw [hlen, show s.length - (s.length - n - runN plainB (s.drop n)) = n + runN plainB (s.drop n) by omega]⟩⟩

set_option maxRecDepth 100000 in
theorem next_over (s : List UInt8) (n : Nat) (l : List Tok) (hn : n < s.length) (hs : s.length ≤ 1000000) (hl : l.length ≤ 1000000) (hk : kindL (s.drop n) = 2 ∨ kindL (s.drop n) = 3) :
    CallsAbs Try.prog 37 [.ref 0 0 0] (rdS s n l) (NextK s l (s.drop n)) := by
  have hd1 := left_any s n l (by omega) (rdS s n l) rfl rfl
  have hd2 := plain_any s n l hn (rdS s n l) rfl rfl
  have hd3 := over_ok s n l [62] (by simp) (by simp) (by omega) hs
  have hp : plainB (s.drop n) = false := by unfold plainB; rw [decide_eq_false_iff_not]; omega
  rw [hp] at hd2
  have hc1 := HasPrefix_ok (s.drop n) [60, 33, 45, 45]
  have hc2 := HasPrefix_ok (s.drop n) [60, 47, 62]
  obtain ⟨c, r, hx, hcs⟩ := kind_cases (show kindL (s.drop n) ≠ 0 by omega)
  have hc3 := letter_ok c
  have hlx : (s.drop n).length = s.length - n := by simp
  rcases hcs with ⟨h1, _⟩ | ⟨h0, ⟨h1, h2⟩ | ⟨h1, _⟩ | ⟨rfl, d, r', rfl, ⟨h1, rfl⟩ | ⟨h1, _⟩ | ⟨h1, h2, h3⟩⟩⟩
  · omega
  · have hst : step (s.drop n) = some ([], (s.drop n).drop (toN [62] (s.drop n) + 1)) := by unfold step; rw [h1]; rfl
    unfold NextK
    rw [hst]
    rw [h0] at hc1
    have h3 : hasPre (s.drop n) [60, 47, 62] = false := by
      rw [hx]; rcases h2 with rfl | rfl <;> simp [hasPre]
    rw [h3] at hc2
    have h4 : ltrB c = false := by rcases h2 with rfl | rfl <;> rfl
    rw [h4] at hc3
    have h5 : ¬ (((60 :: c :: r).getD (1 : Int).toNat 0).toNat : Int) = 47 := by
      rcases h2 with rfl | rfl
      · exact (by decide : ¬ ((33 : UInt8).toNat : Int) = 47)
      · exact (by decide : ¬ ((63 : UInt8).toNat : Int) = 47)
    rw [hx] at hd1 hc1 hc2 hlx
    simp only [List.length_cons] at hlx
    refine fn_okT Try.wf Try.tab_ok Try.func37 (by decide +kernel) rfl rfl ?_
    repeat' (first | refine PureC.use hc1 ?_ | refine PureC.use hc2 ?_ | refine PureC.use hc3 ?_ | refine PureC.use hc4 ?_ |        refine CallsAbs.use1 hd1 ?_ | refine CallsAbs.use1 hd2 ?_ | refine CallsAbs.use1 hd3 ?_ |          refine ⟨fun _ => ?_, fun h => absurd h (by decide)⟩ | refine ⟨fun h => absurd h (by decide), fun _ => ?_⟩ | (refine ⟨fun h => ?_, fun h => ?_⟩ <;> (try simp only [decide_eq_true_eq, decide_eq_false_iff_not, Bool.not_eq_true', Bool.not_eq_false', Bool.not_eq_true, Bool.not_eq_false, not_true_eq_false, beq_iff_eq, beq_eq_false_iff_ne, ne_eq, decide_eq_decide, true_iff, false_iff, iff_true, iff_false, true_and, and_true, false_or, or_false, Bool.and_true, Bool.and_eq_true, Bool.and_eq_false_iff, Bool.or_eq_true, Bool.or_eq_false_iff, List.length_cons, List.length_nil] at h) <;> (try (exfalso; first | omega | exact h rfl | (cases h; done) | exact absurd h (by assumption) | exact h (by assumption) | (simp at h; done)))) | refine ⟨⟨by (first | omega | (simp only [lenS]; omega)), by (first | omega | (simp only [lenS]; omega))⟩, _, by assumption, by rfl, ?_⟩ | refine .inl ⟨⟨by (first | omega | (simp only [lenS]; omega)), by (first | omega | (simp only [lenS]; omega))⟩, ?_⟩ | refine ⟨⟨by (first | omega | (simp only [lenS]; omega)), by (first | omega | (simp only [lenS]; omega))⟩, ?_⟩ | refine ⟨⟨by (first | omega | (simp only [lenS]; omega)), by (first | omega | (simp only [lenS]; omega)), by (first | omega | (simp only [lenS]; omega))⟩, ?_⟩ | refine ⟨.inl rfl, ?_⟩ | refine ⟨.inr (.inl (by (first | omega | (simp only [lenS]; omega)))), ?_⟩ | refine ⟨_, rfl, rfl, by (first | exact Nat.le_refl _ | exact Nat.le_of_ble_eq_true rfl | decide), ?_⟩ | refine ⟨_, rfl, by (first | exact Nat.le_refl _ | exact Nat.le_of_ble_eq_true rfl | decide), ?_⟩ | refine ⟨by (first | exact Nat.le_refl _ | exact Nat.le_of_ble_eq_true rfl | decide | exact rfl), ?_⟩ | refine ⟨show _ ≤ (9223372036854775807 : Nat) by (first | omega | (simp only [lenS]; omega)), ?_⟩ | refine ⟨show _ ≠ (0 : Int) by (first | omega | (simp only [lenS]; omega)), ?_⟩ | refine ⟨_, rfl, _, rfl, ?_⟩ | refine ⟨_, by assumption, Nat.le_of_ble_eq_true rfl, ?_⟩ | refine ⟨_, by assumption, _, rfl, ?_⟩ | refine ⟨_, rfl, ?_⟩ | fail)
    exact ⟨_, _, FinMove.refl _ _ _, rfl, .inl ⟨rfl, rfl⟩⟩
  · omega
  · have hst : step (s.drop n) = some ([], (s.drop n).drop 3) := by unfold step; rw [h1]; rfl
    unfold NextK
    rw [hst]
    rw [h0] at hc1
    have h3 : hasPre (s.drop n) [60, 47, 62] = true := by rw [hx]; simp [hasPre]
    rw [h3] at hc2
    have hl3 : ((s.drop n).drop 3).length = s.length - n - 3 := by simp; omega
    rw [hx] at hd1 hc1 hc2 hlx
    simp only [List.length_cons] at hlx
    refine fn_okT Try.wf Try.tab_ok Try.func37 (by decide +kernel) rfl rfl ?_
    repeat' (first | refine PureC.use hc1 ?_ | refine PureC.use hc2 ?_ | refine PureC.use hc3 ?_ | refine PureC.use hc4 ?_ |        refine CallsAbs.use1 hd1 ?_ | refine CallsAbs.use1 hd2 ?_ | refine CallsAbs.use1 hd3 ?_ |          refine ⟨fun _ => ?_, fun h => absurd h (by decide)⟩ | refine ⟨fun h => absurd h (by decide), fun _ => ?_⟩ | (refine ⟨fun h => ?_, fun h => ?_⟩ <;> (try simp only [decide_eq_true_eq, decide_eq_false_iff_not, Bool.not_eq_true', Bool.not_eq_false', Bool.not_eq_true, Bool.not_eq_false, not_true_eq_false, beq_iff_eq, beq_eq_false_iff_ne, ne_eq, decide_eq_decide, true_iff, false_iff, iff_true, iff_false, true_and, and_true, false_or, or_false, Bool.and_true, Bool.and_eq_true, Bool.and_eq_false_iff, Bool.or_eq_true, Bool.or_eq_false_iff, List.length_cons, List.length_nil] at h) <;> (try (exfalso; first | omega | exact h rfl | (cases h; done) | exact absurd h (by assumption) | exact h (by assumption) | (simp at h; done)))) | refine ⟨⟨by (first | omega | (simp only [lenS]; omega)), by (first | omega | (simp only [lenS]; omega))⟩, _, by assumption, by rfl, ?_⟩ | refine .inl ⟨⟨by (first | omega | (simp only [lenS]; omega)), by (first | omega | (simp only [lenS]; omega))⟩, ?_⟩ | refine ⟨⟨by (first | omega | (simp only [lenS]; omega)), by (first | omega | (simp only [lenS]; omega))⟩, ?_⟩ | refine ⟨⟨by (first | omega | (simp only [lenS]; omega)), by (first | omega | (simp only [lenS]; omega)), by (first | omega | (simp only [lenS]; omega))⟩, ?_⟩ | refine ⟨.inl rfl, ?_⟩ | refine ⟨.inr (.inl (by (first | omega | (simp only [lenS]; omega)))), ?_⟩ | refine ⟨_, rfl, rfl, by (first | exact Nat.le_refl _ | exact Nat.le_of_ble_eq_true rfl | decide), ?_⟩ | refine ⟨_, rfl, by (first | exact Nat.le_refl _ | exact Nat.le_of_ble_eq_true rfl | decide), ?_⟩ | refine ⟨by (first | exact Nat.le_refl _ | exact Nat.le_of_ble_eq_true rfl | decide | exact rfl), ?_⟩ | refine ⟨show _ ≤ (9223372036854775807 : Nat) by (first | omega | (simp only [lenS]; omega)), ?_⟩ | refine ⟨show _ ≠ (0 : Int) by (first | omega | (simp only [lenS]; omega)), ?_⟩ | refine ⟨_, rfl, _, rfl, ?_⟩ | refine ⟨_, by assumption, Nat.le_of_ble_eq_true rfl, ?_⟩ | refine ⟨_, by assumption, _, rfl, ?_⟩ | refine ⟨_, rfl, ?_⟩ | fail)
    refine ⟨.d (.bool true), rdS s (s.length - ((s.drop n).drop 3).length) l, ?_, rfl, .inl ⟨rfl, rfl⟩⟩
    rw [hl3]
    exact fin_mv [] rfl rfl rfl (store_out s n _ l _ (by omega)) rfl
  · omega
  · have hst : step (s.drop n) = some ([], (s.drop n).drop (toN [62] (s.drop n) + 1)) := by unfold step; rw [h1]; rfl
    unfold NextK
    rw [hst]
    rw [h0] at hc1
    have h4 : hasPre (s.drop n) [60, 47, 62] = false := by
      rw [hx]; simp [hasPre]; exact h3
    rw [h4] at hc2
    have h5 : ltrB 47 = false := rfl
    rw [h5] at hc3
    have hc4 := letter_ok d
    rw [h2] at hc4
    rw [hx] at hd1 hc1 hc2 hlx
    simp only [List.length_cons] at hlx
    refine fn_okT Try.wf Try.tab_ok Try.func37 (by decide +kernel) rfl rfl ?_
    repeat' (first | refine PureC.use hc1 ?_ | refine PureC.use hc2 ?_ | refine PureC.use hc3 ?_ | refine PureC.use hc4 ?_ |        refine CallsAbs.use1 hd1 ?_ | refine CallsAbs.use1 hd2 ?_ | refine CallsAbs.use1 hd3 ?_ |          refine ⟨fun _ => ?_, fun h => absurd h (by decide)⟩ | refine ⟨fun h => absurd h (by decide), fun _ => ?_⟩ | (refine ⟨fun h => ?_, fun h => ?_⟩ <;> (try simp only [decide_eq_true_eq, decide_eq_false_iff_not, Bool.not_eq_true', Bool.not_eq_false', Bool.not_eq_true, Bool.not_eq_false, not_true_eq_false, beq_iff_eq, beq_eq_false_iff_ne, ne_eq, decide_eq_decide, true_iff, false_iff, iff_true, iff_false, true_and, and_true, false_or, or_false, Bool.and_true, Bool.and_eq_true, Bool.and_eq_false_iff, Bool.or_eq_true, Bool.or_eq_false_iff, List.length_cons, List.length_nil] at h) <;> (try (exfalso; first | omega | exact h rfl | (cases h; done) | exact absurd h (by assumption) | exact h (by assumption) | (simp at h; done)))) | refine ⟨⟨by (first | omega | (simp only [lenS]; omega)), by (first | omega | (simp only [lenS]; omega))⟩, _, by assumption, by rfl, ?_⟩ | refine .inl ⟨⟨by (first | omega | (simp only [lenS]; omega)), by (first | omega | (simp only [lenS]; omega))⟩, ?_⟩ | refine ⟨⟨by (first | omega | (simp only [lenS]; omega)), by (first | omega | (simp only [lenS]; omega))⟩, ?_⟩ | refine ⟨⟨by (first | omega | (simp only [lenS]; omega)), by (first | omega | (simp only [lenS]; omega)), by (first | omega | (simp only [lenS]; omega))⟩, ?_⟩ | refine ⟨.inl rfl, ?_⟩ | refine ⟨.inr (.inl (by (first | omega | (simp only [lenS]; omega)))), ?_⟩ | refine ⟨_, rfl, rfl, by (first | exact Nat.le_refl _ | exact Nat.le_of_ble_eq_true rfl | decide), ?_⟩ | refine ⟨_, rfl, by (first | exact Nat.le_refl _ | exact Nat.le_of_ble_eq_true rfl | decide), ?_⟩ | refine ⟨by (first | exact Nat.le_refl _ | exact Nat.le_of_ble_eq_true rfl | decide | exact rfl), ?_⟩ | refine ⟨show _ ≤ (9223372036854775807 : Nat) by (first | omega | (simp only [lenS]; omega)), ?_⟩ | refine ⟨show _ ≠ (0 : Int) by (first | omega | (simp only [lenS]; omega)), ?_⟩ | refine ⟨_, rfl, _, rfl, ?_⟩ | refine ⟨_, by assumption, Nat.le_of_ble_eq_true rfl, ?_⟩ | refine ⟨_, by assumption, _, rfl, ?_⟩ | refine ⟨_, rfl, ?_⟩ | fail)
    exact ⟨_, _, FinMove.refl _ _ _, rfl, .inl ⟨rfl, rfl⟩⟩

set_option maxRecDepth 100000 in
theorem next_note (s : List UInt8) (n : Nat) (l : List Tok) (hn : n < s.length) (hs : s.length ≤ 1000000) (hl : l.length ≤ 1000000) (hk : kindL (s.drop n) = 1) :
    CallsAbs Try.prog 37 [.ref 0 0 0] (rdS s n l) (NextK s l (s.drop n)) := by
  have hd1 := left_any s n l (by omega) (rdS s n l) rfl rfl
  have hd2 := plain_any s n l hn (rdS s n l) rfl rfl
  have hp : plainB (s.drop n) = false := by unfold plainB; rw [decide_eq_false_iff_not]; omega
  rw [hp] at hd2
  have hc1 := HasPrefix_ok (s.drop n) [60, 33, 45, 45]
  have hlx : (s.drop n).length = s.length - n := by simp
  have h1 : hasPre (s.drop n) [60, 33, 45, 45] = true := by
    obtain ⟨c, r, hx, hcs⟩ := kind_cases (show kindL (s.drop n) ≠ 0 by omega)
    rcases hcs with ⟨_, h, _⟩ | ⟨_, ⟨h, _⟩ | ⟨h, _⟩ | ⟨_, _, _, _, ⟨h, _⟩ | ⟨h, _⟩ | ⟨h, _⟩⟩⟩
    · exact h
    all_goals omega
  have h4 : n + 4 ≤ s.length := by have := hasPre_len h1; rw [hlx] at this; simp only [List.length_cons, List.length_nil] at this; omega
  rw [h1] at hc1
  have hst : step (s.drop n) = some ([noteT ((s.drop (n + 4)).take (toN [45, 45, 62] (s.drop (n + 4))))], (s.drop (n + 4)).drop (toN [45, 45, 62] (s.drop (n + 4)) + 3)) := by rw [← show (s.drop n).drop 4 = s.drop (n + 4) by rw [List.drop_drop]]; unfold step; rw [hk]; rfl
  have hd3 := over_ok s (n + 4) l [45, 45, 62] (by simp) (by simp) (by omega) hs
  have he1 := over_any s (n + 4) l [45, 45, 62] (by simp) (by simp) (by omega) hs
  unfold NextK
  rw [hst]
  generalize (s.drop (n + 4)).take (toN [45, 45, 62] (s.drop (n + 4))) = y at *
  have hm : s.length - ((s.drop (n + 4)).drop (toN [45, 45, 62] (s.drop (n + 4)) + 3)).length = s.length - ((s.drop (n + 4)).drop (toN [45, 45, 62] (s.drop (n + 4)) + ([45, 45, 62] : List UInt8).length)).length := rfl
  dsimp only
  rw [hm]
  clear hm
  generalize s.length - ((s.drop (n + 4)).drop (toN [45, 45, 62] (s.drop (n + 4)) + ([45, 45, 62] : List UInt8).length)).length = m at *
  have hb1 := tok_sub 4 [] y
  refine fn_okT Try.wf Try.tab_ok Try.func37 (by decide +kernel) rfl rfl ?_
  repeat' (first | refine PureC.use hc1 ?_ |           refine CallsAbs.use1 hd1 ?_ | refine CallsAbs.use1 hd2 ?_ | refine CallsAbs.use1 hd3 ?_ |  refine CallsAbs.use1 (he1 _ (by rfl) (by rfl)) ?_ |        refine ⟨fun _ => ?_, fun h => absurd h (by decide)⟩ | refine ⟨fun h => absurd h (by decide), fun _ => ?_⟩ | (refine ⟨fun h => ?_, fun h => ?_⟩ <;> (try simp only [decide_eq_true_eq, decide_eq_false_iff_not, Bool.not_eq_true', Bool.not_eq_false', Bool.not_eq_true, Bool.not_eq_false, not_true_eq_false, beq_iff_eq, beq_eq_false_iff_ne, ne_eq, decide_eq_decide, true_iff, false_iff, iff_true, iff_false, true_and, and_true, false_or, or_false, Bool.and_true, Bool.and_eq_true, Bool.and_eq_false_iff, Bool.or_eq_true, Bool.or_eq_false_iff, List.length_cons, List.length_nil] at h) <;> (try (exfalso; first | omega | exact h rfl | (cases h; done) | exact absurd h (by assumption) | exact h (by assumption) | (simp at h; done)))) | refine ⟨⟨by (first | omega | (simp only [lenS]; omega)), by (first | omega | (simp only [lenS]; omega))⟩, _, by assumption, by rfl, ?_⟩ | refine .inl ⟨⟨by (first | omega | (simp only [lenS]; omega)), by (first | omega | (simp only [lenS]; omega))⟩, ?_⟩ | refine ⟨⟨by (first | omega | (simp only [lenS]; omega)), by (first | omega | (simp only [lenS]; omega))⟩, ?_⟩ | refine ⟨⟨by (first | omega | (simp only [lenS]; omega)), by (first | omega | (simp only [lenS]; omega)), by (first | omega | (simp only [lenS]; omega))⟩, ?_⟩ | refine ⟨.inl rfl, ?_⟩ | refine ⟨.inr (.inl (by (first | omega | (simp only [lenS]; omega)))), ?_⟩ | refine ⟨_, rfl, rfl, by (first | exact Nat.le_refl _ | exact Nat.le_of_ble_eq_true rfl | decide), ?_⟩ | refine ⟨_, rfl, by (first | exact Nat.le_refl _ | exact Nat.le_of_ble_eq_true rfl | decide), ?_⟩ | refine ⟨by (first | exact Nat.le_refl _ | exact Nat.le_of_ble_eq_true rfl | decide | exact rfl), ?_⟩ | refine ⟨show _ ≤ (9223372036854775807 : Nat) by (first | omega | (simp only [lenS]; omega)), ?_⟩ | refine ⟨show _ ≠ (0 : Int) by (first | omega | (simp only [lenS]; omega)), ?_⟩ | refine ⟨_, rfl, _, rfl, ?_⟩ | refine ⟨_, by assumption, Nat.le_of_ble_eq_true rfl, ?_⟩ | refine ⟨_, by assumption, _, rfl, ?_⟩ | refine ⟨_, rfl, ?_⟩ | fail)
  refine E.view (s' := [(0, .ref 0 0 0)]) (σ' := rdS s (n + 4) l) (Mv.of [] rfl rfl rfl ⟨⟨rfl, .inl ⟨rfl, dataA_pure _⟩⟩, ⟨rfl, .inr ⟨⟨rfl, rfl, ⟨rfl, rfl, rfl⟩, trivial⟩, trivial⟩⟩, trivial⟩ ⟨⟨rfl, rfl, rfl⟩, trivial⟩) ?_
  refine drawnZ Try.wf Try.tab_ok [6, 9, 12] (fun t => match t with
    | 0 => rdS s (n + 4) l
    | 1 => rdS s m l
    | 2 => ⟨3, [(2, outO (l ++ [noteT y])), (0, rdO s m l.length)]⟩
    | _ => rdS2 s m (l ++ [noteT y])) rfl Try.mixed (by decide +kernel) ?_
  iterate 4 refine zblind (by decide +kernel) rfl rfl (fun _ => FinMove.refl _ _ _) ?_
  refine zreadL [0, 1] (by decide +kernel) rfl rfl ⟨⟨_, rfl, _, rfl, FinMove.refl _ _ _⟩, ⟨_, rfl, _, rfl, FinMove.refl _ _ _⟩, trivial⟩ ?_
  refine zblind (by decide +kernel) rfl rfl (fun _ => FinMove.refl _ _ _) ?_
  refine zeff (r := .d (.str y)) rfl rfl rfl (CallsAbs.use1 hd3 (FinMove.refl _ _ _)) ?_
  refine zblind (by decide +kernel) rfl rfl (fun _ => hb1 _) ?_
  refine zreadL (r := .d (.sl [tokD (noteT y)])) [1] (by decide +kernel) rfl rfl ⟨fin_lit rfl rfl rfl ⟨⟨rfl, .inl ⟨rfl, dataA_pure _⟩⟩, ⟨rfl, .inr ⟨⟨rfl, rfl, ⟨rfl, rfl, rfl⟩, trivial⟩, trivial⟩⟩, trivial⟩, trivial⟩ ?_
  refine zeff (r := .own 2 0 (l ++ [noteT y]).length) rfl rfl rfl ?_ ?_
  · refine out_app l (noteT y) (rdS s m l) (fun v σ' => FinMove (rdS s m l) v σ' (.own 2 0 (l ++ [noteT y]).length) ⟨3, [(2, outO (l ++ [noteT y])), (0, rdO s m l.length)]⟩) rfl hl ?_
    exact fin_mv [.old 2] rfl rfl rfl ⟨⟨rfl, .inl ⟨rfl, dataA_pure _⟩⟩, ⟨rfl, .inr ⟨⟨rfl, rfl, ⟨rfl, rfl, rfl⟩, trivial⟩, trivial⟩⟩, trivial⟩ ⟨rfl, rfl, rfl⟩
  iterate 2 refine zblind (by decide +kernel) rfl rfl (fun _ => FinMove.refl _ _ _) ?_
  refine zeff rfl rfl rfl ⟨_, rfl, rfl, Nat.le_of_ble_eq_true rfl, fin_mv (r' := .top) [] rfl rfl rfl ⟨⟨rfl, .inl ⟨rfl, dataA_pure _⟩⟩, ⟨rfl, .inr ⟨⟨rfl, rfl, ⟨rfl, rfl, rfl⟩, trivial⟩, trivial⟩⟩, trivial⟩ trivial⟩ ?_
  repeat' (first | refine PureC.use hc1 ?_ |           refine CallsAbs.use1 hd1 ?_ | refine CallsAbs.use1 hd2 ?_ | refine CallsAbs.use1 hd3 ?_ |  refine CallsAbs.use1 (he1 _ (by rfl) (by rfl)) ?_ |        refine ⟨fun _ => ?_, fun h => absurd h (by decide)⟩ | refine ⟨fun h => absurd h (by decide), fun _ => ?_⟩ | (refine ⟨fun h => ?_, fun h => ?_⟩ <;> (try simp only [decide_eq_true_eq, decide_eq_false_iff_not, Bool.not_eq_true', Bool.not_eq_false', Bool.not_eq_true, Bool.not_eq_false, not_true_eq_false, beq_iff_eq, beq_eq_false_iff_ne, ne_eq, decide_eq_decide, true_iff, false_iff, iff_true, iff_false, true_and, and_true, false_or, or_false, Bool.and_true, Bool.and_eq_true, Bool.and_eq_false_iff, Bool.or_eq_true, Bool.or_eq_false_iff, List.length_cons, List.length_nil] at h) <;> (try (exfalso; first | omega | exact h rfl | (cases h; done) | exact absurd h (by assumption) | exact h (by assumption) | (simp at h; done)))) | refine ⟨⟨by (first | omega | (simp only [lenS]; omega)), by (first | omega | (simp only [lenS]; omega))⟩, _, by assumption, by rfl, ?_⟩ | refine .inl ⟨⟨by (first | omega | (simp only [lenS]; omega)), by (first | omega | (simp only [lenS]; omega))⟩, ?_⟩ | refine ⟨⟨by (first | omega | (simp only [lenS]; omega)), by (first | omega | (simp only [lenS]; omega))⟩, ?_⟩ | refine ⟨⟨by (first | omega | (simp only [lenS]; omega)), by (first | omega | (simp only [lenS]; omega)), by (first | omega | (simp only [lenS]; omega))⟩, ?_⟩ | refine ⟨.inl rfl, ?_⟩ | refine ⟨.inr (.inl (by (first | omega | (simp only [lenS]; omega)))), ?_⟩ | refine ⟨_, rfl, rfl, by (first | exact Nat.le_refl _ | exact Nat.le_of_ble_eq_true rfl | decide), ?_⟩ | refine ⟨_, rfl, by (first | exact Nat.le_refl _ | exact Nat.le_of_ble_eq_true rfl | decide), ?_⟩ | refine ⟨by (first | exact Nat.le_refl _ | exact Nat.le_of_ble_eq_true rfl | decide | exact rfl), ?_⟩ | refine ⟨show _ ≤ (9223372036854775807 : Nat) by (first | omega | (simp only [lenS]; omega)), ?_⟩ | refine ⟨show _ ≠ (0 : Int) by (first | omega | (simp only [lenS]; omega)), ?_⟩ | refine ⟨_, rfl, _, rfl, ?_⟩ | refine ⟨_, by assumption, Nat.le_of_ble_eq_true rfl, ?_⟩ | refine ⟨_, by assumption, _, rfl, ?_⟩ | refine ⟨_, rfl, ?_⟩ | fail)
  exact ⟨_, _, FinMove.refl _ _ _, rfl, .inr ⟨by simp, rfl⟩⟩

theorem rd_anyE {f : FuncId} {args : List AV} {r0 : AV} (hc : Callable Try.prog f) {s : List UInt8} {n : Nat} {l : List Tok} (hp : pureL args = true) (hr : r0.pure = true)
    (h : CallsAbs Try.prog f (.ref 0 0 0 :: args) (rdS s n l) fun r σ' => ∃ m, m ≤ s.length ∧ r = r0 ∧ σ' = rdS s m l) (σ : Store) (h0 : σ.get 0 = rdO s n l.length) (h1 : σ.get 1 = outO l) :
    CallsAbs Try.prog f (.ref 0 0 0 :: args) σ fun r σ' => ∃ m, m ≤ s.length ∧ r = r0 ∧ σ' = ⟨σ.n, (0, rdO s m l.length) :: (1, outO l) :: σ.objs⟩ := by
  rcases Nat.lt_or_ge 1 σ.n with hn | hn
  · obtain ⟨k, objs⟩ := σ
    obtain ⟨k, rfl⟩ : ∃ j, k = j + 2 := ⟨k - 2, by dsimp only at hn; omega⟩
    refine CallsAbs.frame h [.old 0, .old 1] ⟨Nat.zero_le _, rfl, by simp [goodr, idx], ⟨?_, ?_, trivial⟩⟩ ⟨⟨rfl, rfl, rfl⟩, vrelL_self args hp⟩ ?_
    · show orel _ (outO l) (Store.get ⟨k + 2, objs⟩ 1)
      rw [h1]
      exact ⟨rfl, .inl ⟨rfl, dataA_pure _⟩⟩
    · show orel _ (rdO s n l.length) (Store.get ⟨k + 2, objs⟩ 0)
      rw [h0]
      exact ⟨rfl, .inr ⟨⟨rfl, rfl, ⟨rfl, rfl, rfl⟩, trivial⟩, trivial⟩⟩
    · rintro _ _ ⟨m, hm, rfl, rfl⟩
      exact ⟨_, [(0, rdO s m l.length), (1, outO l)], ⟨⟨rfl, .inr ⟨⟨rfl, rfl, ⟨rfl, rfl, rfl⟩, trivial⟩, trivial⟩⟩, ⟨rfl, .inl ⟨rfl, dataA_pure _⟩⟩, trivial⟩, rfl, vrel_self _ hr, m, hm, rfl, rfl⟩
  · exact .inl ⟨hc, fun g w vs R hL => by
      have := R.dead 1 (by rw [← R.n]; exact hn)
      rw [h1] at this; cases this⟩

theorem tag_some (s : List UInt8) (n : Nat) (l : List Tok) (hn : n ≤ s.length) (hs : s.length ≤ 1000000) {nm : List UInt8} {cl : Bool} {ats : List Attr} {rest : List UInt8} (ht : tagAt (s.drop n) = some (nm, cl, ats, rest)) (σ : Store) (h0 : σ.get 0 = rdO s n l.length) (h1 : σ.get 1 = outO l) :
    CallsAbs Try.prog 54 [.ref 0 0 0] σ fun r σ' => r = .tup [.agg ((tokD (startT nm cl ats)).map .d), .d (.bool true)] ∧ σ' = ⟨σ.n, (0, rdO s (s.length - rest.length) l.length) :: (1, outO l) :: σ.objs⟩ :=
  rd_any ⟨_, Try.func54, by decide +kernel, rfl⟩ rfl rfl (by have := tag_ok s n l hn hs; rw [ht] at this; exact this) σ h0 h1
theorem tag_none (s : List UInt8) (n : Nat) (l : List Tok) (hn : n ≤ s.length) (hs : s.length ≤ 1000000) (ht : tagAt (s.drop n) = none) (σ : Store) (h0 : σ.get 0 = rdO s n l.length) (h1 : σ.get 1 = outO l) :
    CallsAbs Try.prog 54 [.ref 0 0 0] σ fun r σ' => ∃ m, m ≤ s.length ∧ r = .tup [.agg ((tokD ⟨0, [], [], false, []⟩).map .d), .d (.bool false)] ∧ σ' = ⟨σ.n, (0, rdO s m l.length) :: (1, outO l) :: σ.objs⟩ :=
  rd_anyE ⟨_, Try.func54, by decide +kernel, rfl⟩ rfl rfl (by have := tag_ok s n l hn hs; rw [ht] at this; exact this) σ h0 h1

/-- What the tests of 'next' say where a tag begins. -/
theorem tag_tests {x : List UInt8} (hk : kindL x = 4 ∨ kindL x = 5) : ∃ c r, x = 60 :: c :: r ∧ hasPre x [60, 33, 45, 45] = false ∧ hasPre x [60, 47, 62] = false ∧
    ((kindL x = 4 ∧ ltrB c = true) ∨ (kindL x = 5 ∧ ltrB c = false ∧ c = 47 ∧ ∃ d r', r = d :: r' ∧ ltrB d = true)) := by
  obtain ⟨c, r, hx, hcs⟩ := kind_cases (show kindL x ≠ 0 by omega)
  refine ⟨c, r, hx, ?_⟩
  rcases hcs with ⟨h, _⟩ | ⟨h0, ⟨h, _⟩ | ⟨h, h2, h3⟩ | ⟨rfl, d, r', rfl, ⟨h, _⟩ | ⟨h, h2, h3⟩ | ⟨h, _⟩⟩⟩
  · omega
  · omega
  · refine ⟨h0, ?_, .inl ⟨h, h2⟩⟩
    rw [hx]; simp [hasPre, h3]
  · omega
  · refine ⟨h0, ?_, .inr ⟨h, rfl, rfl, d, r', rfl, h2⟩⟩
    rw [hx]; simp [hasPre, h3]
  · omega

set_option maxRecDepth 100000 in
theorem next_stop (s : List UInt8) (n : Nat) (l : List Tok) (hn : n < s.length) (hs : s.length ≤ 1000000) (hl : l.length ≤ 1000000) (hk : kindL (s.drop n) = 4 ∨ kindL (s.drop n) = 5) (hst : step (s.drop n) = none) :
    CallsAbs Try.prog 37 [.ref 0 0 0] (rdS s n l) (NextK s l (s.drop n)) := by
  have hd1 := left_any s n l (by omega) (rdS s n l) rfl rfl
  have hd2 := plain_any s n l hn (rdS s n l) rfl rfl
  have hp : plainB (s.drop n) = false := by unfold plainB; rw [decide_eq_false_iff_not]; omega
  rw [hp] at hd2
  have hc1 := HasPrefix_ok (s.drop n) [60, 33, 45, 45]
  have hc2 := HasPrefix_ok (s.drop n) [60, 47, 62]
  have hlx : (s.drop n).length = s.length - n := by simp
  obtain ⟨c, r, hx, h1, h2, h3⟩ := tag_tests hk
  unfold NextK
  rw [hst]
  rw [h1] at hc1
  rw [h2] at hc2
  have hc3 := letter_ok c
  unfold step at hst
  have hlx2 := hlx
  rw [hx] at hd1 hc1 hc2 hlx
  simp only [List.length_cons] at hlx
  rcases h3 with ⟨h3, h4⟩ | ⟨h3, h4, rfl, d, r', rfl, h5⟩
  · rw [h4] at hc3
    have ht : tagAt (s.drop (n + 1)) = none := by
      rw [← List.drop_drop]
      cases ht : tagAt ((s.drop n).drop 1) with
      | none => rfl
      | some t =>
        simp only [h3, ht] at hst
        by_cases hb : rawB t.1 = true
        · rw [if_pos hb] at hst; cases hst
        · rw [if_neg hb] at hst; cases hst
    have ht2 := tag_none s (n + 1) l (by omega) hs ht
    refine fn_okT Try.wf Try.tab_ok Try.func37 (by decide +kernel) rfl rfl ?_
    repeat' (first | refine PureC.use hc1 ?_ | refine PureC.use hc2 ?_ | refine PureC.use hc3 ?_ | refine PureC.use hc4 ?_ |        refine CallsAbs.use1 hd1 ?_ | refine CallsAbs.use1 hd2 ?_ |           refine ⟨fun _ => ?_, fun h => absurd h (by decide)⟩ | refine ⟨fun h => absurd h (by decide), fun _ => ?_⟩ | (refine ⟨fun h => ?_, fun h => ?_⟩ <;> (try simp only [decide_eq_true_eq, decide_eq_false_iff_not, Bool.not_eq_true', Bool.not_eq_false', Bool.not_eq_true, Bool.not_eq_false, not_true_eq_false, beq_iff_eq, beq_eq_false_iff_ne, ne_eq, decide_eq_decide, true_iff, false_iff, iff_true, iff_false, true_and, and_true, false_or, or_false, Bool.and_true, Bool.and_eq_true, Bool.and_eq_false_iff, Bool.or_eq_true, Bool.or_eq_false_iff, List.length_cons, List.length_nil] at h) <;> (try (exfalso; first | omega | exact h rfl | (cases h; done) | exact absurd h (by assumption) | exact h (by assumption) | (simp at h; done)))) | refine ⟨⟨by (first | omega | (simp only [lenS]; omega)), by (first | omega | (simp only [lenS]; omega))⟩, _, by assumption, by rfl, ?_⟩ | refine .inl ⟨⟨by (first | omega | (simp only [lenS]; omega)), by (first | omega | (simp only [lenS]; omega))⟩, ?_⟩ | refine ⟨⟨by (first | omega | (simp only [lenS]; omega)), by (first | omega | (simp only [lenS]; omega))⟩, ?_⟩ | refine ⟨⟨by (first | omega | (simp only [lenS]; omega)), by (first | omega | (simp only [lenS]; omega)), by (first | omega | (simp only [lenS]; omega))⟩, ?_⟩ | refine ⟨.inl rfl, ?_⟩ | refine ⟨.inr (.inl (by (first | omega | (simp only [lenS]; omega)))), ?_⟩ | refine ⟨_, rfl, rfl, by (first | exact Nat.le_refl _ | exact Nat.le_of_ble_eq_true rfl | decide), ?_⟩ | refine ⟨_, rfl, by (first | exact Nat.le_refl _ | exact Nat.le_of_ble_eq_true rfl | decide), ?_⟩ | refine ⟨by (first | exact Nat.le_refl _ | exact Nat.le_of_ble_eq_true rfl | decide | exact rfl), ?_⟩ | refine ⟨show _ ≤ (9223372036854775807 : Nat) by (first | omega | (simp only [lenS]; omega)), ?_⟩ | refine ⟨show _ ≠ (0 : Int) by (first | omega | (simp only [lenS]; omega)), ?_⟩ | refine ⟨_, rfl, _, rfl, ?_⟩ | refine ⟨_, by assumption, Nat.le_of_ble_eq_true rfl, ?_⟩ | refine ⟨_, by assumption, _, rfl, ?_⟩ | refine ⟨_, rfl, ?_⟩ | fail)
    refine (ht2 _ rfl rfl).mono ?_
    rintro _ _ ⟨m, hm, rfl, rfl⟩
    repeat' (first | refine PureC.use hc1 ?_ | refine PureC.use hc2 ?_ | refine PureC.use hc3 ?_ | refine PureC.use hc4 ?_ |        refine CallsAbs.use1 hd1 ?_ | refine CallsAbs.use1 hd2 ?_ |           refine ⟨fun _ => ?_, fun h => absurd h (by decide)⟩ | refine ⟨fun h => absurd h (by decide), fun _ => ?_⟩ | (refine ⟨fun h => ?_, fun h => ?_⟩ <;> (try simp only [decide_eq_true_eq, decide_eq_false_iff_not, Bool.not_eq_true', Bool.not_eq_false', Bool.not_eq_true, Bool.not_eq_false, not_true_eq_false, beq_iff_eq, beq_eq_false_iff_ne, ne_eq, decide_eq_decide, true_iff, false_iff, iff_true, iff_false, true_and, and_true, false_or, or_false, Bool.and_true, Bool.and_eq_true, Bool.and_eq_false_iff, Bool.or_eq_true, Bool.or_eq_false_iff, List.length_cons, List.length_nil] at h) <;> (try (exfalso; first | omega | exact h rfl | (cases h; done) | exact absurd h (by assumption) | exact h (by assumption) | (simp at h; done)))) | refine ⟨⟨by (first | omega | (simp only [lenS]; omega)), by (first | omega | (simp only [lenS]; omega))⟩, _, by assumption, by rfl, ?_⟩ | refine .inl ⟨⟨by (first | omega | (simp only [lenS]; omega)), by (first | omega | (simp only [lenS]; omega))⟩, ?_⟩ | refine ⟨⟨by (first | omega | (simp only [lenS]; omega)), by (first | omega | (simp only [lenS]; omega))⟩, ?_⟩ | refine ⟨⟨by (first | omega | (simp only [lenS]; omega)), by (first | omega | (simp only [lenS]; omega)), by (first | omega | (simp only [lenS]; omega))⟩, ?_⟩ | refine ⟨.inl rfl, ?_⟩ | refine ⟨.inr (.inl (by (first | omega | (simp only [lenS]; omega)))), ?_⟩ | refine ⟨_, rfl, rfl, by (first | exact Nat.le_refl _ | exact Nat.le_of_ble_eq_true rfl | decide), ?_⟩ | refine ⟨_, rfl, by (first | exact Nat.le_refl _ | exact Nat.le_of_ble_eq_true rfl | decide), ?_⟩ | refine ⟨by (first | exact Nat.le_refl _ | exact Nat.le_of_ble_eq_true rfl | decide | exact rfl), ?_⟩ | refine ⟨show _ ≤ (9223372036854775807 : Nat) by (first | omega | (simp only [lenS]; omega)), ?_⟩ | refine ⟨show _ ≠ (0 : Int) by (first | omega | (simp only [lenS]; omega)), ?_⟩ | refine ⟨_, rfl, _, rfl, ?_⟩ | refine ⟨_, by assumption, Nat.le_of_ble_eq_true rfl, ?_⟩ | refine ⟨_, by assumption, _, rfl, ?_⟩ | refine ⟨_, rfl, ?_⟩ | fail)
    exact ⟨.d (.bool false), rdS s m l, fin_mv [] rfl rfl rfl ⟨⟨rfl, .inl ⟨rfl, dataA_pure _⟩⟩, ⟨rfl, .inr ⟨⟨rfl, rfl, ⟨rfl, rfl, rfl⟩, trivial⟩, trivial⟩⟩, trivial⟩ rfl, m, hm, rfl, rfl⟩
  · rw [h4] at hc3
    have hc4 := letter_ok d
    rw [h5] at hc4
    have ht : tagAt (s.drop (n + 2)) = none := by
      rw [← List.drop_drop]
      cases ht : tagAt ((s.drop n).drop 2) with
      | none => rfl
      | some t =>
        simp only [h3, ht] at hst
        cases hst
    have ht2 := tag_none s (n + 2) l (by simp only [List.length_cons] at hlx; omega) hs ht
    simp only [List.length_cons] at hlx
    refine fn_okT Try.wf Try.tab_ok Try.func37 (by decide +kernel) rfl rfl ?_
    repeat' (first | refine PureC.use hc1 ?_ | refine PureC.use hc2 ?_ | refine PureC.use hc3 ?_ | refine PureC.use hc4 ?_ |        refine CallsAbs.use1 hd1 ?_ | refine CallsAbs.use1 hd2 ?_ |           refine ⟨fun _ => ?_, fun h => absurd h (by decide)⟩ | refine ⟨fun h => absurd h (by decide), fun _ => ?_⟩ | (refine ⟨fun h => ?_, fun h => ?_⟩ <;> (try simp only [decide_eq_true_eq, decide_eq_false_iff_not, Bool.not_eq_true', Bool.not_eq_false', Bool.not_eq_true, Bool.not_eq_false, not_true_eq_false, beq_iff_eq, beq_eq_false_iff_ne, ne_eq, decide_eq_decide, true_iff, false_iff, iff_true, iff_false, true_and, and_true, false_or, or_false, Bool.and_true, Bool.and_eq_true, Bool.and_eq_false_iff, Bool.or_eq_true, Bool.or_eq_false_iff, List.length_cons, List.length_nil] at h) <;> (try (exfalso; first | omega | exact h rfl | (cases h; done) | exact absurd h (by assumption) | exact h (by assumption) | (simp at h; done)))) | refine ⟨⟨by (first | omega | (simp only [lenS]; omega)), by (first | omega | (simp only [lenS]; omega))⟩, _, by assumption, by rfl, ?_⟩ | refine .inl ⟨⟨by (first | omega | (simp only [lenS]; omega)), by (first | omega | (simp only [lenS]; omega))⟩, ?_⟩ | refine ⟨⟨by (first | omega | (simp only [lenS]; omega)), by (first | omega | (simp only [lenS]; omega))⟩, ?_⟩ | refine ⟨⟨by (first | omega | (simp only [lenS]; omega)), by (first | omega | (simp only [lenS]; omega)), by (first | omega | (simp only [lenS]; omega))⟩, ?_⟩ | refine ⟨.inl rfl, ?_⟩ | refine ⟨.inr (.inl (by (first | omega | (simp only [lenS]; omega)))), ?_⟩ | refine ⟨_, rfl, rfl, by (first | exact Nat.le_refl _ | exact Nat.le_of_ble_eq_true rfl | decide), ?_⟩ | refine ⟨_, rfl, by (first | exact Nat.le_refl _ | exact Nat.le_of_ble_eq_true rfl | decide), ?_⟩ | refine ⟨by (first | exact Nat.le_refl _ | exact Nat.le_of_ble_eq_true rfl | decide | exact rfl), ?_⟩ | refine ⟨show _ ≤ (9223372036854775807 : Nat) by (first | omega | (simp only [lenS]; omega)), ?_⟩ | refine ⟨show _ ≠ (0 : Int) by (first | omega | (simp only [lenS]; omega)), ?_⟩ | refine ⟨_, rfl, _, rfl, ?_⟩ | refine ⟨_, by assumption, Nat.le_of_ble_eq_true rfl, ?_⟩ | refine ⟨_, by assumption, _, rfl, ?_⟩ | refine ⟨_, rfl, ?_⟩ | fail)
    refine (ht2 _ rfl rfl).mono ?_
    rintro _ _ ⟨m, hm, rfl, rfl⟩
    repeat' (first | refine PureC.use hc1 ?_ | refine PureC.use hc2 ?_ | refine PureC.use hc3 ?_ | refine PureC.use hc4 ?_ |        refine CallsAbs.use1 hd1 ?_ | refine CallsAbs.use1 hd2 ?_ |           refine ⟨fun _ => ?_, fun h => absurd h (by decide)⟩ | refine ⟨fun h => absurd h (by decide), fun _ => ?_⟩ | (refine ⟨fun h => ?_, fun h => ?_⟩ <;> (try simp only [decide_eq_true_eq, decide_eq_false_iff_not, Bool.not_eq_true', Bool.not_eq_false', Bool.not_eq_true, Bool.not_eq_false, not_true_eq_false, beq_iff_eq, beq_eq_false_iff_ne, ne_eq, decide_eq_decide, true_iff, false_iff, iff_true, iff_false, true_and, and_true, false_or, or_false, Bool.and_true, Bool.and_eq_true, Bool.and_eq_false_iff, Bool.or_eq_true, Bool.or_eq_false_iff, List.length_cons, List.length_nil] at h) <;> (try (exfalso; first | omega | exact h rfl | (cases h; done) | exact absurd h (by assumption) | exact h (by assumption) | (simp at h; done)))) | refine ⟨⟨by (first | omega | (simp only [lenS]; omega)), by (first | omega | (simp only [lenS]; omega))⟩, _, by assumption, by rfl, ?_⟩ | refine .inl ⟨⟨by (first | omega | (simp only [lenS]; omega)), by (first | omega | (simp only [lenS]; omega))⟩, ?_⟩ | refine ⟨⟨by (first | omega | (simp only [lenS]; omega)), by (first | omega | (simp only [lenS]; omega))⟩, ?_⟩ | refine ⟨⟨by (first | omega | (simp only [lenS]; omega)), by (first | omega | (simp only [lenS]; omega)), by (first | omega | (simp only [lenS]; omega))⟩, ?_⟩ | refine ⟨.inl rfl, ?_⟩ | refine ⟨.inr (.inl (by (first | omega | (simp only [lenS]; omega)))), ?_⟩ | refine ⟨_, rfl, rfl, by (first | exact Nat.le_refl _ | exact Nat.le_of_ble_eq_true rfl | decide), ?_⟩ | refine ⟨_, rfl, by (first | exact Nat.le_refl _ | exact Nat.le_of_ble_eq_true rfl | decide), ?_⟩ | refine ⟨by (first | exact Nat.le_refl _ | exact Nat.le_of_ble_eq_true rfl | decide | exact rfl), ?_⟩ | refine ⟨show _ ≤ (9223372036854775807 : Nat) by (first | omega | (simp only [lenS]; omega)), ?_⟩ | refine ⟨show _ ≠ (0 : Int) by (first | omega | (simp only [lenS]; omega)), ?_⟩ | refine ⟨_, rfl, _, rfl, ?_⟩ | refine ⟨_, by assumption, Nat.le_of_ble_eq_true rfl, ?_⟩ | refine ⟨_, by assumption, _, rfl, ?_⟩ | refine ⟨_, rfl, ?_⟩ | fail)
    exact ⟨.d (.bool false), rdS s m l, fin_mv [] rfl rfl rfl ⟨⟨rfl, .inl ⟨rfl, dataA_pure _⟩⟩, ⟨rfl, .inr ⟨⟨rfl, rfl, ⟨rfl, rfl, rfl⟩, trivial⟩, trivial⟩⟩, trivial⟩ rfl, m, hm, rfl, rfl⟩

def rdOj (j : Nat) (s : List UInt8) (n : Nat) (m : Nat) : Ob := .rows (3, 64) [[.d (.str s), .d (.int .i64 n), .own j 0 m]]
def tkO (t : Tok) : Ob := .rows (5, 37) [(tokD t).map .d]
theorem tk_pure (t : Tok) : ∀ row ∈ [(tokD t).map AV.d], pureL row = true := fun row h => by rw [List.mem_singleton.1 h]; rfl

set_option maxRecDepth 100000 in
theorem next_end (s : List UInt8) (n : Nat) (l : List Tok) (hn : n < s.length) (hs : s.length ≤ 1000000) (hl : l.length ≤ 1000000) (hk : kindL (s.drop n) = 5) {nm : List UInt8} {cl : Bool} {ats : List Attr} {rest : List UInt8} (ht : tagAt (s.drop (n + 2)) = some (nm, cl, ats, rest)) :
    CallsAbs Try.prog 37 [.ref 0 0 0] (rdS s n l) (NextK s l (s.drop n)) := by
  have hd1 := left_any s n l (by omega) (rdS s n l) rfl rfl
  have hd2 := plain_any s n l hn (rdS s n l) rfl rfl
  have hp : plainB (s.drop n) = false := by unfold plainB; rw [decide_eq_false_iff_not]; omega
  rw [hp] at hd2
  have hc1 := HasPrefix_ok (s.drop n) [60, 33, 45, 45]
  have hc2 := HasPrefix_ok (s.drop n) [60, 47, 62]
  have hlx : (s.drop n).length = s.length - n := by simp
  obtain ⟨c, r, hx, h1, h2, h3⟩ := tag_tests (.inr hk)
  rcases h3 with ⟨h3, _⟩ | ⟨h3, h4, rfl, d, r', rfl, h5⟩
  · omega
  have hst : step (s.drop n) = some ([endT nm], rest) := by
    have ht' : tagAt ((s.drop n).drop 2) = some (nm, cl, ats, rest) := by rw [List.drop_drop]; exact ht
    unfold step
    simp only [h3, ht']
  unfold NextK
  rw [hst]
  rw [h1] at hc1
  rw [h2] at hc2
  have hc3 := letter_ok 47
  have hc4 := letter_ok d
  rw [h4] at hc3
  rw [h5] at hc4
  rw [hx] at hd1 hc1 hc2 hlx
  simp only [List.length_cons] at hlx
  have he1 := tag_some s (n + 2) l (by omega) hs ht
  dsimp only
  generalize s.length - rest.length = m at *
  have hb1 := tok_sub 3 nm []
  refine fn_okT Try.wf Try.tab_ok Try.func37 (by decide +kernel) rfl rfl ?_
  repeat' (first | refine PureC.use hc1 ?_ | refine PureC.use hc2 ?_ | refine PureC.use hc3 ?_ | refine PureC.use hc4 ?_ |        refine CallsAbs.use1 hd1 ?_ | refine CallsAbs.use1 hd2 ?_ |   refine CallsAbs.use1 (he1 _ (by rfl) (by rfl)) ?_ |        refine ⟨fun _ => ?_, fun h => absurd h (by decide)⟩ | refine ⟨fun h => absurd h (by decide), fun _ => ?_⟩ | (refine ⟨fun h => ?_, fun h => ?_⟩ <;> (try simp only [decide_eq_true_eq, decide_eq_false_iff_not, Bool.not_eq_true', Bool.not_eq_false', Bool.not_eq_true, Bool.not_eq_false, not_true_eq_false, beq_iff_eq, beq_eq_false_iff_ne, ne_eq, decide_eq_decide, true_iff, false_iff, iff_true, iff_false, true_and, and_true, false_or, or_false, Bool.and_true, Bool.and_eq_true, Bool.and_eq_false_iff, Bool.or_eq_true, Bool.or_eq_false_iff, List.length_cons, List.length_nil] at h) <;> (try (exfalso; first | omega | exact h rfl | (cases h; done) | exact absurd h (by assumption) | exact h (by assumption) | (simp at h; done)))) | refine ⟨⟨by (first | omega | (simp only [lenS]; omega)), by (first | omega | (simp only [lenS]; omega))⟩, _, by assumption, by rfl, ?_⟩ | refine .inl ⟨⟨by (first | omega | (simp only [lenS]; omega)), by (first | omega | (simp only [lenS]; omega))⟩, ?_⟩ | refine ⟨⟨by (first | omega | (simp only [lenS]; omega)), by (first | omega | (simp only [lenS]; omega))⟩, ?_⟩ | refine ⟨⟨by (first | omega | (simp only [lenS]; omega)), by (first | omega | (simp only [lenS]; omega)), by (first | omega | (simp only [lenS]; omega))⟩, ?_⟩ | refine ⟨.inl rfl, ?_⟩ | refine ⟨.inr (.inl (by (first | omega | (simp only [lenS]; omega)))), ?_⟩ | refine ⟨_, rfl, rfl, by (first | exact Nat.le_refl _ | exact Nat.le_of_ble_eq_true rfl | decide), ?_⟩ | refine ⟨_, rfl, by (first | exact Nat.le_refl _ | exact Nat.le_of_ble_eq_true rfl | decide), ?_⟩ | refine ⟨by (first | exact Nat.le_refl _ | exact Nat.le_of_ble_eq_true rfl | decide | exact rfl), ?_⟩ | refine ⟨show _ ≤ (9223372036854775807 : Nat) by (first | omega | (simp only [lenS]; omega)), ?_⟩ | refine ⟨show _ ≠ (0 : Int) by (first | omega | (simp only [lenS]; omega)), ?_⟩ | refine ⟨_, rfl, _, rfl, ?_⟩ | refine ⟨_, by assumption, Nat.le_of_ble_eq_true rfl, ?_⟩ | refine ⟨_, by assumption, _, rfl, ?_⟩ | refine ⟨_, rfl, ?_⟩ | fail)
  refine E.view (s' := [(0, .ref 0 0 0), (8, .ref 2 0 0)]) (σ' := ⟨3, [(2, tkO (startT nm cl ats)), (1, outO l), (0, rdO s m l.length)]⟩) (Mv.of [.old 2] rfl rfl rfl ⟨⟨rfl, .inl ⟨rfl, tk_pure _⟩⟩, ⟨rfl, .inl ⟨rfl, dataA_pure _⟩⟩, ⟨rfl, .inr ⟨⟨rfl, rfl, ⟨rfl, rfl, rfl⟩, trivial⟩, trivial⟩⟩, trivial⟩ ⟨⟨rfl, rfl, rfl⟩, ⟨rfl, rfl, rfl⟩, trivial⟩) ?_
  refine drawnZ Try.wf Try.tab_ok [9, 12] (fun t => match t with
    | 0 => ⟨3, [(2, tkO (startT nm cl ats)), (1, outO l), (0, rdO s m l.length)]⟩
    | 1 => ⟨4, [(3, outO (l ++ [endT nm])), (2, tkO (startT nm cl ats)), (0, rdO s m l.length)]⟩
    | _ => ⟨4, [(3, outO (l ++ [endT nm])), (2, tkO (startT nm cl ats)), (0, rdOj 3 s m (l ++ [endT nm]).length)]⟩) rfl Try.mixed (by decide +kernel) ?_
  iterate 7 (first | refine zblind (by decide +kernel) rfl rfl (fun _ => FinMove.refl _ _ _) ?_ | refine zreadL [0] (by decide +kernel) rfl rfl ⟨⟨_, rfl, _, rfl, FinMove.refl _ _ _⟩, trivial⟩ ?_)
  refine zblind (by decide +kernel) rfl rfl (fun _ => hb1 _) ?_
  refine zreadL (r := .d (.sl [tokD (endT nm)])) [0] (by decide +kernel) rfl rfl ⟨fin_lit rfl rfl rfl ⟨⟨rfl, .inl ⟨rfl, tk_pure _⟩⟩, ⟨rfl, .inl ⟨rfl, dataA_pure _⟩⟩, ⟨rfl, .inr ⟨⟨rfl, rfl, ⟨rfl, rfl, rfl⟩, trivial⟩, trivial⟩⟩, trivial⟩, trivial⟩ ?_
  refine zeff (r := .own 3 0 (l ++ [endT nm]).length) rfl rfl rfl ?_ ?_
  · refine out_app l (endT nm) ⟨3, [(2, tkO (startT nm cl ats)), (1, outO l), (0, rdO s m l.length)]⟩ (fun v σ' => FinMove ⟨3, [(2, tkO (startT nm cl ats)), (1, outO l), (0, rdO s m l.length)]⟩ v σ' (.own 3 0 (l ++ [endT nm]).length) ⟨4, [(3, outO (l ++ [endT nm])), (2, tkO (startT nm cl ats)), (0, rdO s m l.length)]⟩) rfl hl ?_
    exact fin_mv [.old 3] rfl rfl rfl ⟨⟨rfl, .inl ⟨rfl, dataA_pure _⟩⟩, ⟨rfl, .inl ⟨rfl, tk_pure _⟩⟩, ⟨rfl, .inr ⟨⟨rfl, rfl, ⟨rfl, rfl, rfl⟩, trivial⟩, trivial⟩⟩, trivial⟩ ⟨rfl, rfl, rfl⟩
  iterate 2 refine zblind (by decide +kernel) rfl rfl (fun _ => FinMove.refl _ _ _) ?_
  refine zeff rfl rfl rfl ⟨_, rfl, rfl, Nat.le_of_ble_eq_true rfl, fin_mv (r' := .top) [] rfl rfl rfl ⟨⟨rfl, .inl ⟨rfl, dataA_pure _⟩⟩, ⟨rfl, .inl ⟨rfl, tk_pure _⟩⟩, ⟨rfl, .inr ⟨⟨rfl, rfl, ⟨rfl, rfl, rfl⟩, trivial⟩, trivial⟩⟩, trivial⟩ trivial⟩ ?_
  repeat' (first | refine PureC.use hc1 ?_ | refine PureC.use hc2 ?_ | refine PureC.use hc3 ?_ | refine PureC.use hc4 ?_ |        refine CallsAbs.use1 hd1 ?_ | refine CallsAbs.use1 hd2 ?_ |   refine CallsAbs.use1 (he1 _ (by rfl) (by rfl)) ?_ |        refine ⟨fun _ => ?_, fun h => absurd h (by decide)⟩ | refine ⟨fun h => absurd h (by decide), fun _ => ?_⟩ | (refine ⟨fun h => ?_, fun h => ?_⟩ <;> (try simp only [decide_eq_true_eq, decide_eq_false_iff_not, Bool.not_eq_true', Bool.not_eq_false', Bool.not_eq_true, Bool.not_eq_false, not_true_eq_false, beq_iff_eq, beq_eq_false_iff_ne, ne_eq, decide_eq_decide, true_iff, false_iff, iff_true, iff_false, true_and, and_true, false_or, or_false, Bool.and_true, Bool.and_eq_true, Bool.and_eq_false_iff, Bool.or_eq_true, Bool.or_eq_false_iff, List.length_cons, List.length_nil] at h) <;> (try (exfalso; first | omega | exact h rfl | (cases h; done) | exact absurd h (by assumption) | exact h (by assumption) | (simp at h; done)))) | refine ⟨⟨by (first | omega | (simp only [lenS]; omega)), by (first | omega | (simp only [lenS]; omega))⟩, _, by assumption, by rfl, ?_⟩ | refine .inl ⟨⟨by (first | omega | (simp only [lenS]; omega)), by (first | omega | (simp only [lenS]; omega))⟩, ?_⟩ | refine ⟨⟨by (first | omega | (simp only [lenS]; omega)), by (first | omega | (simp only [lenS]; omega))⟩, ?_⟩ | refine ⟨⟨by (first | omega | (simp only [lenS]; omega)), by (first | omega | (simp only [lenS]; omega)), by (first | omega | (simp only [lenS]; omega))⟩, ?_⟩ | refine ⟨.inl rfl, ?_⟩ | refine ⟨.inr (.inl (by (first | omega | (simp only [lenS]; omega)))), ?_⟩ | refine ⟨_, rfl, rfl, by (first | exact Nat.le_refl _ | exact Nat.le_of_ble_eq_true rfl | decide), ?_⟩ | refine ⟨_, rfl, by (first | exact Nat.le_refl _ | exact Nat.le_of_ble_eq_true rfl | decide), ?_⟩ | refine ⟨by (first | exact Nat.le_refl _ | exact Nat.le_of_ble_eq_true rfl | decide | exact rfl), ?_⟩ | refine ⟨show _ ≤ (9223372036854775807 : Nat) by (first | omega | (simp only [lenS]; omega)), ?_⟩ | refine ⟨show _ ≠ (0 : Int) by (first | omega | (simp only [lenS]; omega)), ?_⟩ | refine ⟨_, rfl, _, rfl, ?_⟩ | refine ⟨_, by assumption, Nat.le_of_ble_eq_true rfl, ?_⟩ | refine ⟨_, by assumption, _, rfl, ?_⟩ | refine ⟨_, rfl, ?_⟩ | fail)
  exact ⟨.d (.bool true), rdS2 s m (l ++ [endT nm]), fin_mv [.old 3] rfl rfl rfl ⟨⟨rfl, .inl ⟨rfl, dataA_pure _⟩⟩, ⟨rfl, .inr ⟨⟨rfl, rfl, ⟨rfl, rfl, rfl⟩, trivial⟩, trivial⟩⟩, trivial⟩ rfl, rfl, .inr ⟨by simp, rfl⟩⟩

set_option maxRecDepth 100000 in
theorem next_start (s : List UInt8) (n : Nat) (l : List Tok) (hn : n < s.length) (hs : s.length ≤ 1000000) (hl : l.length < 1000000) (hk : kindL (s.drop n) = 4) {nm : List UInt8} {cl : Bool} {ats : List Attr} {rest : List UInt8} (ht : tagAt (s.drop (n + 1)) = some (nm, cl, ats, rest)) (hrest : s.drop (s.length - rest.length) = rest) (hrl : rest.length ≤ s.length) (hnm : nm.length ≤ 1000000) :
    CallsAbs Try.prog 37 [.ref 0 0 0] (rdS s n l) (NextK s l (s.drop n)) := by
  have hd1 := left_any s n l (by omega) (rdS s n l) rfl rfl
  have hd2 := plain_any s n l hn (rdS s n l) rfl rfl
  have hp : plainB (s.drop n) = false := by unfold plainB; rw [decide_eq_false_iff_not]; omega
  rw [hp] at hd2
  have hc1 := HasPrefix_ok (s.drop n) [60, 33, 45, 45]
  have hc2 := HasPrefix_ok (s.drop n) [60, 47, 62]
  have hlx : (s.drop n).length = s.length - n := by simp
  obtain ⟨c, r, hx, h1, h2, h3⟩ := tag_tests (.inl hk)
  obtain ⟨h3, h4⟩ := h3.resolve_right (fun h => by have := h.1; omega)
  have hst : step (s.drop n) = if rawB nm then some (startT nm cl ats :: (if rawText nm rest = [] then [] else [textT (rawText nm rest)]), rest.drop (rawN nm rest)) else some ([startT nm cl ats], rest) := by
    have ht' : tagAt ((s.drop n).drop 1) = some (nm, cl, ats, rest) := by rw [List.drop_drop]; exact ht
    unfold step
    simp only [h3, ht']
  unfold NextK
  rw [hst]
  rw [h1] at hc1
  rw [h2] at hc2
  have hc3 := letter_ok c
  rw [h4] at hc3
  rw [hx] at hd1 hc1 hc2 hlx
  simp only [List.length_cons] at hlx
  have he1 := tag_some s (n + 1) l (by omega) hs ht
  have hraw := raw_ok s (s.length - rest.length) (l ++ [startT nm cl ats]) nm (softB nm) (by omega) hs
  rw [hrest] at hraw
  have hrn : rawN nm rest ≤ rest.length := runN_le _ _
  have hc4 := tRaw_ok nm
  rw [show rawV nm = .tup [.d (.bool (rawB nm)), .d (.bool (softB nm))] from rfl] at hc4
  have hpos : s.length - (rest.drop (rawN nm rest)).length = s.length - rest.length + rawN nm rest := by rw [List.length_drop]; omega
  have hRX : rawX (softB nm) nm rest = rawText nm rest := rfl
  rw [hRX] at hraw
  suffices hS : CallsAbs Try.prog 37 [.ref 0 0 0] (rdS s n l) fun r σ' => r = .d (.bool true) ∧ ((rawB nm = false ∧ σ' = rdS2 s (s.length - rest.length) (l ++ [startT nm cl ats])) ∨
      (rawB nm = true ∧ rawText nm rest = [] ∧ σ' = rdS2 s (s.length - rest.length + rawN nm rest) (l ++ [startT nm cl ats])) ∨
      (rawB nm = true ∧ rawText nm rest ≠ [] ∧ σ' = rdS2 s (s.length - rest.length + rawN nm rest) (l ++ [startT nm cl ats] ++ [textT (rawText nm rest)]))) by
    refine hS.mono fun r σ' ⟨e1, h⟩ => ?_
    rcases h with ⟨q1, q2⟩ | ⟨q1, q2, q3⟩ | ⟨q1, q2, q3⟩
    · rw [q1]; exact ⟨e1, .inr ⟨by simp, q2⟩⟩
    · rw [q1, if_pos rfl, if_pos q2]; exact ⟨e1, .inr ⟨by simp, by rw [hpos]; exact q3⟩⟩
    · rw [q1, if_pos rfl, if_neg q2]; exact ⟨e1, .inr ⟨by simp, by rw [hpos, q3, List.append_assoc]; rfl⟩⟩
  generalize hm : s.length - rest.length = m at *
  clear hpos hst
  refine fn_okT Try.wf Try.tab_ok Try.func37 (by decide +kernel) rfl rfl ?_
  repeat' (first | refine PureC.use hc1 ?_ | refine PureC.use hc2 ?_ | refine PureC.use hc3 ?_ | refine PureC.use hc4 ?_ |        refine CallsAbs.use1 hd1 ?_ | refine CallsAbs.use1 hd2 ?_ |   refine CallsAbs.use1 (he1 _ (by rfl) (by rfl)) ?_ |        refine ⟨fun _ => ?_, fun h => absurd h (by decide)⟩ | refine ⟨fun h => absurd h (by decide), fun _ => ?_⟩ | (refine ⟨fun h => ?_, fun h => ?_⟩ <;> (try simp only [decide_eq_true_eq, decide_eq_false_iff_not, Bool.not_eq_true', Bool.not_eq_false', Bool.not_eq_true, Bool.not_eq_false, not_true_eq_false, beq_iff_eq, beq_eq_false_iff_ne, ne_eq, decide_eq_decide, true_iff, false_iff, iff_true, iff_false, true_and, and_true, false_or, or_false, Bool.and_true, Bool.and_eq_true, Bool.and_eq_false_iff, Bool.or_eq_true, Bool.or_eq_false_iff, List.length_cons, List.length_nil] at h) <;> (try (exfalso; first | omega | exact h rfl | (cases h; done) | exact absurd h (by assumption) | exact h (by assumption) | (simp at h; done)))) | refine ⟨⟨by (first | omega | (simp only [lenS]; omega)), by (first | omega | (simp only [lenS]; omega))⟩, _, by assumption, by rfl, ?_⟩ | refine .inl ⟨⟨by (first | omega | (simp only [lenS]; omega)), by (first | omega | (simp only [lenS]; omega))⟩, ?_⟩ | refine ⟨⟨by (first | omega | (simp only [lenS]; omega)), by (first | omega | (simp only [lenS]; omega))⟩, ?_⟩ | refine ⟨⟨by (first | omega | (simp only [lenS]; omega)), by (first | omega | (simp only [lenS]; omega)), by (first | omega | (simp only [lenS]; omega))⟩, ?_⟩ | refine ⟨.inl rfl, ?_⟩ | refine ⟨.inr (.inl (by (first | omega | (simp only [lenS]; omega)))), ?_⟩ | refine ⟨_, rfl, rfl, by (first | exact Nat.le_refl _ | exact Nat.le_of_ble_eq_true rfl | decide), ?_⟩ | refine ⟨_, rfl, by (first | exact Nat.le_refl _ | exact Nat.le_of_ble_eq_true rfl | decide), ?_⟩ | refine ⟨by (first | exact Nat.le_refl _ | exact Nat.le_of_ble_eq_true rfl | decide | exact rfl), ?_⟩ | refine ⟨show _ ≤ (9223372036854775807 : Nat) by (first | omega | (simp only [lenS]; omega)), ?_⟩ | refine ⟨show _ ≠ (0 : Int) by (first | omega | (simp only [lenS]; omega)), ?_⟩ | refine ⟨_, rfl, _, rfl, ?_⟩ | refine ⟨_, by assumption, Nat.le_of_ble_eq_true rfl, ?_⟩ | refine ⟨_, by assumption, _, rfl, ?_⟩ | refine ⟨_, rfl, ?_⟩ | fail)
  refine E.view (s' := [(0, .ref 0 0 0), (4, .ref 2 0 0)]) (σ' := ⟨3, [(2, tkO (startT nm cl ats)), (1, outO l), (0, rdO s m l.length)]⟩) (Mv.of [.old 2] rfl rfl rfl ⟨⟨rfl, .inl ⟨rfl, tk_pure _⟩⟩, ⟨rfl, .inl ⟨rfl, dataA_pure _⟩⟩, ⟨rfl, .inr ⟨⟨rfl, rfl, ⟨rfl, rfl, rfl⟩, trivial⟩, trivial⟩⟩, trivial⟩ ⟨⟨rfl, rfl, rfl⟩, ⟨rfl, rfl, rfl⟩, trivial⟩) ?_
  refine drawnZ Try.wf Try.tab_ok [7, 10] (fun t => match t with
    | 0 => ⟨3, [(2, tkO (startT nm cl ats)), (1, outO l), (0, rdO s m l.length)]⟩
    | 1 => ⟨4, [(3, outO (l ++ [startT nm cl ats])), (2, tkO (startT nm cl ats)), (0, rdO s m l.length)]⟩
    | _ => ⟨4, [(3, outO (l ++ [startT nm cl ats])), (2, tkO (startT nm cl ats)), (0, rdOj 3 s m (l ++ [startT nm cl ats]).length)]⟩) rfl Try.mixed (by decide +kernel) ?_
  iterate 5 (first | refine zblind (by decide +kernel) rfl rfl (fun _ => FinMove.refl _ _ _) ?_ | refine zreadL [0] (by decide +kernel) rfl rfl ⟨⟨_, rfl, _, rfl, FinMove.refl _ _ _⟩, trivial⟩ ?_)
  refine zreadL (r := .agg ((tokD (startT nm cl ats)).map .d)) [0, 1, 2] (by decide +kernel) rfl rfl ⟨⟨_, rfl, Nat.le_of_ble_eq_true rfl, FinMove.refl _ _ _⟩, ⟨_, rfl, Nat.le_of_ble_eq_true rfl, FinMove.refl _ _ _⟩, ⟨_, rfl, Nat.le_of_ble_eq_true rfl, FinMove.refl _ _ _⟩, trivial⟩ ?_
  refine zreadL (r := .d (.sl [tokD (startT nm cl ats)])) [0] (by decide +kernel) rfl rfl ⟨fin_lit rfl rfl rfl ⟨⟨rfl, .inl ⟨rfl, tk_pure _⟩⟩, ⟨rfl, .inl ⟨rfl, dataA_pure _⟩⟩, ⟨rfl, .inr ⟨⟨rfl, rfl, ⟨rfl, rfl, rfl⟩, trivial⟩, trivial⟩⟩, trivial⟩, trivial⟩ ?_
  refine zeff (r := .own 3 0 (l ++ [startT nm cl ats]).length) rfl rfl rfl ?_ ?_
  · refine out_app l (startT nm cl ats) ⟨3, [(2, tkO (startT nm cl ats)), (1, outO l), (0, rdO s m l.length)]⟩ (fun v σ' => FinMove ⟨3, [(2, tkO (startT nm cl ats)), (1, outO l), (0, rdO s m l.length)]⟩ v σ' (.own 3 0 (l ++ [startT nm cl ats]).length) ⟨4, [(3, outO (l ++ [startT nm cl ats])), (2, tkO (startT nm cl ats)), (0, rdO s m l.length)]⟩) rfl (Nat.le_of_lt hl) ?_
    exact fin_mv [.old 3] rfl rfl rfl ⟨⟨rfl, .inl ⟨rfl, dataA_pure _⟩⟩, ⟨rfl, .inl ⟨rfl, tk_pure _⟩⟩, ⟨rfl, .inr ⟨⟨rfl, rfl, ⟨rfl, rfl, rfl⟩, trivial⟩, trivial⟩⟩, trivial⟩ ⟨rfl, rfl, rfl⟩
  iterate 2 refine zblind (by decide +kernel) rfl rfl (fun _ => FinMove.refl _ _ _) ?_
  refine zeff rfl rfl rfl ⟨_, rfl, rfl, Nat.le_of_ble_eq_true rfl, fin_mv (r' := .top) [] rfl rfl rfl ⟨⟨rfl, .inl ⟨rfl, dataA_pure _⟩⟩, ⟨rfl, .inl ⟨rfl, tk_pure _⟩⟩, ⟨rfl, .inr ⟨⟨rfl, rfl, ⟨rfl, rfl, rfl⟩, trivial⟩, trivial⟩⟩, trivial⟩ trivial⟩ ?_
  repeat' (first | refine PureC.use hc1 ?_ | refine PureC.use hc2 ?_ | refine PureC.use hc3 ?_ | refine PureC.use hc4 ?_ |        refine CallsAbs.use1 hd1 ?_ | refine CallsAbs.use1 hd2 ?_ |   refine CallsAbs.use1 (he1 _ (by rfl) (by rfl)) ?_ |        refine ⟨fun _ => ?_, fun h => absurd h (by decide)⟩ | refine ⟨fun h => absurd h (by decide), fun _ => ?_⟩ | (refine ⟨fun h => ?_, fun h => ?_⟩ <;> (try simp only [decide_eq_true_eq, decide_eq_false_iff_not, Bool.not_eq_true', Bool.not_eq_false', Bool.not_eq_true, Bool.not_eq_false, not_true_eq_false, beq_iff_eq, beq_eq_false_iff_ne, ne_eq, decide_eq_decide, true_iff, false_iff, iff_true, iff_false, true_and, and_true, false_or, or_false, Bool.and_true, Bool.and_eq_true, Bool.and_eq_false_iff, Bool.or_eq_true, Bool.or_eq_false_iff, List.length_cons, List.length_nil] at h) <;> (try (exfalso; first | omega | exact h rfl | (cases h; done) | exact absurd h (by assumption) | exact h (by assumption) | (simp at h; done)))) | refine ⟨⟨by (first | omega | (simp only [lenS]; omega)), by (first | omega | (simp only [lenS]; omega))⟩, _, by assumption, by rfl, ?_⟩ | refine .inl ⟨⟨by (first | omega | (simp only [lenS]; omega)), by (first | omega | (simp only [lenS]; omega))⟩, ?_⟩ | refine ⟨⟨by (first | omega | (simp only [lenS]; omega)), by (first | omega | (simp only [lenS]; omega))⟩, ?_⟩ | refine ⟨⟨by (first | omega | (simp only [lenS]; omega)), by (first | omega | (simp only [lenS]; omega)), by (first | omega | (simp only [lenS]; omega))⟩, ?_⟩ | refine ⟨.inl rfl, ?_⟩ | refine ⟨.inr (.inl (by (first | omega | (simp only [lenS]; omega)))), ?_⟩ | refine ⟨_, rfl, rfl, by (first | exact Nat.le_refl _ | exact Nat.le_of_ble_eq_true rfl | decide), ?_⟩ | refine ⟨_, rfl, by (first | exact Nat.le_refl _ | exact Nat.le_of_ble_eq_true rfl | decide), ?_⟩ | refine ⟨by (first | exact Nat.le_refl _ | exact Nat.le_of_ble_eq_true rfl | decide | exact rfl), ?_⟩ | refine ⟨show _ ≤ (9223372036854775807 : Nat) by (first | omega | (simp only [lenS]; omega)), ?_⟩ | refine ⟨show _ ≠ (0 : Int) by (first | omega | (simp only [lenS]; omega)), ?_⟩ | refine ⟨_, rfl, _, rfl, ?_⟩ | refine ⟨_, by assumption, Nat.le_of_ble_eq_true rfl, ?_⟩ | refine ⟨_, by assumption, _, rfl, ?_⟩ | refine ⟨_, rfl, ?_⟩ | fail)
  · refine CallsAbs.frame (hraw (by simp; omega) hnm) [.old 0, .old 3] ⟨Nat.zero_le _, rfl, rfl, ⟨⟨rfl, .inl ⟨rfl, dataA_pure _⟩⟩, ⟨rfl, .inr ⟨⟨rfl, rfl, ⟨rfl, rfl, rfl⟩, trivial⟩, trivial⟩⟩, trivial⟩⟩ ⟨⟨rfl, rfl, rfl⟩, rfl, rfl, trivial⟩ ?_
    rintro _ _ ⟨rfl, ⟨q1, rfl⟩ | ⟨q1, rfl⟩⟩
    · refine ⟨.tup [], [(0, rdOj 3 s (m + rawN nm rest) (l ++ [startT nm cl ats]).length), (3, outO (l ++ [startT nm cl ats]))], ⟨⟨rfl, .inr ⟨⟨rfl, rfl, ⟨rfl, rfl, rfl⟩, trivial⟩, trivial⟩⟩, ⟨rfl, .inl ⟨rfl, dataA_pure _⟩⟩, trivial⟩, rfl, trivial, ?_⟩
      repeat' (first | refine PureC.use hc1 ?_ | refine PureC.use hc2 ?_ | refine PureC.use hc3 ?_ | refine PureC.use hc4 ?_ |        refine CallsAbs.use1 hd1 ?_ | refine CallsAbs.use1 hd2 ?_ |   refine CallsAbs.use1 (he1 _ (by rfl) (by rfl)) ?_ |        refine ⟨fun _ => ?_, fun h => absurd h (by decide)⟩ | refine ⟨fun h => absurd h (by decide), fun _ => ?_⟩ | (refine ⟨fun h => ?_, fun h => ?_⟩ <;> (try simp only [decide_eq_true_eq, decide_eq_false_iff_not, Bool.not_eq_true', Bool.not_eq_false', Bool.not_eq_true, Bool.not_eq_false, not_true_eq_false, beq_iff_eq, beq_eq_false_iff_ne, ne_eq, decide_eq_decide, true_iff, false_iff, iff_true, iff_false, true_and, and_true, false_or, or_false, Bool.and_true, Bool.and_eq_true, Bool.and_eq_false_iff, Bool.or_eq_true, Bool.or_eq_false_iff, List.length_cons, List.length_nil] at h) <;> (try (exfalso; first | omega | exact h rfl | (cases h; done) | exact absurd h (by assumption) | exact h (by assumption) | (simp at h; done)))) | refine ⟨⟨by (first | omega | (simp only [lenS]; omega)), by (first | omega | (simp only [lenS]; omega))⟩, _, by assumption, by rfl, ?_⟩ | refine .inl ⟨⟨by (first | omega | (simp only [lenS]; omega)), by (first | omega | (simp only [lenS]; omega))⟩, ?_⟩ | refine ⟨⟨by (first | omega | (simp only [lenS]; omega)), by (first | omega | (simp only [lenS]; omega))⟩, ?_⟩ | refine ⟨⟨by (first | omega | (simp only [lenS]; omega)), by (first | omega | (simp only [lenS]; omega)), by (first | omega | (simp only [lenS]; omega))⟩, ?_⟩ | refine ⟨.inl rfl, ?_⟩ | refine ⟨.inr (.inl (by (first | omega | (simp only [lenS]; omega)))), ?_⟩ | refine ⟨_, rfl, rfl, by (first | exact Nat.le_refl _ | exact Nat.le_of_ble_eq_true rfl | decide), ?_⟩ | refine ⟨_, rfl, by (first | exact Nat.le_refl _ | exact Nat.le_of_ble_eq_true rfl | decide), ?_⟩ | refine ⟨by (first | exact Nat.le_refl _ | exact Nat.le_of_ble_eq_true rfl | decide | exact rfl), ?_⟩ | refine ⟨show _ ≤ (9223372036854775807 : Nat) by (first | omega | (simp only [lenS]; omega)), ?_⟩ | refine ⟨show _ ≠ (0 : Int) by (first | omega | (simp only [lenS]; omega)), ?_⟩ | refine ⟨_, rfl, _, rfl, ?_⟩ | refine ⟨_, by assumption, Nat.le_of_ble_eq_true rfl, ?_⟩ | refine ⟨_, by assumption, _, rfl, ?_⟩ | refine ⟨_, rfl, ?_⟩ | fail)
      exact ⟨.d (.bool true), rdS2 s (m + rawN nm rest) (l ++ [startT nm cl ats]), fin_mv [.old 3] rfl rfl rfl ⟨⟨rfl, .inl ⟨rfl, dataA_pure _⟩⟩, ⟨rfl, .inr ⟨⟨rfl, rfl, ⟨rfl, rfl, rfl⟩, trivial⟩, trivial⟩⟩, trivial⟩ rfl, rfl, .inr (.inl ⟨by assumption, q1, rfl⟩)⟩
    · refine ⟨.tup [], [(0, rdOj 4 s (m + rawN nm rest) (l ++ [startT nm cl ats] ++ [textT (rawText nm rest)]).length), (3, .dead), (4, outO (l ++ [startT nm cl ats] ++ [textT (rawText nm rest)]))], ⟨⟨rfl, .inr ⟨⟨rfl, rfl, ⟨rfl, rfl, rfl⟩, trivial⟩, trivial⟩⟩, trivial, ⟨rfl, .inl ⟨rfl, dataA_pure _⟩⟩, trivial⟩, rfl, trivial, ?_⟩
      repeat' (first | refine PureC.use hc1 ?_ | refine PureC.use hc2 ?_ | refine PureC.use hc3 ?_ | refine PureC.use hc4 ?_ |        refine CallsAbs.use1 hd1 ?_ | refine CallsAbs.use1 hd2 ?_ |   refine CallsAbs.use1 (he1 _ (by rfl) (by rfl)) ?_ |        refine ⟨fun _ => ?_, fun h => absurd h (by decide)⟩ | refine ⟨fun h => absurd h (by decide), fun _ => ?_⟩ | (refine ⟨fun h => ?_, fun h => ?_⟩ <;> (try simp only [decide_eq_true_eq, decide_eq_false_iff_not, Bool.not_eq_true', Bool.not_eq_false', Bool.not_eq_true, Bool.not_eq_false, not_true_eq_false, beq_iff_eq, beq_eq_false_iff_ne, ne_eq, decide_eq_decide, true_iff, false_iff, iff_true, iff_false, true_and, and_true, false_or, or_false, Bool.and_true, Bool.and_eq_true, Bool.and_eq_false_iff, Bool.or_eq_true, Bool.or_eq_false_iff, List.length_cons, List.length_nil] at h) <;> (try (exfalso; first | omega | exact h rfl | (cases h; done) | exact absurd h (by assumption) | exact h (by assumption) | (simp at h; done)))) | refine ⟨⟨by (first | omega | (simp only [lenS]; omega)), by (first | omega | (simp only [lenS]; omega))⟩, _, by assumption, by rfl, ?_⟩ | refine .inl ⟨⟨by (first | omega | (simp only [lenS]; omega)), by (first | omega | (simp only [lenS]; omega))⟩, ?_⟩ | refine ⟨⟨by (first | omega | (simp only [lenS]; omega)), by (first | omega | (simp only [lenS]; omega))⟩, ?_⟩ | refine ⟨⟨by (first | omega | (simp only [lenS]; omega)), by (first | omega | (simp only [lenS]; omega)), by (first | omega | (simp only [lenS]; omega))⟩, ?_⟩ | refine ⟨.inl rfl, ?_⟩ | refine ⟨.inr (.inl (by (first | omega | (simp only [lenS]; omega)))), ?_⟩ | refine ⟨_, rfl, rfl, by (first | exact Nat.le_refl _ | exact Nat.le_of_ble_eq_true rfl | decide), ?_⟩ | refine ⟨_, rfl, by (first | exact Nat.le_refl _ | exact Nat.le_of_ble_eq_true rfl | decide), ?_⟩ | refine ⟨by (first | exact Nat.le_refl _ | exact Nat.le_of_ble_eq_true rfl | decide | exact rfl), ?_⟩ | refine ⟨show _ ≤ (9223372036854775807 : Nat) by (first | omega | (simp only [lenS]; omega)), ?_⟩ | refine ⟨show _ ≠ (0 : Int) by (first | omega | (simp only [lenS]; omega)), ?_⟩ | refine ⟨_, rfl, _, rfl, ?_⟩ | refine ⟨_, by assumption, Nat.le_of_ble_eq_true rfl, ?_⟩ | refine ⟨_, by assumption, _, rfl, ?_⟩ | refine ⟨_, rfl, ?_⟩ | fail)
      exact ⟨.d (.bool true), rdS2 s (m + rawN nm rest) (l ++ [startT nm cl ats] ++ [textT (rawText nm rest)]), fin_mv [.old 4] rfl rfl rfl ⟨⟨rfl, .inl ⟨rfl, dataA_pure _⟩⟩, ⟨rfl, .inr ⟨⟨rfl, rfl, ⟨rfl, rfl, rfl⟩, trivial⟩, trivial⟩⟩, trivial⟩ rfl, rfl, .inr (.inr ⟨by assumption, q1, rfl⟩)⟩
  · exact ⟨.d (.bool true), rdS2 s m (l ++ [startT nm cl ats]), fin_mv [.old 3] rfl rfl rfl ⟨⟨rfl, .inl ⟨rfl, dataA_pure _⟩⟩, ⟨rfl, .inr ⟨⟨rfl, rfl, ⟨rfl, rfl, rfl⟩, trivial⟩, trivial⟩⟩, trivial⟩ rfl, rfl, .inl ⟨by assumption, rfl⟩⟩

theorem valueAt_suf {s v r : List UInt8} (h : valueAt s = some (v, r)) : r <:+ s := by
  unfold valueAt at h
  split at h
  · cases h; exact List.suffix_refl _
  · split at h
    · split at h
      · cases h
      · cases h; exact (List.drop_suffix _ _).trans (List.suffix_cons _ _)
    · cases h; exact List.drop_suffix _ _
theorem skipB_suf (s : List UInt8) : skipB s <:+ s := List.drop_suffix _ _
theorem attrAt_suf {c : UInt8} {r r' : List UInt8} {a : Attr} (h : attrAt c r = some (a, r')) : r' <:+ r := by
  have h1 := (skipB_suf (r.drop (runN (hdB attrC) r))).trans (List.drop_suffix _ _)
  unfold attrAt at h
  split at h
  · cases h; exact List.nil_suffix
  · rename_i d r1 e
    rw [e] at h1
    split at h
    · cases hv : valueAt (skipB r1) with
      | none => rw [hv] at h; cases h
      | some v =>
        rw [hv] at h
        cases h
        exact ((valueAt_suf (v := v.1) (r := v.2) hv).trans (skipB_suf r1)).trans ((List.suffix_cons _ _).trans h1)
    · cases h; exact h1
theorem tagF_suf : ∀ (n : Nat) (s : List UInt8) (cl : Bool) (ats : List Attr) {x : Bool} {y : List Attr} {r : List UInt8}, tagF n s cl ats = some (x, y, r) → r <:+ s
  | 0, _, _, _, _, _, _, h => by cases h
  | n + 1, [], _, _, _, _, _, h => by cases h
  | n + 1, c :: r, cl, ats, x, y, r', h => by
    unfold tagF at h
    split at h
    · exact (tagF_suf n _ _ _ h).trans (List.suffix_cons _ _)
    · split at h
      · exact (tagF_suf n _ _ _ h).trans (List.suffix_cons _ _)
      · split at h
        · cases h; exact List.suffix_cons _ _
        · split at h
          · cases h
          · rename_i e
            exact ((tagF_suf n _ _ _ h).trans (attrAt_suf e)).trans (List.suffix_cons _ _)
theorem tagAt_suf {s nm r : List UInt8} {cl : Bool} {ats : List Attr} (h : tagAt s = some (nm, cl, ats, r)) : r <:+ s ∧ nm.length ≤ s.length := by
  unfold tagAt at h
  cases e : between (s.drop (runN (hdB nameC) s)) false [] with
  | none => rw [e] at h; cases h
  | some t =>
    rw [e] at h
    cases h
    refine ⟨(tagF_suf _ _ _ _ (x := t.1) (y := t.2.1) (r := t.2.2) e).trans (List.drop_suffix _ _), ?_⟩
    simp [lower]; omega
theorem suf_drop {r s : List UInt8} (h : r <:+ s) : s.drop (s.length - r.length) = r := (List.suffix_iff_eq_drop.1 h).symm
theorem suf_drop_n {r s : List UInt8} {n : Nat} (h : r <:+ s.drop n) : s.drop (s.length - r.length) = r ∧ r.length ≤ s.length - n := by
  refine ⟨suf_drop (h.trans (List.drop_suffix _ _)), ?_⟩
  have := h.length_le
  rwa [List.length_drop] at this
theorem step_suf {s r : List UInt8} {e : List Tok} (h : step s = some (e, r)) : r <:+ s := by
  unfold step at h
  split at h
  · cases h; exact List.drop_suffix _ _
  · cases h; exact (List.drop_suffix _ _).trans (List.drop_suffix _ _)
  · cases h; exact List.drop_suffix _ _
  · cases h; exact List.drop_suffix _ _
  · split at h
    · cases h
    · rename_i e
      have h1 := (tagAt_suf e).1
      split at h
      · cases h; exact ((List.drop_suffix _ _).trans h1).trans (List.drop_suffix _ _)
      · cases h; exact h1.trans (List.drop_suffix _ _)
  · split at h
    · cases h
    · rename_i e
      cases h
      exact (tagAt_suf e).1.trans (List.drop_suffix _ _)
/-- At most one token for a byte. -/
theorem step_count {s r : List UInt8} {e : List Tok} (hs : s ≠ []) (h : step s = some (e, r)) : e.length + r.length ≤ s.length := by
  have hlt := step_lt hs h
  unfold step at h
  split at h
  · cases h; simp at hlt ⊢; omega
  · cases h; simp at hlt ⊢; omega
  · cases h; simp at hlt ⊢
  · cases h; simp at hlt ⊢
  · split at h
    · cases h
    · rename_i e
      have h1 := tagAt_le e
      rw [List.length_drop] at h1
      split at h
      · cases h
        split
        · simp at hlt ⊢; omega
        · simp at hlt ⊢; omega
      · cases h; simp at hlt ⊢; omega
  · split at h
    · cases h
    · cases h; simp at hlt ⊢; omega
theorem kind_le (s : List UInt8) : kindL s = 0 ∨ kindL s = 1 ∨ kindL s = 2 ∨ kindL s = 3 ∨ kindL s = 4 ∨ kindL s = 5 := by
  unfold kindL
  repeat' split
  all_goals simp

theorem next_ok (s : List UInt8) (n : Nat) (l : List Tok) (hn : n < s.length) (hs : s.length ≤ 1000000) (hl : l.length < 1000000) :
    CallsAbs Try.prog 37 [.ref 0 0 0] (rdS s n l) (NextK s l (s.drop n)) := by
  have hl' : l.length ≤ 1000000 := by omega
  rcases kind_le (s.drop n) with hk | hk | hk | hk | hk | hk
  · exact next_text s n l hn hs hl' hk
  · exact next_note s n l hn hs hl' hk
  · exact next_over s n l hn hs hl' (.inl hk)
  · exact next_over s n l hn hs hl' (.inr hk)
  · cases ht : tagAt (s.drop (n + 1)) with
    | none =>
      refine next_stop s n l hn hs hl' (.inl hk) ?_
      have ht' : tagAt ((s.drop n).drop 1) = none := by rw [List.drop_drop]; exact ht
      unfold step
      simp only [hk, ht']
    | some t =>
      obtain ⟨nm, cl, ats, rest⟩ := t
      obtain ⟨h1, h2⟩ := tagAt_suf ht
      obtain ⟨h3, h4⟩ := suf_drop_n h1
      rw [List.length_drop] at h2
      exact next_start s n l hn hs hl hk ht h3 (by omega) (by omega)
  · cases ht : tagAt (s.drop (n + 2)) with
    | none =>
      refine next_stop s n l hn hs hl' (.inr hk) ?_
      have ht' : tagAt ((s.drop n).drop 2) = none := by rw [List.drop_drop]; exact ht
      unfold step
      simp only [hk, ht']
    | some t =>
      obtain ⟨nm, cl, ats, rest⟩ := t
      exact next_end s n l hn hs hl' hk ht

theorem fin_ownD {σ : Store} {i len : Nat} {sz : Nat × Nat} {rs : List (List AV)} {ds : List (List D)} (ho : σ.get i = .rows sz rs) (hds : rowsD rs = some ds) (hl : len = ds.length) : FinMove ⟨0, []⟩ (.own i 0 len) σ (.d (.sl ds)) ⟨0, []⟩ := by
  have h1 := fin_freeze (σ0 := ⟨0, []⟩) (r := .own i 0 len) i ho hds (fun _ => by rw [Nat.zero_add, hl, (rowsD_get hds).1]; exact Nat.le_refl _)
  rw [frz_whole i ds len hl] at h1
  exact h1.trans (fin_mv [] (Nat.ble_eq_true_of_le (Nat.zero_le _)) rfl rfl trivial rfl)

set_option maxRecDepth 100000 in
theorem TokensO_ok (s : List UInt8) (hs : s.length < 1000000) : CallsAbs Try.prog 21 [.d (.str s)] ⟨0, []⟩ fun r σ' => r = .own 0 0 (toks s).length ∧ σ' = ⟨1, [(0, outO (toks s))]⟩ := by
  refine fn_okT Try.wf Try.tab_ok Try.func21 (by decide +kernel) rfl rfl ?_
  repeat' (first |                        refine ⟨fun _ => ?_, fun h => absurd h (by decide)⟩ | refine ⟨fun h => absurd h (by decide), fun _ => ?_⟩ | (refine ⟨fun h => ?_, fun h => ?_⟩ <;> (try simp only [decide_eq_true_eq, decide_eq_false_iff_not, Bool.not_eq_true', Bool.not_eq_false', Bool.not_eq_true, Bool.not_eq_false, not_true_eq_false, beq_iff_eq, beq_eq_false_iff_ne, ne_eq, decide_eq_decide, true_iff, false_iff, iff_true, iff_false, true_and, and_true, false_or, or_false, Bool.and_true, Bool.and_eq_true, Bool.and_eq_false_iff, Bool.or_eq_true, Bool.or_eq_false_iff, List.length_cons, List.length_nil] at h) <;> (try (exfalso; first | omega | exact h rfl | (cases h; done) | exact absurd h (by assumption) | exact h (by assumption) | (simp at h; done)))) | refine ⟨⟨by (first | omega | (simp only [lenS]; omega)), by (first | omega | (simp only [lenS]; omega))⟩, _, by assumption, by rfl, ?_⟩ | refine .inl ⟨⟨by (first | omega | (simp only [lenS]; omega)), by (first | omega | (simp only [lenS]; omega))⟩, ?_⟩ | refine ⟨⟨by (first | omega | (simp only [lenS]; omega)), by (first | omega | (simp only [lenS]; omega))⟩, ?_⟩ | refine ⟨⟨by (first | omega | (simp only [lenS]; omega)), by (first | omega | (simp only [lenS]; omega)), by (first | omega | (simp only [lenS]; omega))⟩, ?_⟩ | refine ⟨.inl rfl, ?_⟩ | refine ⟨.inr (.inl (by (first | omega | (simp only [lenS]; omega)))), ?_⟩ | refine ⟨_, rfl, rfl, by (first | exact Nat.le_refl _ | exact Nat.le_of_ble_eq_true rfl | decide), ?_⟩ | refine ⟨_, rfl, by (first | exact Nat.le_refl _ | exact Nat.le_of_ble_eq_true rfl | decide), ?_⟩ | refine ⟨by (first | exact Nat.le_refl _ | exact Nat.le_of_ble_eq_true rfl | decide | exact rfl), ?_⟩ | refine ⟨show _ ≤ (9223372036854775807 : Nat) by (first | omega | (simp only [lenS]; omega)), ?_⟩ | refine ⟨show _ ≠ (0 : Int) by (first | omega | (simp only [lenS]; omega)), ?_⟩ | refine ⟨_, rfl, _, rfl, ?_⟩ | refine ⟨_, by assumption, Nat.le_of_ble_eq_true rfl, ?_⟩ | refine ⟨_, by assumption, _, rfl, ?_⟩ | refine ⟨_, rfl, ?_⟩ | fail)
  have out : ∀ (n : Nat) (l : List Tok), l = toks s → ∃ r2 σ2, FinMove ⟨0, []⟩ (.own 1 0 l.length) (rdS s n l) r2 σ2 ∧ r2 = .own 0 0 (toks s).length ∧ σ2 = ⟨1, [(0, outO (toks s))]⟩ := fun n l e => by
    subst e
    exact ⟨.own 0 0 (toks s).length, ⟨1, [(0, outO (toks s))]⟩, fin_mv [.old 1] rfl rfl rfl ⟨⟨rfl, .inl ⟨rfl, dataA_pure _⟩⟩, trivial⟩ ⟨rfl, rfl, rfl⟩, rfl, rfl⟩
  refine loopT Try.wf Try.tab_ok (fun m s' σ => ∃ (n : Nat) (l : List Tok), m = s.length - n ∧ n ≤ s.length ∧ l.length ≤ n ∧ l ++ toks (s.drop n) = toks s ∧ s' = [(0, .d (.str s)), (3, .ref 0 0 0)] ∧ σ = rdS s n l)
    ⟨0, [], rfl, Nat.zero_le _, Nat.le_refl _, rfl, rfl, rfl⟩ (Mv.of [.old 0, .phan 5] rfl rfl rfl ⟨rfl, ⟨rfl, .inr ⟨⟨rfl, rfl, ⟨rfl, rfl, rfl⟩, trivial⟩, trivial⟩⟩, trivial⟩ ⟨rfl, ⟨rfl, rfl, rfl⟩, trivial⟩) ?_
  rintro _ _ _ ⟨n, l, rfl, hn, hln, hI, rfl, rfl⟩
  by_cases hlt : n < s.length
  · have hne : s.drop n ≠ [] := fun e => by rw [List.drop_eq_nil_iff] at e; omega
    have hnx := next_ok s n l hlt (by omega) (by omega)
    repeat' (first |                        refine ⟨fun _ => ?_, fun h => absurd h (by decide)⟩ | refine ⟨fun h => absurd h (by decide), fun _ => ?_⟩ | (refine ⟨fun h => ?_, fun h => ?_⟩ <;> (try simp only [decide_eq_true_eq, decide_eq_false_iff_not, Bool.not_eq_true', Bool.not_eq_false', Bool.not_eq_true, Bool.not_eq_false, not_true_eq_false, beq_iff_eq, beq_eq_false_iff_ne, ne_eq, decide_eq_decide, true_iff, false_iff, iff_true, iff_false, true_and, and_true, false_or, or_false, Bool.and_true, Bool.and_eq_true, Bool.and_eq_false_iff, Bool.or_eq_true, Bool.or_eq_false_iff, List.length_cons, List.length_nil] at h) <;> (try (exfalso; first | omega | exact h rfl | (cases h; done) | exact absurd h (by assumption) | exact h (by assumption) | (simp at h; done)))) | refine ⟨⟨by (first | omega | (simp only [lenS]; omega)), by (first | omega | (simp only [lenS]; omega))⟩, _, by assumption, by rfl, ?_⟩ | refine .inl ⟨⟨by (first | omega | (simp only [lenS]; omega)), by (first | omega | (simp only [lenS]; omega))⟩, ?_⟩ | refine ⟨⟨by (first | omega | (simp only [lenS]; omega)), by (first | omega | (simp only [lenS]; omega))⟩, ?_⟩ | refine ⟨⟨by (first | omega | (simp only [lenS]; omega)), by (first | omega | (simp only [lenS]; omega)), by (first | omega | (simp only [lenS]; omega))⟩, ?_⟩ | refine ⟨.inl rfl, ?_⟩ | refine ⟨.inr (.inl (by (first | omega | (simp only [lenS]; omega)))), ?_⟩ | refine ⟨_, rfl, rfl, by (first | exact Nat.le_refl _ | exact Nat.le_of_ble_eq_true rfl | decide), ?_⟩ | refine ⟨_, rfl, by (first | exact Nat.le_refl _ | exact Nat.le_of_ble_eq_true rfl | decide), ?_⟩ | refine ⟨by (first | exact Nat.le_refl _ | exact Nat.le_of_ble_eq_true rfl | decide | exact rfl), ?_⟩ | refine ⟨show _ ≤ (9223372036854775807 : Nat) by (first | omega | (simp only [lenS]; omega)), ?_⟩ | refine ⟨show _ ≠ (0 : Int) by (first | omega | (simp only [lenS]; omega)), ?_⟩ | refine ⟨_, rfl, _, rfl, ?_⟩ | refine ⟨_, by assumption, Nat.le_of_ble_eq_true rfl, ?_⟩ | refine ⟨_, by assumption, _, rfl, ?_⟩ | refine ⟨_, rfl, ?_⟩ | fail)
    refine hnx.mono fun r σ' h => ?_
    unfold NextK at h
    cases hst : step (s.drop n) with
    | none =>
      rw [hst] at h
      obtain ⟨m, hm, rfl, rfl⟩ := h
      rw [toks_none hst, List.append_nil] at hI
      repeat' (first |                        refine ⟨fun _ => ?_, fun h => absurd h (by decide)⟩ | refine ⟨fun h => absurd h (by decide), fun _ => ?_⟩ | (refine ⟨fun h => ?_, fun h => ?_⟩ <;> (try simp only [decide_eq_true_eq, decide_eq_false_iff_not, Bool.not_eq_true', Bool.not_eq_false', Bool.not_eq_true, Bool.not_eq_false, not_true_eq_false, beq_iff_eq, beq_eq_false_iff_ne, ne_eq, decide_eq_decide, true_iff, false_iff, iff_true, iff_false, true_and, and_true, false_or, or_false, Bool.and_true, Bool.and_eq_true, Bool.and_eq_false_iff, Bool.or_eq_true, Bool.or_eq_false_iff, List.length_cons, List.length_nil] at h) <;> (try (exfalso; first | omega | exact h rfl | (cases h; done) | exact absurd h (by assumption) | exact h (by assumption) | (simp at h; done)))) | refine ⟨⟨by (first | omega | (simp only [lenS]; omega)), by (first | omega | (simp only [lenS]; omega))⟩, _, by assumption, by rfl, ?_⟩ | refine .inl ⟨⟨by (first | omega | (simp only [lenS]; omega)), by (first | omega | (simp only [lenS]; omega))⟩, ?_⟩ | refine ⟨⟨by (first | omega | (simp only [lenS]; omega)), by (first | omega | (simp only [lenS]; omega))⟩, ?_⟩ | refine ⟨⟨by (first | omega | (simp only [lenS]; omega)), by (first | omega | (simp only [lenS]; omega)), by (first | omega | (simp only [lenS]; omega))⟩, ?_⟩ | refine ⟨.inl rfl, ?_⟩ | refine ⟨.inr (.inl (by (first | omega | (simp only [lenS]; omega)))), ?_⟩ | refine ⟨_, rfl, rfl, by (first | exact Nat.le_refl _ | exact Nat.le_of_ble_eq_true rfl | decide), ?_⟩ | refine ⟨_, rfl, by (first | exact Nat.le_refl _ | exact Nat.le_of_ble_eq_true rfl | decide), ?_⟩ | refine ⟨by (first | exact Nat.le_refl _ | exact Nat.le_of_ble_eq_true rfl | decide | exact rfl), ?_⟩ | refine ⟨show _ ≤ (9223372036854775807 : Nat) by (first | omega | (simp only [lenS]; omega)), ?_⟩ | refine ⟨show _ ≠ (0 : Int) by (first | omega | (simp only [lenS]; omega)), ?_⟩ | refine ⟨_, rfl, _, rfl, ?_⟩ | refine ⟨_, by assumption, Nat.le_of_ble_eq_true rfl, ?_⟩ | refine ⟨_, by assumption, _, rfl, ?_⟩ | refine ⟨_, rfl, ?_⟩ | fail)
      exact out _ _ hI
    | some x =>
      obtain ⟨e, r'⟩ := x
      rw [hst] at h
      have hsf := suf_drop_n (step_suf hst)
      have hct := step_count hne hst
      have hslt := step_lt hne hst
      rw [List.length_drop] at hct hslt
      rw [toks_some hne hst, ← List.append_assoc, ← hsf.1] at hI
      rcases h with ⟨rfl, ⟨rfl, rfl⟩ | ⟨he, rfl⟩⟩
      · repeat' (first |                        refine ⟨fun _ => ?_, fun h => absurd h (by decide)⟩ | refine ⟨fun h => absurd h (by decide), fun _ => ?_⟩ | (refine ⟨fun h => ?_, fun h => ?_⟩ <;> (try simp only [decide_eq_true_eq, decide_eq_false_iff_not, Bool.not_eq_true', Bool.not_eq_false', Bool.not_eq_true, Bool.not_eq_false, not_true_eq_false, beq_iff_eq, beq_eq_false_iff_ne, ne_eq, decide_eq_decide, true_iff, false_iff, iff_true, iff_false, true_and, and_true, false_or, or_false, Bool.and_true, Bool.and_eq_true, Bool.and_eq_false_iff, Bool.or_eq_true, Bool.or_eq_false_iff, List.length_cons, List.length_nil] at h) <;> (try (exfalso; first | omega | exact h rfl | (cases h; done) | exact absurd h (by assumption) | exact h (by assumption) | (simp at h; done)))) | refine ⟨⟨by (first | omega | (simp only [lenS]; omega)), by (first | omega | (simp only [lenS]; omega))⟩, _, by assumption, by rfl, ?_⟩ | refine .inl ⟨⟨by (first | omega | (simp only [lenS]; omega)), by (first | omega | (simp only [lenS]; omega))⟩, ?_⟩ | refine ⟨⟨by (first | omega | (simp only [lenS]; omega)), by (first | omega | (simp only [lenS]; omega))⟩, ?_⟩ | refine ⟨⟨by (first | omega | (simp only [lenS]; omega)), by (first | omega | (simp only [lenS]; omega)), by (first | omega | (simp only [lenS]; omega))⟩, ?_⟩ | refine ⟨.inl rfl, ?_⟩ | refine ⟨.inr (.inl (by (first | omega | (simp only [lenS]; omega)))), ?_⟩ | refine ⟨_, rfl, rfl, by (first | exact Nat.le_refl _ | exact Nat.le_of_ble_eq_true rfl | decide), ?_⟩ | refine ⟨_, rfl, by (first | exact Nat.le_refl _ | exact Nat.le_of_ble_eq_true rfl | decide), ?_⟩ | refine ⟨by (first | exact Nat.le_refl _ | exact Nat.le_of_ble_eq_true rfl | decide | exact rfl), ?_⟩ | refine ⟨show _ ≤ (9223372036854775807 : Nat) by (first | omega | (simp only [lenS]; omega)), ?_⟩ | refine ⟨show _ ≠ (0 : Int) by (first | omega | (simp only [lenS]; omega)), ?_⟩ | refine ⟨_, rfl, _, rfl, ?_⟩ | refine ⟨_, by assumption, Nat.le_of_ble_eq_true rfl, ?_⟩ | refine ⟨_, by assumption, _, rfl, ?_⟩ | refine ⟨_, rfl, ?_⟩ | fail)
        rw [List.append_nil] at hI
        exact ⟨_, _, _, ⟨s.length - r'.length, l, rfl, by omega, by simp at hct; omega, hI, rfl, rfl⟩, by omega, Mv.of [.old 0, .old 1] rfl rfl rfl ⟨⟨rfl, .inl ⟨rfl, dataA_pure _⟩⟩, ⟨rfl, .inr ⟨⟨rfl, rfl, ⟨rfl, rfl, rfl⟩, trivial⟩, trivial⟩⟩, trivial⟩ ⟨rfl, ⟨rfl, rfl, rfl⟩, trivial⟩⟩
      · repeat' (first |                        refine ⟨fun _ => ?_, fun h => absurd h (by decide)⟩ | refine ⟨fun h => absurd h (by decide), fun _ => ?_⟩ | (refine ⟨fun h => ?_, fun h => ?_⟩ <;> (try simp only [decide_eq_true_eq, decide_eq_false_iff_not, Bool.not_eq_true', Bool.not_eq_false', Bool.not_eq_true, Bool.not_eq_false, not_true_eq_false, beq_iff_eq, beq_eq_false_iff_ne, ne_eq, decide_eq_decide, true_iff, false_iff, iff_true, iff_false, true_and, and_true, false_or, or_false, Bool.and_true, Bool.and_eq_true, Bool.and_eq_false_iff, Bool.or_eq_true, Bool.or_eq_false_iff, List.length_cons, List.length_nil] at h) <;> (try (exfalso; first | omega | exact h rfl | (cases h; done) | exact absurd h (by assumption) | exact h (by assumption) | (simp at h; done)))) | refine ⟨⟨by (first | omega | (simp only [lenS]; omega)), by (first | omega | (simp only [lenS]; omega))⟩, _, by assumption, by rfl, ?_⟩ | refine .inl ⟨⟨by (first | omega | (simp only [lenS]; omega)), by (first | omega | (simp only [lenS]; omega))⟩, ?_⟩ | refine ⟨⟨by (first | omega | (simp only [lenS]; omega)), by (first | omega | (simp only [lenS]; omega))⟩, ?_⟩ | refine ⟨⟨by (first | omega | (simp only [lenS]; omega)), by (first | omega | (simp only [lenS]; omega)), by (first | omega | (simp only [lenS]; omega))⟩, ?_⟩ | refine ⟨.inl rfl, ?_⟩ | refine ⟨.inr (.inl (by (first | omega | (simp only [lenS]; omega)))), ?_⟩ | refine ⟨_, rfl, rfl, by (first | exact Nat.le_refl _ | exact Nat.le_of_ble_eq_true rfl | decide), ?_⟩ | refine ⟨_, rfl, by (first | exact Nat.le_refl _ | exact Nat.le_of_ble_eq_true rfl | decide), ?_⟩ | refine ⟨by (first | exact Nat.le_refl _ | exact Nat.le_of_ble_eq_true rfl | decide | exact rfl), ?_⟩ | refine ⟨show _ ≤ (9223372036854775807 : Nat) by (first | omega | (simp only [lenS]; omega)), ?_⟩ | refine ⟨show _ ≠ (0 : Int) by (first | omega | (simp only [lenS]; omega)), ?_⟩ | refine ⟨_, rfl, _, rfl, ?_⟩ | refine ⟨_, by assumption, Nat.le_of_ble_eq_true rfl, ?_⟩ | refine ⟨_, by assumption, _, rfl, ?_⟩ | refine ⟨_, rfl, ?_⟩ | fail)
        exact ⟨_, _, _, ⟨s.length - r'.length, l ++ e, rfl, by omega, by rw [List.length_append]; omega, hI, rfl, rfl⟩, by omega, Mv.of [.old 0, .old 2] rfl rfl rfl ⟨⟨rfl, .inl ⟨rfl, dataA_pure _⟩⟩, ⟨rfl, .inr ⟨⟨rfl, rfl, ⟨rfl, rfl, rfl⟩, trivial⟩, trivial⟩⟩, trivial⟩ ⟨rfl, ⟨rfl, rfl, rfl⟩, trivial⟩⟩
  · have : s.drop n = [] := List.drop_eq_nil_iff.2 (by omega)
    rw [this, toks_nil, List.append_nil] at hI
    repeat' (first |                        refine ⟨fun _ => ?_, fun h => absurd h (by decide)⟩ | refine ⟨fun h => absurd h (by decide), fun _ => ?_⟩ | (refine ⟨fun h => ?_, fun h => ?_⟩ <;> (try simp only [decide_eq_true_eq, decide_eq_false_iff_not, Bool.not_eq_true', Bool.not_eq_false', Bool.not_eq_true, Bool.not_eq_false, not_true_eq_false, beq_iff_eq, beq_eq_false_iff_ne, ne_eq, decide_eq_decide, true_iff, false_iff, iff_true, iff_false, true_and, and_true, false_or, or_false, Bool.and_true, Bool.and_eq_true, Bool.and_eq_false_iff, Bool.or_eq_true, Bool.or_eq_false_iff, List.length_cons, List.length_nil] at h) <;> (try (exfalso; first | omega | exact h rfl | (cases h; done) | exact absurd h (by assumption) | exact h (by assumption) | (simp at h; done)))) | refine ⟨⟨by (first | omega | (simp only [lenS]; omega)), by (first | omega | (simp only [lenS]; omega))⟩, _, by assumption, by rfl, ?_⟩ | refine .inl ⟨⟨by (first | omega | (simp only [lenS]; omega)), by (first | omega | (simp only [lenS]; omega))⟩, ?_⟩ | refine ⟨⟨by (first | omega | (simp only [lenS]; omega)), by (first | omega | (simp only [lenS]; omega))⟩, ?_⟩ | refine ⟨⟨by (first | omega | (simp only [lenS]; omega)), by (first | omega | (simp only [lenS]; omega)), by (first | omega | (simp only [lenS]; omega))⟩, ?_⟩ | refine ⟨.inl rfl, ?_⟩ | refine ⟨.inr (.inl (by (first | omega | (simp only [lenS]; omega)))), ?_⟩ | refine ⟨_, rfl, rfl, by (first | exact Nat.le_refl _ | exact Nat.le_of_ble_eq_true rfl | decide), ?_⟩ | refine ⟨_, rfl, by (first | exact Nat.le_refl _ | exact Nat.le_of_ble_eq_true rfl | decide), ?_⟩ | refine ⟨by (first | exact Nat.le_refl _ | exact Nat.le_of_ble_eq_true rfl | decide | exact rfl), ?_⟩ | refine ⟨show _ ≤ (9223372036854775807 : Nat) by (first | omega | (simp only [lenS]; omega)), ?_⟩ | refine ⟨show _ ≠ (0 : Int) by (first | omega | (simp only [lenS]; omega)), ?_⟩ | refine ⟨_, rfl, _, rfl, ?_⟩ | refine ⟨_, by assumption, Nat.le_of_ble_eq_true rfl, ?_⟩ | refine ⟨_, by assumption, _, rfl, ?_⟩ | refine ⟨_, rfl, ?_⟩ | fail)
    exact out _ _ hI

theorem _root_.Go.Aw.CallsAbs.fin {P : Program} {f : FuncId} {args : List AV} {σ : Store} {R : AV → Store → Prop} (hout : Callable P f) (h : CallsAbs P f args σ fun r σ1 => ∃ r' σ', FinMove σ r σ1 r' σ' ∧ R r' σ') : CallsAbs P f args σ R := by
  rcases h with h | ⟨fn, e, h1, h2, h3, h4⟩
  · exact .inl h.fin
  · obtain ⟨fn', q1, q2, q3⟩ := hout
    rw [h1] at q1
    cases q1
    rw [h3] at q3; cases q3
theorem Tokens_ok (s : List UInt8) (hs : s.length < 1000000) : PureC Try.prog 21 [.d (.str s)] (.d (.sl (toksD (toks s)))) := by
  refine PureC.of rfl rfl (CallsAbs.fin ⟨_, Try.func21, by decide +kernel, rfl⟩ ((TokensO_ok s hs).mono ?_))
  rintro _ _ ⟨rfl, rfl⟩
  exact ⟨.d (.sl (toksD (toks s))), ⟨0, []⟩, fin_ownD rfl (rowsD_d _) (toksD_len _).symm, rfl, rfl⟩

end Go.Proofs.Ytcmkiancbgmmhaa
