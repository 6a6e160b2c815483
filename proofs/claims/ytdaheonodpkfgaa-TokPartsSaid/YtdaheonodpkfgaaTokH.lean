import Derived.Test.YtdaheonodpkfgaaTokG
namespace Go.Proofs.Ytdaheonodpkfgaa
open Go.Aw
set_option maxHeartbeats 1600000
set_option linter.unusedSimpArgs false
set_option linter.unusedVariables false

def NextK (s : List UInt8) (l : List Tok) (x : List UInt8) (r : AV) (σ' : Store) : Prop := match step x with
  | some (e, r') => r = .d (.bool true) ∧ ((e = [] ∧ σ' = rdS s (s.length - r'.length) l) ∨ (e ≠ [] ∧ σ' = rdS2 s (s.length - r'.length) (l ++ e)))
  | none => ∃ m, m ≤ s.length ∧ r = .d (.bool false) ∧ σ' = rdS s m l

theorem kind_cases {x : List UInt8} (hk : kindL x ≠ 0) : ∃ c r, x = 60 :: c :: r ∧
    ((kindL x = 1 ∧ hasPre x [60, 33, 45, 45] = true ∧ c = 33) ∨
     (hasPre x [60, 33, 45, 45] = false ∧ ((kindL x = 3 ∧ (c = 33 ∨ c = 63)) ∨ (kindL x = 4 ∧ ltrB c = true ∧ c ≠ 47) ∨
       (c = 47 ∧ ∃ d r', r = d :: r' ∧ ((kindL x = 2 ∧ d = 62) ∨ (kindL x = 5 ∧ ltrB d = true ∧ d ≠ 62) ∨ (kindL x = 3 ∧ ltrB d = false ∧ d ≠ 62)))))) := by
  obtain ⟨c, r, rfl⟩ := kind_pos hk
  refine ⟨c, r, rfl, ?_⟩
  have e1 : hasPre (60 :: c :: r) [60, 33, 45, 45] = hasPre (c :: r) [33, 45, 45] := by simp [hasPre]
  rw [e1]
  unfold kindL at hk ⊢
  simp only [if_true] at hk ⊢
  by_cases h1 : hasPre (c :: r) [33, 45, 45] = true
  · refine .inl ⟨by rw [if_pos h1], h1, ?_⟩
    simp [hasPre] at h1; exact h1.2.1
  · refine .inr ⟨by simpa using h1, ?_⟩
    rw [if_neg h1] at hk ⊢
    by_cases h2 : c = 33 ∨ c = 63
    · exact .inl ⟨if_pos h2, h2⟩
    · rw [if_neg h2] at hk ⊢
      by_cases h3 : ltrB c = true
      · rw [if_pos h3] at hk ⊢
        exact .inr (.inl ⟨rfl, h3, fun e => by subst e; revert h3; decide⟩)
      · rw [if_neg h3] at hk ⊢
        by_cases h4 : c = 47
        · rw [if_pos h4] at hk ⊢
          cases r with
          | nil => exact absurd rfl hk
          | cons d r' =>
            refine .inr (.inr ⟨h4, d, r', rfl, ?_⟩)
            dsimp only
            by_cases h5 : d = 62
            · exact .inl ⟨if_pos h5, h5⟩
            · rw [if_neg h5]
              by_cases h6 : ltrB d = true
              · exact .inr (.inl ⟨if_pos h6, h6, h5⟩)
              · exact .inr (.inr ⟨if_neg h6, by simpa using h6, h5⟩)
        · rw [if_neg h4] at hk
          exact absurd rfl hk

set_option maxRecDepth 100000 in
theorem next_text (s : List UInt8) (n : Nat) (l : List Tok) (hn : n < s.length) (hs : s.length ≤ 1000000) (hl : l.length ≤ 1000000) (hk : kindL (s.drop n) = 0) :
    CallsAbs Try.prog 21 [.ref 0 0 0] (rdS s n l) (NextK s l (s.drop n)) := by
  have hd1 := left_any s n l (by omega) (rdS s n l) rfl rfl
  have hd2 := plain_any s n l hn (rdS s n l) rfl rfl
  have hd3 := text_ok s n l (by omega) hs hl
  have hle := runN_le plainB (s.drop n)
  have hlen : ((s.drop n).drop (runN plainB (s.drop n))).length = s.length - n - runN plainB (s.drop n) := by simp [Nat.sub_sub]
  rw [List.length_drop] at hle
  have hst : step (s.drop n) = some ([textT (resolve ((s.drop n).take (runN plainB (s.drop n))))], (s.drop n).drop (runN plainB (s.drop n))) := by unfold step; rw [hk]; rfl
  have hp : plainB (s.drop n) = true := by unfold plainB; rw [hk]; rfl
  rw [hp] at hd2
  unfold NextK
  rw [hst]
  refine fn_okT Try.wf Try.tab_ok Try.func21 (by decide +kernel) rfl rfl ?_
  repeat' (first |            refine CallsAbs.use1 hd1 ?_ | refine CallsAbs.use1 hd2 ?_ | refine CallsAbs.use1 hd3 ?_ |          refine ⟨fun _ => ?_, fun h => absurd h (by decide)⟩ | refine ⟨fun h => absurd h (by decide), fun _ => ?_⟩ | (refine ⟨fun h => ?_, fun h => ?_⟩ <;> (try simp only [decide_eq_true_eq, decide_eq_false_iff_not, Bool.not_eq_true', Bool.not_eq_false', Bool.not_eq_true, Bool.not_eq_false, not_true_eq_false, beq_iff_eq, beq_eq_false_iff_ne, ne_eq, decide_eq_decide, true_iff, false_iff, iff_true, iff_false, true_and, and_true, false_or, or_false, Bool.and_true, Bool.and_eq_true, Bool.and_eq_false_iff, Bool.or_eq_true, Bool.or_eq_false_iff, List.length_cons, List.length_nil] at h) <;> (try (exfalso; first | omega | exact h rfl | (cases h; done) | exact absurd h (by assumption)))) | refine ⟨⟨by (first | omega | (simp only [List.length_append, List.length_cons, List.length_nil, List.length_drop, List.length_take]; omega)), by (first | omega | (simp only [List.length_append, List.length_cons, List.length_nil, List.length_drop, List.length_take]; omega))⟩, _, by assumption, by rfl, ?_⟩ | refine .inl ⟨⟨by (first | omega | (simp only [List.length_append, List.length_cons, List.length_nil, List.length_drop, List.length_take]; omega)), by (first | omega | (simp only [List.length_append, List.length_cons, List.length_nil, List.length_drop, List.length_take]; omega))⟩, ?_⟩ | refine ⟨⟨by (first | omega | (simp only [List.length_append, List.length_cons, List.length_nil, List.length_drop, List.length_take]; omega)), by (first | omega | (simp only [List.length_append, List.length_cons, List.length_nil, List.length_drop, List.length_take]; omega))⟩, ?_⟩ | refine ⟨⟨by (first | omega | (simp only [List.length_append, List.length_cons, List.length_nil, List.length_drop, List.length_take]; omega)), by (first | omega | (simp only [List.length_append, List.length_cons, List.length_nil, List.length_drop, List.length_take]; omega)), by (first | omega | (simp only [List.length_append, List.length_cons, List.length_nil, List.length_drop, List.length_take]; omega))⟩, ?_⟩ | refine ⟨.inl rfl, ?_⟩ | refine ⟨.inr (.inl (by (first | omega | (simp only [List.length_append, List.length_cons, List.length_nil, List.length_drop, List.length_take]; omega)))), ?_⟩ | refine ⟨_, rfl, rfl, by (first | exact Nat.le_refl _ | exact Nat.le_of_ble_eq_true rfl | decide), ?_⟩ | refine ⟨_, rfl, by (first | exact Nat.le_refl _ | exact Nat.le_of_ble_eq_true rfl | decide), ?_⟩ | refine ⟨by (first | exact Nat.le_refl _ | exact Nat.le_of_ble_eq_true rfl | decide | exact rfl), ?_⟩ | refine ⟨show _ ≤ (9223372036854775807 : Nat) by (first | omega | (simp only [List.length_append, List.length_cons, List.length_nil, List.length_drop, List.length_take]; omega)), ?_⟩ | refine ⟨show _ ≠ (0 : Int) by (first | omega | (simp only [List.length_append, List.length_cons, List.length_nil, List.length_drop, List.length_take]; omega)), ?_⟩ | refine ⟨_, rfl, _, rfl, ?_⟩ | refine ⟨_, by assumption, Nat.le_of_ble_eq_true rfl, ?_⟩ | refine ⟨_, by assumption, _, rfl, ?_⟩ | refine ⟨_, rfl, ?_⟩ | fail)
  exact ⟨_, _, FinMove.refl _ _ _, rfl, .inr ⟨by simp, by rw [hlen, show s.length - (s.length - n - runN plainB (s.drop n)) = n + runN plainB (s.drop n) by omega]⟩⟩

set_option maxRecDepth 100000 in
theorem next_over (s : List UInt8) (n : Nat) (l : List Tok) (hn : n < s.length) (hs : s.length ≤ 1000000) (hl : l.length ≤ 1000000) (hk : kindL (s.drop n) = 2 ∨ kindL (s.drop n) = 3) :
    CallsAbs Try.prog 21 [.ref 0 0 0] (rdS s n l) (NextK s l (s.drop n)) := by
  have hd1 := left_any s n l (by omega) (rdS s n l) rfl rfl
  have hd2 := plain_any s n l hn (rdS s n l) rfl rfl
  have hd3 := over_ok s n l [62] (by simp) (by simp) (by omega) hs
  have hp : plainB (s.drop n) = false := by unfold plainB; rw [decide_eq_false_iff_not]; omega
  rw [hp] at hd2
  have hc1 := HasPrefix_ok (s.drop n) [60, 33, 45, 45]
  have hc2 := HasPrefix_ok (s.drop n) [60, 47, 62]
  obtain ⟨c, r, hx, hcs⟩ := kind_cases (show kindL (s.drop n) ≠ 0 by omega)
  have hc3 := letter_ok c
  have hlx : (s.drop n).length = s.length - n := by simp
  rcases hcs with ⟨h1, _⟩ | ⟨h0, ⟨h1, h2⟩ | ⟨h1, _⟩ | ⟨rfl, d, r', rfl, ⟨h1, rfl⟩ | ⟨h1, _⟩ | ⟨h1, h2, h3⟩⟩⟩
  · omega
  · have hst : step (s.drop n) = some ([], (s.drop n).drop (toN [62] (s.drop n) + 1)) := by unfold step; rw [h1]; rfl
    unfold NextK
    rw [hst]
    rw [h0] at hc1
    have h3 : hasPre (s.drop n) [60, 47, 62] = false := by
      rw [hx]; rcases h2 with rfl | rfl <;> simp [hasPre]
    rw [h3] at hc2
    have h4 : ltrB c = false := by rcases h2 with rfl | rfl <;> rfl
    rw [h4] at hc3
    have h5 : ¬ (((60 :: c :: r).getD (1 : Int).toNat 0).toNat : Int) = 47 := by
      rcases h2 with rfl | rfl
      · exact (by decide : ¬ ((33 : UInt8).toNat : Int) = 47)
      · exact (by decide : ¬ ((63 : UInt8).toNat : Int) = 47)
    rw [hx] at hd1 hc1 hc2 hlx
    simp only [List.length_cons] at hlx
    refine fn_okT Try.wf Try.tab_ok Try.func21 (by decide +kernel) rfl rfl ?_
    repeat' (first | refine PureC.use hc1 ?_ | refine PureC.use hc2 ?_ | refine PureC.use hc3 ?_ | refine PureC.use hc4 ?_ |        refine CallsAbs.use1 hd1 ?_ | refine CallsAbs.use1 hd2 ?_ | refine CallsAbs.use1 hd3 ?_ |          refine ⟨fun _ => ?_, fun h => absurd h (by decide)⟩ | refine ⟨fun h => absurd h (by decide), fun _ => ?_⟩ | (refine ⟨fun h => ?_, fun h => ?_⟩ <;> (try simp only [decide_eq_true_eq, decide_eq_false_iff_not, Bool.not_eq_true', Bool.not_eq_false', Bool.not_eq_true, Bool.not_eq_false, not_true_eq_false, beq_iff_eq, beq_eq_false_iff_ne, ne_eq, decide_eq_decide, true_iff, false_iff, iff_true, iff_false, true_and, and_true, false_or, or_false, Bool.and_true, Bool.and_eq_true, Bool.and_eq_false_iff, Bool.or_eq_true, Bool.or_eq_false_iff, List.length_cons, List.length_nil] at h) <;> (try (exfalso; first | omega | exact h rfl | (cases h; done) | exact absurd h (by assumption)))) | refine ⟨⟨by (first | omega | (simp only [List.length_append, List.length_cons, List.length_nil, List.length_drop, List.length_take]; omega)), by (first | omega | (simp only [List.length_append, List.length_cons, List.length_nil, List.length_drop, List.length_take]; omega))⟩, _, by assumption, by rfl, ?_⟩ | refine .inl ⟨⟨by (first | omega | (simp only [List.length_append, List.length_cons, List.length_nil, List.length_drop, List.length_take]; omega)), by (first | omega | (simp only [List.length_append, List.length_cons, List.length_nil, List.length_drop, List.length_take]; omega))⟩, ?_⟩ | refine ⟨⟨by (first | omega | (simp only [List.length_append, List.length_cons, List.length_nil, List.length_drop, List.length_take]; omega)), by (first | omega | (simp only [List.length_append, List.length_cons, List.length_nil, List.length_drop, List.length_take]; omega))⟩, ?_⟩ | refine ⟨⟨by (first | omega | (simp only [List.length_append, List.length_cons, List.length_nil, List.length_drop, List.length_take]; omega)), by (first | omega | (simp only [List.length_append, List.length_cons, List.length_nil, List.length_drop, List.length_take]; omega)), by (first | omega | (simp only [List.length_append, List.length_cons, List.length_nil, List.length_drop, List.length_take]; omega))⟩, ?_⟩ | refine ⟨.inl rfl, ?_⟩ | refine ⟨.inr (.inl (by (first | omega | (simp only [List.length_append, List.length_cons, List.length_nil, List.length_drop, List.length_take]; omega)))), ?_⟩ | refine ⟨_, rfl, rfl, by (first | exact Nat.le_refl _ | exact Nat.le_of_ble_eq_true rfl | decide), ?_⟩ | refine ⟨_, rfl, by (first | exact Nat.le_refl _ | exact Nat.le_of_ble_eq_true rfl | decide), ?_⟩ | refine ⟨by (first | exact Nat.le_refl _ | exact Nat.le_of_ble_eq_true rfl | decide | exact rfl), ?_⟩ | refine ⟨show _ ≤ (9223372036854775807 : Nat) by (first | omega | (simp only [List.length_append, List.length_cons, List.length_nil, List.length_drop, List.length_take]; omega)), ?_⟩ | refine ⟨show _ ≠ (0 : Int) by (first | omega | (simp only [List.length_append, List.length_cons, List.length_nil, List.length_drop, List.length_take]; omega)), ?_⟩ | refine ⟨_, rfl, _, rfl, ?_⟩ | refine ⟨_, by assumption, Nat.le_of_ble_eq_true rfl, ?_⟩ | refine ⟨_, by assumption, _, rfl, ?_⟩ | refine ⟨_, rfl, ?_⟩ | fail)
    exact ⟨_, _, FinMove.refl _ _ _, rfl, .inl ⟨rfl, rfl⟩⟩
  · omega
  · have hst : step (s.drop n) = some ([], (s.drop n).drop 3) := by unfold step; rw [h1]; rfl
    unfold NextK
    rw [hst]
    rw [h0] at hc1
    have h3 : hasPre (s.drop n) [60, 47, 62] = true := by rw [hx]; simp [hasPre]
    rw [h3] at hc2
    have hl3 : ((s.drop n).drop 3).length = s.length - n - 3 := by simp; omega
    rw [hx] at hd1 hc1 hc2 hlx
    simp only [List.length_cons] at hlx
    refine fn_okT Try.wf Try.tab_ok Try.func21 (by decide +kernel) rfl rfl ?_
    repeat' (first | refine PureC.use hc1 ?_ | refine PureC.use hc2 ?_ | refine PureC.use hc3 ?_ | refine PureC.use hc4 ?_ |        refine CallsAbs.use1 hd1 ?_ | refine CallsAbs.use1 hd2 ?_ | refine CallsAbs.use1 hd3 ?_ |          refine ⟨fun _ => ?_, fun h => absurd h (by decide)⟩ | refine ⟨fun h => absurd h (by decide), fun _ => ?_⟩ | (refine ⟨fun h => ?_, fun h => ?_⟩ <;> (try simp only [decide_eq_true_eq, decide_eq_false_iff_not, Bool.not_eq_true', Bool.not_eq_false', Bool.not_eq_true, Bool.not_eq_false, not_true_eq_false, beq_iff_eq, beq_eq_false_iff_ne, ne_eq, decide_eq_decide, true_iff, false_iff, iff_true, iff_false, true_and, and_true, false_or, or_false, Bool.and_true, Bool.and_eq_true, Bool.and_eq_false_iff, Bool.or_eq_true, Bool.or_eq_false_iff, List.length_cons, List.length_nil] at h) <;> (try (exfalso; first | omega | exact h rfl | (cases h; done) | exact absurd h (by assumption)))) | refine ⟨⟨by (first | omega | (simp only [List.length_append, List.length_cons, List.length_nil, List.length_drop, List.length_take]; omega)), by (first | omega | (simp only [List.length_append, List.length_cons, List.length_nil, List.length_drop, List.length_take]; omega))⟩, _, by assumption, by rfl, ?_⟩ | refine .inl ⟨⟨by (first | omega | (simp only [List.length_append, List.length_cons, List.length_nil, List.length_drop, List.length_take]; omega)), by (first | omega | (simp only [List.length_append, List.length_cons, List.length_nil, List.length_drop, List.length_take]; omega))⟩, ?_⟩ | refine ⟨⟨by (first | omega | (simp only [List.length_append, List.length_cons, List.length_nil, List.length_drop, List.length_take]; omega)), by (first | omega | (simp only [List.length_append, List.length_cons, List.length_nil, List.length_drop, List.length_take]; omega))⟩, ?_⟩ | refine ⟨⟨by (first | omega | (simp only [List.length_append, List.length_cons, List.length_nil, List.length_drop, List.length_take]; omega)), by (first | omega | (simp only [List.length_append, List.length_cons, List.length_nil, List.length_drop, List.length_take]; omega)), by (first | omega | (simp only [List.length_append, List.length_cons, List.length_nil, List.length_drop, List.length_take]; omega))⟩, ?_⟩ | refine ⟨.inl rfl, ?_⟩ | refine ⟨.inr (.inl (by (first | omega | (simp only [List.length_append, List.length_cons, List.length_nil, List.length_drop, List.length_take]; omega)))), ?_⟩ | refine ⟨_, rfl, rfl, by (first | exact Nat.le_refl _ | exact Nat.le_of_ble_eq_true rfl | decide), ?_⟩ | refine ⟨_, rfl, by (first | exact Nat.le_refl _ | exact Nat.le_of_ble_eq_true rfl | decide), ?_⟩ | refine ⟨by (first | exact Nat.le_refl _ | exact Nat.le_of_ble_eq_true rfl | decide | exact rfl), ?_⟩ | refine ⟨show _ ≤ (9223372036854775807 : Nat) by (first | omega | (simp only [List.length_append, List.length_cons, List.length_nil, List.length_drop, List.length_take]; omega)), ?_⟩ | refine ⟨show _ ≠ (0 : Int) by (first | omega | (simp only [List.length_append, List.length_cons, List.length_nil, List.length_drop, List.length_take]; omega)), ?_⟩ | refine ⟨_, rfl, _, rfl, ?_⟩ | refine ⟨_, by assumption, Nat.le_of_ble_eq_true rfl, ?_⟩ | refine ⟨_, by assumption, _, rfl, ?_⟩ | refine ⟨_, rfl, ?_⟩ | fail)
    refine ⟨.d (.bool true), rdS s (s.length - ((s.drop n).drop 3).length) l, ?_, rfl, .inl ⟨rfl, rfl⟩⟩
    rw [hl3]
    exact fin_mv [] rfl rfl rfl (store_out s n _ l _ (by omega)) rfl
  · omega
  · have hst : step (s.drop n) = some ([], (s.drop n).drop (toN [62] (s.drop n) + 1)) := by unfold step; rw [h1]; rfl
    unfold NextK
    rw [hst]
    rw [h0] at hc1
    have h4 : hasPre (s.drop n) [60, 47, 62] = false := by
      rw [hx]; simp [hasPre]; exact h3
    rw [h4] at hc2
    have h5 : ltrB 47 = false := rfl
    rw [h5] at hc3
    have hc4 := letter_ok d
    rw [h2] at hc4
    rw [hx] at hd1 hc1 hc2 hlx
    simp only [List.length_cons] at hlx
    refine fn_okT Try.wf Try.tab_ok Try.func21 (by decide +kernel) rfl rfl ?_
    repeat' (first | refine PureC.use hc1 ?_ | refine PureC.use hc2 ?_ | refine PureC.use hc3 ?_ | refine PureC.use hc4 ?_ |        refine CallsAbs.use1 hd1 ?_ | refine CallsAbs.use1 hd2 ?_ | refine CallsAbs.use1 hd3 ?_ |          refine ⟨fun _ => ?_, fun h => absurd h (by decide)⟩ | refine ⟨fun h => absurd h (by decide), fun _ => ?_⟩ | (refine ⟨fun h => ?_, fun h => ?_⟩ <;> (try simp only [decide_eq_true_eq, decide_eq_false_iff_not, Bool.not_eq_true', Bool.not_eq_false', Bool.not_eq_true, Bool.not_eq_false, not_true_eq_false, beq_iff_eq, beq_eq_false_iff_ne, ne_eq, decide_eq_decide, true_iff, false_iff, iff_true, iff_false, true_and, and_true, false_or, or_false, Bool.and_true, Bool.and_eq_true, Bool.and_eq_false_iff, Bool.or_eq_true, Bool.or_eq_false_iff, List.length_cons, List.length_nil] at h) <;> (try (exfalso; first | omega | exact h rfl | (cases h; done) | exact absurd h (by assumption)))) | refine ⟨⟨by (first | omega | (simp only [List.length_append, List.length_cons, List.length_nil, List.length_drop, List.length_take]; omega)), by (first | omega | (simp only [List.length_append, List.length_cons, List.length_nil, List.length_drop, List.length_take]; omega))⟩, _, by assumption, by rfl, ?_⟩ | refine .inl ⟨⟨by (first | omega | (simp only [List.length_append, List.length_cons, List.length_nil, List.length_drop, List.length_take]; omega)), by (first | omega | (simp only [List.length_append, List.length_cons, List.length_nil, List.length_drop, List.length_take]; omega))⟩, ?_⟩ | refine ⟨⟨by (first | omega | (simp only [List.length_append, List.length_cons, List.length_nil, List.length_drop, List.length_take]; omega)), by (first | omega | (simp only [List.length_append, List.length_cons, List.length_nil, List.length_drop, List.length_take]; omega))⟩, ?_⟩ | refine ⟨⟨by (first | omega | (simp only [List.length_append, List.length_cons, List.length_nil, List.length_drop, List.length_take]; omega)), by (first | omega | (simp only [List.length_append, List.length_cons, List.length_nil, List.length_drop, List.length_take]; omega)), by (first | omega | (simp only [List.length_append, List.length_cons, List.length_nil, List.length_drop, List.length_take]; omega))⟩, ?_⟩ | refine ⟨.inl rfl, ?_⟩ | refine ⟨.inr (.inl (by (first | omega | (simp only [List.length_append, List.length_cons, List.length_nil, List.length_drop, List.length_take]; omega)))), ?_⟩ | refine ⟨_, rfl, rfl, by (first | exact Nat.le_refl _ | exact Nat.le_of_ble_eq_true rfl | decide), ?_⟩ | refine ⟨_, rfl, by (first | exact Nat.le_refl _ | exact Nat.le_of_ble_eq_true rfl | decide), ?_⟩ | refine ⟨by (first | exact Nat.le_refl _ | exact Nat.le_of_ble_eq_true rfl | decide | exact rfl), ?_⟩ | refine ⟨show _ ≤ (9223372036854775807 : Nat) by (first | omega | (simp only [List.length_append, List.length_cons, List.length_nil, List.length_drop, List.length_take]; omega)), ?_⟩ | refine ⟨show _ ≠ (0 : Int) by (first | omega | (simp only [List.length_append, List.length_cons, List.length_nil, List.length_drop, List.length_take]; omega)), ?_⟩ | refine ⟨_, rfl, _, rfl, ?_⟩ | refine ⟨_, by assumption, Nat.le_of_ble_eq_true rfl, ?_⟩ | refine ⟨_, by assumption, _, rfl, ?_⟩ | refine ⟨_, rfl, ?_⟩ | fail)
    exact ⟨_, _, FinMove.refl _ _ _, rfl, .inl ⟨rfl, rfl⟩⟩

set_option maxRecDepth 100000 in
theorem next_note (s : List UInt8) (n : Nat) (l : List Tok) (hn : n < s.length) (hs : s.length ≤ 1000000) (hl : l.length ≤ 1000000) (hk : kindL (s.drop n) = 1) :
    CallsAbs Try.prog 21 [.ref 0 0 0] (rdS s n l) (NextK s l (s.drop n)) := by
  have hd1 := left_any s n l (by omega) (rdS s n l) rfl rfl
  have hd2 := plain_any s n l hn (rdS s n l) rfl rfl
  have hp : plainB (s.drop n) = false := by unfold plainB; rw [decide_eq_false_iff_not]; omega
  rw [hp] at hd2
  have hc1 := HasPrefix_ok (s.drop n) [60, 33, 45, 45]
  have hlx : (s.drop n).length = s.length - n := by simp
  have h1 : hasPre (s.drop n) [60, 33, 45, 45] = true := by
    obtain ⟨c, r, hx, hcs⟩ := kind_cases (show kindL (s.drop n) ≠ 0 by omega)
    rcases hcs with ⟨_, h, _⟩ | ⟨_, ⟨h, _⟩ | ⟨h, _⟩ | ⟨_, _, _, _, ⟨h, _⟩ | ⟨h, _⟩ | ⟨h, _⟩⟩⟩
    · exact h
    all_goals omega
  have h4 : n + 4 ≤ s.length := by have := hasPre_len h1; rw [hlx] at this; simp only [List.length_cons, List.length_nil] at this; omega
  rw [h1] at hc1
  have hst : step (s.drop n) = some ([noteT ((s.drop (n + 4)).take (toN [45, 45, 62] (s.drop (n + 4))))], (s.drop (n + 4)).drop (toN [45, 45, 62] (s.drop (n + 4)) + 3)) := by rw [← show (s.drop n).drop 4 = s.drop (n + 4) by rw [List.drop_drop]]; unfold step; rw [hk]; rfl
  have hd3 := over_ok s (n + 4) l [45, 45, 62] (by simp) (by simp) (by omega) hs
  have he1 := over_any s (n + 4) l [45, 45, 62] (by simp) (by simp) (by omega) hs
  unfold NextK
  rw [hst]
  generalize (s.drop (n + 4)).take (toN [45, 45, 62] (s.drop (n + 4))) = y at *
  have hm : s.length - ((s.drop (n + 4)).drop (toN [45, 45, 62] (s.drop (n + 4)) + 3)).length = s.length - ((s.drop (n + 4)).drop (toN [45, 45, 62] (s.drop (n + 4)) + ([45, 45, 62] : List UInt8).length)).length := rfl
  dsimp only
  rw [hm]
  clear hm
  generalize s.length - ((s.drop (n + 4)).drop (toN [45, 45, 62] (s.drop (n + 4)) + ([45, 45, 62] : List UInt8).length)).length = m at *
  have hb1 := tok_sub 4 [] y
  refine fn_okT Try.wf Try.tab_ok Try.func21 (by decide +kernel) rfl rfl ?_
  repeat' (first | refine PureC.use hc1 ?_ |           refine CallsAbs.use1 hd1 ?_ | refine CallsAbs.use1 hd2 ?_ | refine CallsAbs.use1 hd3 ?_ |  refine CallsAbs.use1 (he1 _ (by rfl) (by rfl)) ?_ |        refine ⟨fun _ => ?_, fun h => absurd h (by decide)⟩ | refine ⟨fun h => absurd h (by decide), fun _ => ?_⟩ | (refine ⟨fun h => ?_, fun h => ?_⟩ <;> (try simp only [decide_eq_true_eq, decide_eq_false_iff_not, Bool.not_eq_true', Bool.not_eq_false', Bool.not_eq_true, Bool.not_eq_false, not_true_eq_false, beq_iff_eq, beq_eq_false_iff_ne, ne_eq, decide_eq_decide, true_iff, false_iff, iff_true, iff_false, true_and, and_true, false_or, or_false, Bool.and_true, Bool.and_eq_true, Bool.and_eq_false_iff, Bool.or_eq_true, Bool.or_eq_false_iff, List.length_cons, List.length_nil] at h) <;> (try (exfalso; first | omega | exact h rfl | (cases h; done) | exact absurd h (by assumption)))) | refine ⟨⟨by (first | omega | (simp only [List.length_append, List.length_cons, List.length_nil, List.length_drop, List.length_take]; omega)), by (first | omega | (simp only [List.length_append, List.length_cons, List.length_nil, List.length_drop, List.length_take]; omega))⟩, _, by assumption, by rfl, ?_⟩ | refine .inl ⟨⟨by (first | omega | (simp only [List.length_append, List.length_cons, List.length_nil, List.length_drop, List.length_take]; omega)), by (first | omega | (simp only [List.length_append, List.length_cons, List.length_nil, List.length_drop, List.length_take]; omega))⟩, ?_⟩ | refine ⟨⟨by (first | omega | (simp only [List.length_append, List.length_cons, List.length_nil, List.length_drop, List.length_take]; omega)), by (first | omega | (simp only [List.length_append, List.length_cons, List.length_nil, List.length_drop, List.length_take]; omega))⟩, ?_⟩ | refine ⟨⟨by (first | omega | (simp only [List.length_append, List.length_cons, List.length_nil, List.length_drop, List.length_take]; omega)), by (first | omega | (simp only [List.length_append, List.length_cons, List.length_nil, List.length_drop, List.length_take]; omega)), by (first | omega | (simp only [List.length_append, List.length_cons, List.length_nil, List.length_drop, List.length_take]; omega))⟩, ?_⟩ | refine ⟨.inl rfl, ?_⟩ | refine ⟨.inr (.inl (by (first | omega | (simp only [List.length_append, List.length_cons, List.length_nil, List.length_drop, List.length_take]; omega)))), ?_⟩ | refine ⟨_, rfl, rfl, by (first | exact Nat.le_refl _ | exact Nat.le_of_ble_eq_true rfl | decide), ?_⟩ | refine ⟨_, rfl, by (first | exact Nat.le_refl _ | exact Nat.le_of_ble_eq_true rfl | decide), ?_⟩ | refine ⟨by (first | exact Nat.le_refl _ | exact Nat.le_of_ble_eq_true rfl | decide | exact rfl), ?_⟩ | refine ⟨show _ ≤ (9223372036854775807 : Nat) by (first | omega | (simp only [List.length_append, List.length_cons, List.length_nil, List.length_drop, List.length_take]; omega)), ?_⟩ | refine ⟨show _ ≠ (0 : Int) by (first | omega | (simp only [List.length_append, List.length_cons, List.length_nil, List.length_drop, List.length_take]; omega)), ?_⟩ | refine ⟨_, rfl, _, rfl, ?_⟩ | refine ⟨_, by assumption, Nat.le_of_ble_eq_true rfl, ?_⟩ | refine ⟨_, by assumption, _, rfl, ?_⟩ | refine ⟨_, rfl, ?_⟩ | fail)
  refine E.view (s' := [(0, .ref 0 0 0)]) (σ' := rdS s (n + 4) l) (Mv.of [] rfl rfl rfl ⟨⟨rfl, .inl ⟨rfl, dataA_pure _⟩⟩, ⟨rfl, .inr ⟨⟨rfl, rfl, ⟨rfl, rfl, rfl⟩, trivial⟩, trivial⟩⟩, trivial⟩ ⟨⟨rfl, rfl, rfl⟩, trivial⟩) ?_
  refine drawnZ Try.wf Try.tab_ok [6, 9, 12] (fun t => match t with
    | 0 => rdS s (n + 4) l
    | 1 => rdS s m l
    | 2 => ⟨3, [(2, outO (l ++ [noteT y])), (0, rdO s m l.length)]⟩
    | _ => rdS2 s m (l ++ [noteT y])) rfl Try.mixed (by decide +kernel) ?_
  iterate 4 refine zblind (by decide +kernel) rfl rfl (fun _ => FinMove.refl _ _ _) ?_
  refine zreadL [0, 1] (by decide +kernel) rfl rfl ⟨⟨_, rfl, _, rfl, FinMove.refl _ _ _⟩, ⟨_, rfl, _, rfl, FinMove.refl _ _ _⟩, trivial⟩ ?_
  refine zblind (by decide +kernel) rfl rfl (fun _ => FinMove.refl _ _ _) ?_
  refine zeff (r := .d (.str y)) rfl rfl rfl (CallsAbs.use1 hd3 (FinMove.refl _ _ _)) ?_
  refine zblind (by decide +kernel) rfl rfl (fun _ => hb1 _) ?_
  refine zreadL (r := .d (.sl [tokD (noteT y)])) [1] (by decide +kernel) rfl rfl ⟨fin_lit rfl rfl rfl ⟨⟨rfl, .inl ⟨rfl, dataA_pure _⟩⟩, ⟨rfl, .inr ⟨⟨rfl, rfl, ⟨rfl, rfl, rfl⟩, trivial⟩, trivial⟩⟩, trivial⟩, trivial⟩ ?_
  refine zeff (r := .own 2 0 (l ++ [noteT y]).length) rfl rfl rfl ?_ ?_
  · refine out_app l (noteT y) (rdS s m l) (fun v σ' => FinMove (rdS s m l) v σ' (.own 2 0 (l ++ [noteT y]).length) ⟨3, [(2, outO (l ++ [noteT y])), (0, rdO s m l.length)]⟩) rfl hl ?_
    exact fin_mv [.old 2] rfl rfl rfl ⟨⟨rfl, .inl ⟨rfl, dataA_pure _⟩⟩, ⟨rfl, .inr ⟨⟨rfl, rfl, ⟨rfl, rfl, rfl⟩, trivial⟩, trivial⟩⟩, trivial⟩ ⟨rfl, rfl, rfl⟩
  iterate 2 refine zblind (by decide +kernel) rfl rfl (fun _ => FinMove.refl _ _ _) ?_
  refine zeff rfl rfl rfl ⟨_, rfl, rfl, Nat.le_of_ble_eq_true rfl, fin_mv (r' := .top) [] rfl rfl rfl ⟨⟨rfl, .inl ⟨rfl, dataA_pure _⟩⟩, ⟨rfl, .inr ⟨⟨rfl, rfl, ⟨rfl, rfl, rfl⟩, trivial⟩, trivial⟩⟩, trivial⟩ trivial⟩ ?_
  repeat' (first | refine PureC.use hc1 ?_ |           refine CallsAbs.use1 hd1 ?_ | refine CallsAbs.use1 hd2 ?_ | refine CallsAbs.use1 hd3 ?_ |  refine CallsAbs.use1 (he1 _ (by rfl) (by rfl)) ?_ |        refine ⟨fun _ => ?_, fun h => absurd h (by decide)⟩ | refine ⟨fun h => absurd h (by decide), fun _ => ?_⟩ | (refine ⟨fun h => ?_, fun h => ?_⟩ <;> (try simp only [decide_eq_true_eq, decide_eq_false_iff_not, Bool.not_eq_true', Bool.not_eq_false', Bool.not_eq_true, Bool.not_eq_false, not_true_eq_false, beq_iff_eq, beq_eq_false_iff_ne, ne_eq, decide_eq_decide, true_iff, false_iff, iff_true, iff_false, true_and, and_true, false_or, or_false, Bool.and_true, Bool.and_eq_true, Bool.and_eq_false_iff, Bool.or_eq_true, Bool.or_eq_false_iff, List.length_cons, List.length_nil] at h) <;> (try (exfalso; first | omega | exact h rfl | (cases h; done) | exact absurd h (by assumption)))) | refine ⟨⟨by (first | omega | (simp only [List.length_append, List.length_cons, List.length_nil, List.length_drop, List.length_take]; omega)), by (first | omega | (simp only [List.length_append, List.length_cons, List.length_nil, List.length_drop, List.length_take]; omega))⟩, _, by assumption, by rfl, ?_⟩ | refine .inl ⟨⟨by (first | omega | (simp only [List.length_append, List.length_cons, List.length_nil, List.length_drop, List.length_take]; omega)), by (first | omega | (simp only [List.length_append, List.length_cons, List.length_nil, List.length_drop, List.length_take]; omega))⟩, ?_⟩ | refine ⟨⟨by (first | omega | (simp only [List.length_append, List.length_cons, List.length_nil, List.length_drop, List.length_take]; omega)), by (first | omega | (simp only [List.length_append, List.length_cons, List.length_nil, List.length_drop, List.length_take]; omega))⟩, ?_⟩ | refine ⟨⟨by (first | omega | (simp only [List.length_append, List.length_cons, List.length_nil, List.length_drop, List.length_take]; omega)), by (first | omega | (simp only [List.length_append, List.length_cons, List.length_nil, List.length_drop, List.length_take]; omega)), by (first | omega | (simp only [List.length_append, List.length_cons, List.length_nil, List.length_drop, List.length_take]; omega))⟩, ?_⟩ | refine ⟨.inl rfl, ?_⟩ | refine ⟨.inr (.inl (by (first | omega | (simp only [List.length_append, List.length_cons, List.length_nil, List.length_drop, List.length_take]; omega)))), ?_⟩ | refine ⟨_, rfl, rfl, by (first | exact Nat.le_refl _ | exact Nat.le_of_ble_eq_true rfl | decide), ?_⟩ | refine ⟨_, rfl, by (first | exact Nat.le_refl _ | exact Nat.le_of_ble_eq_true rfl | decide), ?_⟩ | refine ⟨by (first | exact Nat.le_refl _ | exact Nat.le_of_ble_eq_true rfl | decide | exact rfl), ?_⟩ | refine ⟨show _ ≤ (9223372036854775807 : Nat) by (first | omega | (simp only [List.length_append, List.length_cons, List.length_nil, List.length_drop, List.length_take]; omega)), ?_⟩ | refine ⟨show _ ≠ (0 : Int) by (first | omega | (simp only [List.length_append, List.length_cons, List.length_nil, List.length_drop, List.length_take]; omega)), ?_⟩ | refine ⟨_, rfl, _, rfl, ?_⟩ | refine ⟨_, by assumption, Nat.le_of_ble_eq_true rfl, ?_⟩ | refine ⟨_, by assumption, _, rfl, ?_⟩ | refine ⟨_, rfl, ?_⟩ | fail)
  exact ⟨_, _, FinMove.refl _ _ _, rfl, .inr ⟨by simp, rfl⟩⟩

end Go.Proofs.Ytdaheonodpkfgaa
