import Derived.Test.YtdaheonodpkfgaaTokH
namespace Go.Proofs.Ytdaheonodpkfgaa
open Go.Aw
set_option maxHeartbeats 1600000
set_option linter.unusedSimpArgs false
set_option linter.unusedVariables false

theorem rd_anyE {f : FuncId} {args : List AV} {r0 : AV} (hc : Callable Try.prog f) {s : List UInt8} {n : Nat} {l : List Tok} (hp : pureL args = true) (hr : r0.pure = true)
    (h : CallsAbs Try.prog f (.ref 0 0 0 :: args) (rdS s n l) fun r σ' => ∃ m, m ≤ s.length ∧ r = r0 ∧ σ' = rdS s m l) (σ : Store) (h0 : σ.get 0 = rdO s n l.length) (h1 : σ.get 1 = outO l) :
    CallsAbs Try.prog f (.ref 0 0 0 :: args) σ fun r σ' => ∃ m, m ≤ s.length ∧ r = r0 ∧ σ' = ⟨σ.n, (0, rdO s m l.length) :: (1, outO l) :: σ.objs⟩ := by
  rcases Nat.lt_or_ge 1 σ.n with hn | hn
  · obtain ⟨k, objs⟩ := σ
    obtain ⟨k, rfl⟩ : ∃ j, k = j + 2 := ⟨k - 2, by dsimp only at hn; omega⟩
    refine CallsAbs.frame h [.old 0, .old 1] ⟨Nat.zero_le _, rfl, by simp [goodr, idx], ⟨?_, ?_, trivial⟩⟩ ⟨⟨rfl, rfl, rfl⟩, vrelL_self args hp⟩ ?_
    · show orel _ (outO l) (Store.get ⟨k + 2, objs⟩ 1)
      rw [h1]
      exact ⟨rfl, .inl ⟨rfl, dataA_pure _⟩⟩
    · show orel _ (rdO s n l.length) (Store.get ⟨k + 2, objs⟩ 0)
      rw [h0]
      exact ⟨rfl, .inr ⟨⟨rfl, rfl, ⟨rfl, rfl, rfl⟩, trivial⟩, trivial⟩⟩
    · rintro _ _ ⟨m, hm, rfl, rfl⟩
      exact ⟨_, [(0, rdO s m l.length), (1, outO l)], ⟨⟨rfl, .inr ⟨⟨rfl, rfl, ⟨rfl, rfl, rfl⟩, trivial⟩, trivial⟩⟩, ⟨rfl, .inl ⟨rfl, dataA_pure _⟩⟩, trivial⟩, rfl, vrel_self _ hr, m, hm, rfl, rfl⟩
  · exact .inl ⟨hc, fun g w vs R hL => by
      have := R.dead 1 (by rw [← R.n]; exact hn)
      rw [h1] at this; cases this⟩

theorem tag_some (s : List UInt8) (n : Nat) (l : List Tok) (hn : n ≤ s.length) (hs : s.length ≤ 1000000) {nm : List UInt8} {cl : Bool} {ats : List Attr} {rest : List UInt8} (ht : tagAt (s.drop n) = some (nm, cl, ats, rest)) (σ : Store) (h0 : σ.get 0 = rdO s n l.length) (h1 : σ.get 1 = outO l) :
    CallsAbs Try.prog 38 [.ref 0 0 0] σ fun r σ' => r = .tup [.agg ((tokD (startT nm cl ats)).map .d), .d (.bool true)] ∧ σ' = ⟨σ.n, (0, rdO s (s.length - rest.length) l.length) :: (1, outO l) :: σ.objs⟩ :=
  rd_any ⟨_, Try.func38, by decide +kernel, rfl⟩ rfl rfl (by have := tag_ok s n l hn hs; rw [ht] at this; exact this) σ h0 h1
theorem tag_none (s : List UInt8) (n : Nat) (l : List Tok) (hn : n ≤ s.length) (hs : s.length ≤ 1000000) (ht : tagAt (s.drop n) = none) (σ : Store) (h0 : σ.get 0 = rdO s n l.length) (h1 : σ.get 1 = outO l) :
    CallsAbs Try.prog 38 [.ref 0 0 0] σ fun r σ' => ∃ m, m ≤ s.length ∧ r = .tup [.agg ((tokD ⟨0, [], [], false, []⟩).map .d), .d (.bool false)] ∧ σ' = ⟨σ.n, (0, rdO s m l.length) :: (1, outO l) :: σ.objs⟩ :=
  rd_anyE ⟨_, Try.func38, by decide +kernel, rfl⟩ rfl rfl (by have := tag_ok s n l hn hs; rw [ht] at this; exact this) σ h0 h1

/-- What the tests of 'next' say where a tag begins. -/
theorem tag_tests {x : List UInt8} (hk : kindL x = 4 ∨ kindL x = 5) : ∃ c r, x = 60 :: c :: r ∧ hasPre x [60, 33, 45, 45] = false ∧ hasPre x [60, 47, 62] = false ∧
    ((kindL x = 4 ∧ ltrB c = true) ∨ (kindL x = 5 ∧ ltrB c = false ∧ c = 47 ∧ ∃ d r', r = d :: r' ∧ ltrB d = true)) := by
  obtain ⟨c, r, hx, hcs⟩ := kind_cases (show kindL x ≠ 0 by omega)
  refine ⟨c, r, hx, ?_⟩
  rcases hcs with ⟨h, _⟩ | ⟨h0, ⟨h, _⟩ | ⟨h, h2, h3⟩ | ⟨rfl, d, r', rfl, ⟨h, _⟩ | ⟨h, h2, h3⟩ | ⟨h, _⟩⟩⟩
  · omega
  · omega
  · refine ⟨h0, ?_, .inl ⟨h, h2⟩⟩
    rw [hx]; simp [hasPre, h3]
  · omega
  · refine ⟨h0, ?_, .inr ⟨h, rfl, rfl, d, r', rfl, h2⟩⟩
    rw [hx]; simp [hasPre, h3]
  · omega

set_option maxRecDepth 100000 in
theorem next_stop (s : List UInt8) (n : Nat) (l : List Tok) (hn : n < s.length) (hs : s.length ≤ 1000000) (hl : l.length ≤ 1000000) (hk : kindL (s.drop n) = 4 ∨ kindL (s.drop n) = 5) (hst : step (s.drop n) = none) :
    CallsAbs Try.prog 21 [.ref 0 0 0] (rdS s n l) (NextK s l (s.drop n)) := by
  have hd1 := left_any s n l (by omega) (rdS s n l) rfl rfl
  have hd2 := plain_any s n l hn (rdS s n l) rfl rfl
  have hp : plainB (s.drop n) = false := by unfold plainB; rw [decide_eq_false_iff_not]; omega
  rw [hp] at hd2
  have hc1 := HasPrefix_ok (s.drop n) [60, 33, 45, 45]
  have hc2 := HasPrefix_ok (s.drop n) [60, 47, 62]
  have hlx : (s.drop n).length = s.length - n := by simp
  obtain ⟨c, r, hx, h1, h2, h3⟩ := tag_tests hk
  unfold NextK
  rw [hst]
  rw [h1] at hc1
  rw [h2] at hc2
  have hc3 := letter_ok c
  unfold step at hst
  have hlx2 := hlx
  rw [hx] at hd1 hc1 hc2 hlx
  simp only [List.length_cons] at hlx
  rcases h3 with ⟨h3, h4⟩ | ⟨h3, h4, rfl, d, r', rfl, h5⟩
  · rw [h4] at hc3
    have ht : tagAt (s.drop (n + 1)) = none := by
      rw [← List.drop_drop]
      cases ht : tagAt ((s.drop n).drop 1) with
      | none => rfl
      | some t =>
        simp only [h3, ht] at hst
        by_cases hb : rawB t.1 = true
        · rw [if_pos hb] at hst; cases hst
        · rw [if_neg hb] at hst; cases hst
    have ht2 := tag_none s (n + 1) l (by omega) hs ht
    refine fn_okT Try.wf Try.tab_ok Try.func21 (by decide +kernel) rfl rfl ?_
    repeat' (first | refine PureC.use hc1 ?_ | refine PureC.use hc2 ?_ | refine PureC.use hc3 ?_ | refine PureC.use hc4 ?_ |        refine CallsAbs.use1 hd1 ?_ | refine CallsAbs.use1 hd2 ?_ |           refine ⟨fun _ => ?_, fun h => absurd h (by decide)⟩ | refine ⟨fun h => absurd h (by decide), fun _ => ?_⟩ | (refine ⟨fun h => ?_, fun h => ?_⟩ <;> (try simp only [decide_eq_true_eq, decide_eq_false_iff_not, Bool.not_eq_true', Bool.not_eq_false', Bool.not_eq_true, Bool.not_eq_false, not_true_eq_false, beq_iff_eq, beq_eq_false_iff_ne, ne_eq, decide_eq_decide, true_iff, false_iff, iff_true, iff_false, true_and, and_true, false_or, or_false, Bool.and_true, Bool.and_eq_true, Bool.and_eq_false_iff, Bool.or_eq_true, Bool.or_eq_false_iff, List.length_cons, List.length_nil] at h) <;> (try (exfalso; first | omega | exact h rfl | (cases h; done) | exact absurd h (by assumption)))) | refine ⟨⟨by (first | omega | (simp only [List.length_append, List.length_cons, List.length_nil, List.length_drop, List.length_take]; omega)), by (first | omega | (simp only [List.length_append, List.length_cons, List.length_nil, List.length_drop, List.length_take]; omega))⟩, _, by assumption, by rfl, ?_⟩ | refine .inl ⟨⟨by (first | omega | (simp only [List.length_append, List.length_cons, List.length_nil, List.length_drop, List.length_take]; omega)), by (first | omega | (simp only [List.length_append, List.length_cons, List.length_nil, List.length_drop, List.length_take]; omega))⟩, ?_⟩ | refine ⟨⟨by (first | omega | (simp only [List.length_append, List.length_cons, List.length_nil, List.length_drop, List.length_take]; omega)), by (first | omega | (simp only [List.length_append, List.length_cons, List.length_nil, List.length_drop, List.length_take]; omega))⟩, ?_⟩ | refine ⟨⟨by (first | omega | (simp only [List.length_append, List.length_cons, List.length_nil, List.length_drop, List.length_take]; omega)), by (first | omega | (simp only [List.length_append, List.length_cons, List.length_nil, List.length_drop, List.length_take]; omega)), by (first | omega | (simp only [List.length_append, List.length_cons, List.length_nil, List.length_drop, List.length_take]; omega))⟩, ?_⟩ | refine ⟨.inl rfl, ?_⟩ | refine ⟨.inr (.inl (by (first | omega | (simp only [List.length_append, List.length_cons, List.length_nil, List.length_drop, List.length_take]; omega)))), ?_⟩ | refine ⟨_, rfl, rfl, by (first | exact Nat.le_refl _ | exact Nat.le_of_ble_eq_true rfl | decide), ?_⟩ | refine ⟨_, rfl, by (first | exact Nat.le_refl _ | exact Nat.le_of_ble_eq_true rfl | decide), ?_⟩ | refine ⟨by (first | exact Nat.le_refl _ | exact Nat.le_of_ble_eq_true rfl | decide | exact rfl), ?_⟩ | refine ⟨show _ ≤ (9223372036854775807 : Nat) by (first | omega | (simp only [List.length_append, List.length_cons, List.length_nil, List.length_drop, List.length_take]; omega)), ?_⟩ | refine ⟨show _ ≠ (0 : Int) by (first | omega | (simp only [List.length_append, List.length_cons, List.length_nil, List.length_drop, List.length_take]; omega)), ?_⟩ | refine ⟨_, rfl, _, rfl, ?_⟩ | refine ⟨_, by assumption, Nat.le_of_ble_eq_true rfl, ?_⟩ | refine ⟨_, by assumption, _, rfl, ?_⟩ | refine ⟨_, rfl, ?_⟩ | fail)
    refine (ht2 _ rfl rfl).mono ?_
    rintro _ _ ⟨m, hm, rfl, rfl⟩
    repeat' (first | refine PureC.use hc1 ?_ | refine PureC.use hc2 ?_ | refine PureC.use hc3 ?_ | refine PureC.use hc4 ?_ |        refine CallsAbs.use1 hd1 ?_ | refine CallsAbs.use1 hd2 ?_ |           refine ⟨fun _ => ?_, fun h => absurd h (by decide)⟩ | refine ⟨fun h => absurd h (by decide), fun _ => ?_⟩ | (refine ⟨fun h => ?_, fun h => ?_⟩ <;> (try simp only [decide_eq_true_eq, decide_eq_false_iff_not, Bool.not_eq_true', Bool.not_eq_false', Bool.not_eq_true, Bool.not_eq_false, not_true_eq_false, beq_iff_eq, beq_eq_false_iff_ne, ne_eq, decide_eq_decide, true_iff, false_iff, iff_true, iff_false, true_and, and_true, false_or, or_false, Bool.and_true, Bool.and_eq_true, Bool.and_eq_false_iff, Bool.or_eq_true, Bool.or_eq_false_iff, List.length_cons, List.length_nil] at h) <;> (try (exfalso; first | omega | exact h rfl | (cases h; done) | exact absurd h (by assumption)))) | refine ⟨⟨by (first | omega | (simp only [List.length_append, List.length_cons, List.length_nil, List.length_drop, List.length_take]; omega)), by (first | omega | (simp only [List.length_append, List.length_cons, List.length_nil, List.length_drop, List.length_take]; omega))⟩, _, by assumption, by rfl, ?_⟩ | refine .inl ⟨⟨by (first | omega | (simp only [List.length_append, List.length_cons, List.length_nil, List.length_drop, List.length_take]; omega)), by (first | omega | (simp only [List.length_append, List.length_cons, List.length_nil, List.length_drop, List.length_take]; omega))⟩, ?_⟩ | refine ⟨⟨by (first | omega | (simp only [List.length_append, List.length_cons, List.length_nil, List.length_drop, List.length_take]; omega)), by (first | omega | (simp only [List.length_append, List.length_cons, List.length_nil, List.length_drop, List.length_take]; omega))⟩, ?_⟩ | refine ⟨⟨by (first | omega | (simp only [List.length_append, List.length_cons, List.length_nil, List.length_drop, List.length_take]; omega)), by (first | omega | (simp only [List.length_append, List.length_cons, List.length_nil, List.length_drop, List.length_take]; omega)), by (first | omega | (simp only [List.length_append, List.length_cons, List.length_nil, List.length_drop, List.length_take]; omega))⟩, ?_⟩ | refine ⟨.inl rfl, ?_⟩ | refine ⟨.inr (.inl (by (first | omega | (simp only [List.length_append, List.length_cons, List.length_nil, List.length_drop, List.length_take]; omega)))), ?_⟩ | refine ⟨_, rfl, rfl, by (first | exact Nat.le_refl _ | exact Nat.le_of_ble_eq_true rfl | decide), ?_⟩ | refine ⟨_, rfl, by (first | exact Nat.le_refl _ | exact Nat.le_of_ble_eq_true rfl | decide), ?_⟩ | refine ⟨by (first | exact Nat.le_refl _ | exact Nat.le_of_ble_eq_true rfl | decide | exact rfl), ?_⟩ | refine ⟨show _ ≤ (9223372036854775807 : Nat) by (first | omega | (simp only [List.length_append, List.length_cons, List.length_nil, List.length_drop, List.length_take]; omega)), ?_⟩ | refine ⟨show _ ≠ (0 : Int) by (first | omega | (simp only [List.length_append, List.length_cons, List.length_nil, List.length_drop, List.length_take]; omega)), ?_⟩ | refine ⟨_, rfl, _, rfl, ?_⟩ | refine ⟨_, by assumption, Nat.le_of_ble_eq_true rfl, ?_⟩ | refine ⟨_, by assumption, _, rfl, ?_⟩ | refine ⟨_, rfl, ?_⟩ | fail)
    exact ⟨.d (.bool false), rdS s m l, fin_mv [] rfl rfl rfl ⟨⟨rfl, .inl ⟨rfl, dataA_pure _⟩⟩, ⟨rfl, .inr ⟨⟨rfl, rfl, ⟨rfl, rfl, rfl⟩, trivial⟩, trivial⟩⟩, trivial⟩ rfl, m, hm, rfl, rfl⟩
  · rw [h4] at hc3
    have hc4 := letter_ok d
    rw [h5] at hc4
    have ht : tagAt (s.drop (n + 2)) = none := by
      rw [← List.drop_drop]
      cases ht : tagAt ((s.drop n).drop 2) with
      | none => rfl
      | some t =>
        simp only [h3, ht] at hst
        cases hst
    have ht2 := tag_none s (n + 2) l (by simp only [List.length_cons] at hlx; omega) hs ht
    simp only [List.length_cons] at hlx
    refine fn_okT Try.wf Try.tab_ok Try.func21 (by decide +kernel) rfl rfl ?_
    repeat' (first | refine PureC.use hc1 ?_ | refine PureC.use hc2 ?_ | refine PureC.use hc3 ?_ | refine PureC.use hc4 ?_ |        refine CallsAbs.use1 hd1 ?_ | refine CallsAbs.use1 hd2 ?_ |           refine ⟨fun _ => ?_, fun h => absurd h (by decide)⟩ | refine ⟨fun h => absurd h (by decide), fun _ => ?_⟩ | (refine ⟨fun h => ?_, fun h => ?_⟩ <;> (try simp only [decide_eq_true_eq, decide_eq_false_iff_not, Bool.not_eq_true', Bool.not_eq_false', Bool.not_eq_true, Bool.not_eq_false, not_true_eq_false, beq_iff_eq, beq_eq_false_iff_ne, ne_eq, decide_eq_decide, true_iff, false_iff, iff_true, iff_false, true_and, and_true, false_or, or_false, Bool.and_true, Bool.and_eq_true, Bool.and_eq_false_iff, Bool.or_eq_true, Bool.or_eq_false_iff, List.length_cons, List.length_nil] at h) <;> (try (exfalso; first | omega | exact h rfl | (cases h; done) | exact absurd h (by assumption)))) | refine ⟨⟨by (first | omega | (simp only [List.length_append, List.length_cons, List.length_nil, List.length_drop, List.length_take]; omega)), by (first | omega | (simp only [List.length_append, List.length_cons, List.length_nil, List.length_drop, List.length_take]; omega))⟩, _, by assumption, by rfl, ?_⟩ | refine .inl ⟨⟨by (first | omega | (simp only [List.length_append, List.length_cons, List.length_nil, List.length_drop, List.length_take]; omega)), by (first | omega | (simp only [List.length_append, List.length_cons, List.length_nil, List.length_drop, List.length_take]; omega))⟩, ?_⟩ | refine ⟨⟨by (first | omega | (simp only [List.length_append, List.length_cons, List.length_nil, List.length_drop, List.length_take]; omega)), by (first | omega | (simp only [List.length_append, List.length_cons, List.length_nil, List.length_drop, List.length_take]; omega))⟩, ?_⟩ | refine ⟨⟨by (first | omega | (simp only [List.length_append, List.length_cons, List.length_nil, List.length_drop, List.length_take]; omega)), by (first | omega | (simp only [List.length_append, List.length_cons, List.length_nil, List.length_drop, List.length_take]; omega)), by (first | omega | (simp only [List.length_append, List.length_cons, List.length_nil, List.length_drop, List.length_take]; omega))⟩, ?_⟩ | refine ⟨.inl rfl, ?_⟩ | refine ⟨.inr (.inl (by (first | omega | (simp only [List.length_append, List.length_cons, List.length_nil, List.length_drop, List.length_take]; omega)))), ?_⟩ | refine ⟨_, rfl, rfl, by (first | exact Nat.le_refl _ | exact Nat.le_of_ble_eq_true rfl | decide), ?_⟩ | refine ⟨_, rfl, by (first | exact Nat.le_refl _ | exact Nat.le_of_ble_eq_true rfl | decide), ?_⟩ | refine ⟨by (first | exact Nat.le_refl _ | exact Nat.le_of_ble_eq_true rfl | decide | exact rfl), ?_⟩ | refine ⟨show _ ≤ (9223372036854775807 : Nat) by (first | omega | (simp only [List.length_append, List.length_cons, List.length_nil, List.length_drop, List.length_take]; omega)), ?_⟩ | refine ⟨show _ ≠ (0 : Int) by (first | omega | (simp only [List.length_append, List.length_cons, List.length_nil, List.length_drop, List.length_take]; omega)), ?_⟩ | refine ⟨_, rfl, _, rfl, ?_⟩ | refine ⟨_, by assumption, Nat.le_of_ble_eq_true rfl, ?_⟩ | refine ⟨_, by assumption, _, rfl, ?_⟩ | refine ⟨_, rfl, ?_⟩ | fail)
    refine (ht2 _ rfl rfl).mono ?_
    rintro _ _ ⟨m, hm, rfl, rfl⟩
    repeat' (first | refine PureC.use hc1 ?_ | refine PureC.use hc2 ?_ | refine PureC.use hc3 ?_ | refine PureC.use hc4 ?_ |        refine CallsAbs.use1 hd1 ?_ | refine CallsAbs.use1 hd2 ?_ |           refine ⟨fun _ => ?_, fun h => absurd h (by decide)⟩ | refine ⟨fun h => absurd h (by decide), fun _ => ?_⟩ | (refine ⟨fun h => ?_, fun h => ?_⟩ <;> (try simp only [decide_eq_true_eq, decide_eq_false_iff_not, Bool.not_eq_true', Bool.not_eq_false', Bool.not_eq_true, Bool.not_eq_false, not_true_eq_false, beq_iff_eq, beq_eq_false_iff_ne, ne_eq, decide_eq_decide, true_iff, false_iff, iff_true, iff_false, true_and, and_true, false_or, or_false, Bool.and_true, Bool.and_eq_true, Bool.and_eq_false_iff, Bool.or_eq_true, Bool.or_eq_false_iff, List.length_cons, List.length_nil] at h) <;> (try (exfalso; first | omega | exact h rfl | (cases h; done) | exact absurd h (by assumption)))) | refine ⟨⟨by (first | omega | (simp only [List.length_append, List.length_cons, List.length_nil, List.length_drop, List.length_take]; omega)), by (first | omega | (simp only [List.length_append, List.length_cons, List.length_nil, List.length_drop, List.length_take]; omega))⟩, _, by assumption, by rfl, ?_⟩ | refine .inl ⟨⟨by (first | omega | (simp only [List.length_append, List.length_cons, List.length_nil, List.length_drop, List.length_take]; omega)), by (first | omega | (simp only [List.length_append, List.length_cons, List.length_nil, List.length_drop, List.length_take]; omega))⟩, ?_⟩ | refine ⟨⟨by (first | omega | (simp only [List.length_append, List.length_cons, List.length_nil, List.length_drop, List.length_take]; omega)), by (first | omega | (simp only [List.length_append, List.length_cons, List.length_nil, List.length_drop, List.length_take]; omega))⟩, ?_⟩ | refine ⟨⟨by (first | omega | (simp only [List.length_append, List.length_cons, List.length_nil, List.length_drop, List.length_take]; omega)), by (first | omega | (simp only [List.length_append, List.length_cons, List.length_nil, List.length_drop, List.length_take]; omega)), by (first | omega | (simp only [List.length_append, List.length_cons, List.length_nil, List.length_drop, List.length_take]; omega))⟩, ?_⟩ | refine ⟨.inl rfl, ?_⟩ | refine ⟨.inr (.inl (by (first | omega | (simp only [List.length_append, List.length_cons, List.length_nil, List.length_drop, List.length_take]; omega)))), ?_⟩ | refine ⟨_, rfl, rfl, by (first | exact Nat.le_refl _ | exact Nat.le_of_ble_eq_true rfl | decide), ?_⟩ | refine ⟨_, rfl, by (first | exact Nat.le_refl _ | exact Nat.le_of_ble_eq_true rfl | decide), ?_⟩ | refine ⟨by (first | exact Nat.le_refl _ | exact Nat.le_of_ble_eq_true rfl | decide | exact rfl), ?_⟩ | refine ⟨show _ ≤ (9223372036854775807 : Nat) by (first | omega | (simp only [List.length_append, List.length_cons, List.length_nil, List.length_drop, List.length_take]; omega)), ?_⟩ | refine ⟨show _ ≠ (0 : Int) by (first | omega | (simp only [List.length_append, List.length_cons, List.length_nil, List.length_drop, List.length_take]; omega)), ?_⟩ | refine ⟨_, rfl, _, rfl, ?_⟩ | refine ⟨_, by assumption, Nat.le_of_ble_eq_true rfl, ?_⟩ | refine ⟨_, by assumption, _, rfl, ?_⟩ | refine ⟨_, rfl, ?_⟩ | fail)
    exact ⟨.d (.bool false), rdS s m l, fin_mv [] rfl rfl rfl ⟨⟨rfl, .inl ⟨rfl, dataA_pure _⟩⟩, ⟨rfl, .inr ⟨⟨rfl, rfl, ⟨rfl, rfl, rfl⟩, trivial⟩, trivial⟩⟩, trivial⟩ rfl, m, hm, rfl, rfl⟩

end Go.Proofs.Ytdaheonodpkfgaa
