import Derived.Test.YtofnkpglgdfaeaaMsgC
namespace Go.Proofs.Ytofnkpglgdfaeaa
open Go.Aw
set_option maxHeartbeats 1600000
set_option linter.unusedSimpArgs false
set_option linter.unusedVariables false

def rawsB (l : List (List UInt8 × List UInt8)) : Bool := l.all fun p => decide (p.2.length ≤ 2000)
theorem postsB_eq (l : List (List UInt8 × List UInt8)) : postsB l = (rawsB l && idsB (l.map Prod.fst)) := by
  unfold postsB idsB rawsB
  rw [postRise_eq, List.length_map, Bool.and_assoc]
theorem right_else {m : Msg} (h3 : m.kd ≠ 3) : mRightB m = ((headB m && decide (1 ≤ m.kd ∧ m.kd ≤ 4)) && ((decide (m.kd = 1 ∨ m.ids.length = 0) && (decide (m.kd = 2 ∨ m.posts.length = 0) && (decide (m.pol = zeroPol) && decide (m.kd = 2 → m.ep = 0)))) && (rawsB m.posts && (idsB m.ids && idsB (m.posts.map Prod.fst))))) := by
  unfold mRightB
  rw [nil_of_len, nil_of_len]
  generalize headB m = a
  have r0 : ∀ {l : List (List UInt8 × List UInt8)}, l.length = 0 → rawsB l = true ∧ idsB (l.map Prod.fst) = true := fun {l} h => by
    rw [List.eq_nil_of_length_eq_zero h]; exact ⟨rfl, rfl⟩
  have i0 : ∀ {l : List (List UInt8)}, l.length = 0 → idsB l = true := fun {l} h => by rw [List.eq_nil_of_length_eq_zero h]; rfl
  by_cases k1 : m.kd = 1
  · rw [if_pos k1, decide_eq_true (show 1 ≤ m.kd ∧ m.kd ≤ 4 by omega), decide_eq_true (show m.kd = 1 ∨ m.ids.length = 0 from .inl k1), decide_eq_true (show m.kd = 2 → m.ep = 0 by omega)]
    by_cases hp : m.posts.length = 0
    · rw [decide_eq_true hp, decide_eq_true (show m.kd = 2 ∨ m.posts.length = 0 from .inr hp), (r0 hp).1, (r0 hp).2]
      cases a <;> cases decide (m.pol = zeroPol) <;> cases idsB m.ids <;> rfl
    · rw [decide_eq_false hp, decide_eq_false (show ¬ (m.kd = 2 ∨ m.posts.length = 0) by omega)]
      cases a <;> simp
  · rw [if_neg k1]
    by_cases k2 : m.kd = 2
    · rw [if_pos k2, postsB_eq, decide_eq_true (show 1 ≤ m.kd ∧ m.kd ≤ 4 by omega), decide_eq_true (show m.kd = 2 ∨ m.posts.length = 0 from .inl k2)]
      have e : decide (m.kd = 2 → m.ep = 0) = decide (m.ep = 0) := by rw [decide_eq_decide]; exact ⟨fun h => h k2, fun h _ => h⟩
      rw [e]
      by_cases hi : m.ids.length = 0
      · rw [decide_eq_true hi, decide_eq_true (show m.kd = 1 ∨ m.ids.length = 0 from .inr hi), i0 hi]
        cases a <;> cases decide (m.pol = zeroPol) <;> cases rawsB m.posts <;> cases idsB (m.posts.map Prod.fst) <;> cases decide (m.ep = 0) <;> rfl
      · rw [decide_eq_false hi, decide_eq_false (show ¬ (m.kd = 1 ∨ m.ids.length = 0) by omega)]
        cases a <;> simp
    · rw [if_neg k2, if_neg h3, decide_eq_true (show m.kd = 2 → m.ep = 0 by omega)]
      by_cases hi : m.ids.length = 0
      · by_cases hp : m.posts.length = 0
        · rw [decide_eq_true hi, decide_eq_true hp, decide_eq_true (show m.kd = 1 ∨ m.ids.length = 0 from .inr hi), decide_eq_true (show m.kd = 2 ∨ m.posts.length = 0 from .inr hp), i0 hi, (r0 hp).1, (r0 hp).2]
          have e : decide (1 ≤ m.kd ∧ m.kd ≤ 4) = decide (m.kd = 4) := by rw [decide_eq_decide]; omega
          rw [e]
          cases a <;> cases decide (m.pol = zeroPol) <;> cases decide (m.kd = 4) <;> rfl
        · rw [decide_eq_false hp, decide_eq_false (show ¬ (m.kd = 2 ∨ m.posts.length = 0) by omega)]
          cases a <;> simp
      · rw [decide_eq_false hi, decide_eq_false (show ¬ (m.kd = 1 ∨ m.ids.length = 0) by omega)]
        cases a <;> simp

set_option maxRecDepth 100000 in
theorem r15Right_ok (m : Msg) (hm : FitsM m) : PureC Try.prog 23 [msgA m] (.d (.bool (mRightB m))) := by
  have h1 := hm.ids.1
  have h2 := hm.posts.1
  have n1 := strsD_len m.ids
  have n2 := postsD_len m.posts
  have hv1 := pSame_ok m.pol zeroPol hm.pol zero_fits
  have no : (headB m && decide (1 ≤ m.kd ∧ m.kd ≤ 4)) = false → AV.d (.bool false) = AV.d (.bool (mRightB m)) := fun h => by
    by_cases k3 : m.kd = 3
    · rw [decide_eq_true (by omega), Bool.and_true] at h
      unfold mRightB; rw [h]; rfl
    · rw [right_else k3, h]; rfl
  have e0 : (headB m && decide (1 ≤ m.kd ∧ m.kd ≤ 4)) = decide ((0 ≤ m.fr ∧ m.fr ≤ 5 ∧ 0 ≤ m.to ∧ m.to ≤ 5 ∧ m.fr ≠ m.to ∧ 0 ≤ m.ep ∧ m.ep ≤ 1000000) ∧ (1 ≤ m.kd ∧ m.kd ≤ 4)) := by
    unfold headB; exact (Bool.decide_and _ _).symm
  rw [e0] at no
  by_cases k3 : m.kd = 3
  · have hc2 := rRight_ok m.pol hm.pol
    have hR : mRightB m = (headB m && (decide (m.ids.length = 0) && (decide (m.posts.length = 0) && (rightB m.pol && decide (m.ep = 0))))) := by
      unfold mRightB; rw [nil_of_len, nil_of_len, if_neg (by omega), if_neg (by omega), if_pos k3]
    generalize decide (m.pol = zeroPol) = bz at *
    generalize rightB m.pol = br at *
    clear hm e0
    refine pure_okT Try.wf Try.tab_ok Try.func23 (by decide +kernel) rfl rfl rfl rfl ?_
    repeat' (first |  refine PureC.use hc2 ?_ | refine PureC.use hc3 ?_ | refine PureC.use hc4 ?_ | refine PureC.use hc5 ?_ |    refine CallsAbs.vr (by repeat' (first | exact trivial | rfl | refine ⟨?_, ?_⟩ | fail)) (PureC.use hv1 ?_) |          refine ⟨fun _ => ?_, fun h => absurd h (by decide)⟩ | refine ⟨fun h => absurd h (by decide), fun _ => ?_⟩ | (refine ⟨fun h => ?_, fun h => ?_⟩ <;> (try simp only [decide_eq_true_eq, decide_eq_false_iff_not, Bool.not_eq_true', Bool.not_eq_false', Bool.not_eq_true, Bool.not_eq_false, not_true_eq_false, true_and, and_true, false_or, or_false, Bool.and_true, Bool.and_eq_true, Bool.and_eq_false_iff, Bool.or_eq_true, Bool.or_eq_false_iff, List.length_cons, List.length_nil] at h) <;> (try (exfalso; omega))) | refine ⟨⟨by (first | omega | (simp only [List.length_append, List.length_cons, List.length_nil, List.length_drop, List.length_take]; omega)), by (first | omega | (simp only [List.length_append, List.length_cons, List.length_nil, List.length_drop, List.length_take]; omega))⟩, _, by assumption, by rfl, ?_⟩ | refine .inl ⟨⟨by (first | omega | (simp only [List.length_append, List.length_cons, List.length_nil, List.length_drop, List.length_take]; omega)), by (first | omega | (simp only [List.length_append, List.length_cons, List.length_nil, List.length_drop, List.length_take]; omega))⟩, ?_⟩ | refine ⟨⟨by (first | omega | (simp only [List.length_append, List.length_cons, List.length_nil, List.length_drop, List.length_take]; omega)), by (first | omega | (simp only [List.length_append, List.length_cons, List.length_nil, List.length_drop, List.length_take]; omega))⟩, ?_⟩ | refine ⟨⟨by (first | omega | (simp only [List.length_append, List.length_cons, List.length_nil, List.length_drop, List.length_take]; omega)), by (first | omega | (simp only [List.length_append, List.length_cons, List.length_nil, List.length_drop, List.length_take]; omega)), by (first | omega | (simp only [List.length_append, List.length_cons, List.length_nil, List.length_drop, List.length_take]; omega))⟩, ?_⟩ | refine ⟨.inl rfl, ?_⟩ | refine ⟨.inr (.inl (by (first | omega | (simp only [List.length_append, List.length_cons, List.length_nil, List.length_drop, List.length_take]; omega)))), ?_⟩ | refine ⟨_, rfl, rfl, by (first | exact Nat.le_refl _ | exact Nat.le_of_ble_eq_true rfl | decide), ?_⟩ | refine ⟨_, rfl, by (first | exact Nat.le_refl _ | exact Nat.le_of_ble_eq_true rfl | decide), ?_⟩ | refine ⟨by (first | exact Nat.le_refl _ | exact Nat.le_of_ble_eq_true rfl | decide), ?_⟩ | refine ⟨show _ ≤ (9223372036854775807 : Nat) by (first | omega | (simp only [List.length_append, List.length_cons, List.length_nil, List.length_drop, List.length_take]; omega)), ?_⟩ | refine ⟨show _ ≠ (0 : Int) by (first | omega | (simp only [List.length_append, List.length_cons, List.length_nil, List.length_drop, List.length_take]; omega)), ?_⟩ | refine ⟨_, rfl, _, rfl, ?_⟩ | refine ⟨_, by assumption, Nat.le_of_ble_eq_true rfl, ?_⟩ | refine ⟨_, by assumption, _, rfl, ?_⟩ | refine ⟨_, rfl, ?_⟩ | fail)
    all_goals first
      | exact ⟨_, _, fin_out rfl, no (by rw [decide_eq_false_iff_not]; omega)⟩
      | exact ⟨_, _, fin_out rfl, congrArg (fun b => AV.d (.bool b)) (by rw [hR]; (clear hR no; have hh : headB m = true := (by unfold headB; rw [decide_eq_true_eq]; omega); rw [hh]; clear hh; subst_vars; first | rfl | (rw [Bool.eq_iff_iff]; simp only [Bool.or_eq_true, Bool.and_eq_true, Bool.not_eq_true', decide_eq_true_eq, decide_eq_false_iff_not, iff_true, iff_false, true_iff, false_iff, not_and, Bool.false_eq_true, reduceCtorEq, and_false, false_and, and_true, true_and, not_false_eq_true, false_or, or_false] <;> omega) | (simp_all; done) | (simp_all; grind)))⟩
  · have hR := right_else k3
    rw [e0] at hR
    have hc3 := rises15_ok m.ids (by omega)
    have hc4 := ids15_ok m.posts h2
    have hc5 := rises15_ok (m.posts.map Prod.fst) (by rw [List.length_map]; omega)
    have no2 : (decide (m.kd = 1 ∨ m.ids.length = 0) && (decide (m.kd = 2 ∨ m.posts.length = 0) && (decide (m.pol = zeroPol) && decide (m.kd = 2 → m.ep = 0)))) = false → AV.d (.bool false) = AV.d (.bool (mRightB m)) := fun h => by rw [hR, h]; simp
    generalize decide (m.pol = zeroPol) = bz at *
    clear hm e0
    refine pure_okT Try.wf Try.tab_ok Try.func23 (by decide +kernel) rfl rfl rfl rfl ?_
    repeat' (first |  refine PureC.use hc2 ?_ | refine PureC.use hc3 ?_ | refine PureC.use hc4 ?_ | refine PureC.use hc5 ?_ |    refine CallsAbs.vr (by repeat' (first | exact trivial | rfl | refine ⟨?_, ?_⟩ | fail)) (PureC.use hv1 ?_) |          refine ⟨fun _ => ?_, fun h => absurd h (by decide)⟩ | refine ⟨fun h => absurd h (by decide), fun _ => ?_⟩ | (refine ⟨fun h => ?_, fun h => ?_⟩ <;> (try simp only [decide_eq_true_eq, decide_eq_false_iff_not, Bool.not_eq_true', Bool.not_eq_false', Bool.not_eq_true, Bool.not_eq_false, not_true_eq_false, true_and, and_true, false_or, or_false, Bool.and_true, Bool.and_eq_true, Bool.and_eq_false_iff, Bool.or_eq_true, Bool.or_eq_false_iff, List.length_cons, List.length_nil] at h) <;> (try (exfalso; omega))) | refine ⟨⟨by (first | omega | (simp only [List.length_append, List.length_cons, List.length_nil, List.length_drop, List.length_take]; omega)), by (first | omega | (simp only [List.length_append, List.length_cons, List.length_nil, List.length_drop, List.length_take]; omega))⟩, _, by assumption, by rfl, ?_⟩ | refine .inl ⟨⟨by (first | omega | (simp only [List.length_append, List.length_cons, List.length_nil, List.length_drop, List.length_take]; omega)), by (first | omega | (simp only [List.length_append, List.length_cons, List.length_nil, List.length_drop, List.length_take]; omega))⟩, ?_⟩ | refine ⟨⟨by (first | omega | (simp only [List.length_append, List.length_cons, List.length_nil, List.length_drop, List.length_take]; omega)), by (first | omega | (simp only [List.length_append, List.length_cons, List.length_nil, List.length_drop, List.length_take]; omega))⟩, ?_⟩ | refine ⟨⟨by (first | omega | (simp only [List.length_append, List.length_cons, List.length_nil, List.length_drop, List.length_take]; omega)), by (first | omega | (simp only [List.length_append, List.length_cons, List.length_nil, List.length_drop, List.length_take]; omega)), by (first | omega | (simp only [List.length_append, List.length_cons, List.length_nil, List.length_drop, List.length_take]; omega))⟩, ?_⟩ | refine ⟨.inl rfl, ?_⟩ | refine ⟨.inr (.inl (by (first | omega | (simp only [List.length_append, List.length_cons, List.length_nil, List.length_drop, List.length_take]; omega)))), ?_⟩ | refine ⟨_, rfl, rfl, by (first | exact Nat.le_refl _ | exact Nat.le_of_ble_eq_true rfl | decide), ?_⟩ | refine ⟨_, rfl, by (first | exact Nat.le_refl _ | exact Nat.le_of_ble_eq_true rfl | decide), ?_⟩ | refine ⟨by (first | exact Nat.le_refl _ | exact Nat.le_of_ble_eq_true rfl | decide), ?_⟩ | refine ⟨show _ ≤ (9223372036854775807 : Nat) by (first | omega | (simp only [List.length_append, List.length_cons, List.length_nil, List.length_drop, List.length_take]; omega)), ?_⟩ | refine ⟨show _ ≠ (0 : Int) by (first | omega | (simp only [List.length_append, List.length_cons, List.length_nil, List.length_drop, List.length_take]; omega)), ?_⟩ | refine ⟨_, rfl, _, rfl, ?_⟩ | refine ⟨_, by assumption, Nat.le_of_ble_eq_true rfl, ?_⟩ | refine ⟨_, by assumption, _, rfl, ?_⟩ | refine ⟨_, rfl, ?_⟩ | fail)
    all_goals first
      | exact ⟨_, _, fin_out rfl, no (by rw [decide_eq_false_iff_not]; omega)⟩
      | exact ⟨_, _, fin_out rfl, no2 (by (clear no no2 hR); subst_vars; (rw [Bool.eq_iff_iff]; simp only [Bool.or_eq_true, Bool.and_eq_true, Bool.not_eq_true', decide_eq_true_eq, decide_eq_false_iff_not, iff_true, iff_false, true_iff, false_iff, not_and, Bool.false_eq_true, reduceCtorEq, and_false, false_and, and_true, true_and, not_false_eq_true, false_or, or_false] <;> omega))⟩
      | skip
    all_goals
      have hR2 : mRightB m = (rawsB m.posts && (idsB m.ids && idsB (m.posts.map Prod.fst))) := by
        rw [hR, decide_eq_true (by omega), decide_eq_true (show m.kd = 1 ∨ m.ids.length = 0 by omega), decide_eq_true (show m.kd = 2 ∨ m.posts.length = 0 by omega), decide_eq_true (show m.kd = 2 → m.ep = 0 by omega)]
        subst_vars; rfl
      clear no no2 hR hv1
      refine loopT Try.wf Try.tab_ok (fun n s' σ => ∃ (k : Nat), n = m.posts.length - k ∧ k ≤ m.posts.length ∧ rawsB (m.posts.take k) = true ∧ s' = [(1, .ref 0 0 0), (4, .d (.int .i64 k))] ∧ σ = ⟨1, [(0, msgO m)]⟩)
        ⟨0, rfl, Nat.zero_le _, rfl, rfl, rfl⟩ (Mv.of [.old 0] rfl rfl rfl ⟨⟨rfl, .inl ⟨rfl, onePure _⟩⟩, trivial⟩ ⟨⟨rfl, rfl, rfl⟩, rfl, trivial⟩) ?_
      rintro _ _ _ ⟨k, rfl, hk, hI, rfl, rfl⟩
      unfold rawsB at hI hR2
      by_cases hlt : k < m.posts.length
      · have hg := postsD_get m.posts k hlt
        have hst := all_step (fun p : List UInt8 × List UInt8 => decide (p.2.length ≤ 2000)) m.posts k hlt
        rw [hI, Bool.true_and] at hst
        repeat' (first |  refine PureC.use hc2 ?_ | refine PureC.use hc3 ?_ | refine PureC.use hc4 ?_ | refine PureC.use hc5 ?_ |    refine CallsAbs.vr (by repeat' (first | exact trivial | rfl | refine ⟨?_, ?_⟩ | fail)) (PureC.use hv1 ?_) |          refine ⟨fun _ => ?_, fun h => absurd h (by decide)⟩ | refine ⟨fun h => absurd h (by decide), fun _ => ?_⟩ | (refine ⟨fun h => ?_, fun h => ?_⟩ <;> (try simp only [decide_eq_true_eq, decide_eq_false_iff_not, Bool.not_eq_true', Bool.not_eq_false', Bool.not_eq_true, Bool.not_eq_false, not_true_eq_false, true_and, and_true, false_or, or_false, Bool.and_true, Bool.and_eq_true, Bool.and_eq_false_iff, Bool.or_eq_true, Bool.or_eq_false_iff, List.length_cons, List.length_nil] at h) <;> (try (exfalso; omega))) | refine ⟨⟨by (first | omega | (simp only [List.length_append, List.length_cons, List.length_nil, List.length_drop, List.length_take]; omega)), by (first | omega | (simp only [List.length_append, List.length_cons, List.length_nil, List.length_drop, List.length_take]; omega))⟩, _, by assumption, by rfl, ?_⟩ | refine .inl ⟨⟨by (first | omega | (simp only [List.length_append, List.length_cons, List.length_nil, List.length_drop, List.length_take]; omega)), by (first | omega | (simp only [List.length_append, List.length_cons, List.length_nil, List.length_drop, List.length_take]; omega))⟩, ?_⟩ | refine ⟨⟨by (first | omega | (simp only [List.length_append, List.length_cons, List.length_nil, List.length_drop, List.length_take]; omega)), by (first | omega | (simp only [List.length_append, List.length_cons, List.length_nil, List.length_drop, List.length_take]; omega))⟩, ?_⟩ | refine ⟨⟨by (first | omega | (simp only [List.length_append, List.length_cons, List.length_nil, List.length_drop, List.length_take]; omega)), by (first | omega | (simp only [List.length_append, List.length_cons, List.length_nil, List.length_drop, List.length_take]; omega)), by (first | omega | (simp only [List.length_append, List.length_cons, List.length_nil, List.length_drop, List.length_take]; omega))⟩, ?_⟩ | refine ⟨.inl rfl, ?_⟩ | refine ⟨.inr (.inl (by (first | omega | (simp only [List.length_append, List.length_cons, List.length_nil, List.length_drop, List.length_take]; omega)))), ?_⟩ | refine ⟨_, rfl, rfl, by (first | exact Nat.le_refl _ | exact Nat.le_of_ble_eq_true rfl | decide), ?_⟩ | refine ⟨_, rfl, by (first | exact Nat.le_refl _ | exact Nat.le_of_ble_eq_true rfl | decide), ?_⟩ | refine ⟨by (first | exact Nat.le_refl _ | exact Nat.le_of_ble_eq_true rfl | decide), ?_⟩ | refine ⟨show _ ≤ (9223372036854775807 : Nat) by (first | omega | (simp only [List.length_append, List.length_cons, List.length_nil, List.length_drop, List.length_take]; omega)), ?_⟩ | refine ⟨show _ ≠ (0 : Int) by (first | omega | (simp only [List.length_append, List.length_cons, List.length_nil, List.length_drop, List.length_take]; omega)), ?_⟩ | refine ⟨_, rfl, _, rfl, ?_⟩ | refine ⟨_, by assumption, Nat.le_of_ble_eq_true rfl, ?_⟩ | refine ⟨_, by assumption, _, rfl, ?_⟩ | refine ⟨_, rfl, ?_⟩ | fail)
        all_goals first
          | exact ⟨_, _, fin_out rfl, congrArg (fun b => AV.d (.bool b)) (by rw [hR2, all_pre _ _ _ (hst.trans (decide_eq_false (by omega)))]; rfl)⟩
          | exact ⟨_, _, _, ⟨k + 1, rfl, hlt, hst.trans (decide_eq_true (by omega)), rfl, rfl⟩, by omega, Mv.of [.old 0] rfl rfl rfl ⟨⟨rfl, .inl ⟨rfl, onePure _⟩⟩, trivial⟩ ⟨⟨rfl, rfl, rfl⟩, rfl, trivial⟩⟩
      · rw [List.take_of_length_le (by omega)] at hI
        rw [hI, Bool.true_and] at hR2
        generalize idsB m.ids = i1 at *
        generalize idsB (m.posts.map Prod.fst) = i2 at *
        repeat' (first |  refine PureC.use hc2 ?_ | refine PureC.use hc3 ?_ | refine PureC.use hc4 ?_ | refine PureC.use hc5 ?_ |    refine CallsAbs.vr (by repeat' (first | exact trivial | rfl | refine ⟨?_, ?_⟩ | fail)) (PureC.use hv1 ?_) |          refine ⟨fun _ => ?_, fun h => absurd h (by decide)⟩ | refine ⟨fun h => absurd h (by decide), fun _ => ?_⟩ | (refine ⟨fun h => ?_, fun h => ?_⟩ <;> (try simp only [decide_eq_true_eq, decide_eq_false_iff_not, Bool.not_eq_true', Bool.not_eq_false', Bool.not_eq_true, Bool.not_eq_false, not_true_eq_false, true_and, and_true, false_or, or_false, Bool.and_true, Bool.and_eq_true, Bool.and_eq_false_iff, Bool.or_eq_true, Bool.or_eq_false_iff, List.length_cons, List.length_nil] at h) <;> (try (exfalso; omega))) | refine ⟨⟨by (first | omega | (simp only [List.length_append, List.length_cons, List.length_nil, List.length_drop, List.length_take]; omega)), by (first | omega | (simp only [List.length_append, List.length_cons, List.length_nil, List.length_drop, List.length_take]; omega))⟩, _, by assumption, by rfl, ?_⟩ | refine .inl ⟨⟨by (first | omega | (simp only [List.length_append, List.length_cons, List.length_nil, List.length_drop, List.length_take]; omega)), by (first | omega | (simp only [List.length_append, List.length_cons, List.length_nil, List.length_drop, List.length_take]; omega))⟩, ?_⟩ | refine ⟨⟨by (first | omega | (simp only [List.length_append, List.length_cons, List.length_nil, List.length_drop, List.length_take]; omega)), by (first | omega | (simp only [List.length_append, List.length_cons, List.length_nil, List.length_drop, List.length_take]; omega))⟩, ?_⟩ | refine ⟨⟨by (first | omega | (simp only [List.length_append, List.length_cons, List.length_nil, List.length_drop, List.length_take]; omega)), by (first | omega | (simp only [List.length_append, List.length_cons, List.length_nil, List.length_drop, List.length_take]; omega)), by (first | omega | (simp only [List.length_append, List.length_cons, List.length_nil, List.length_drop, List.length_take]; omega))⟩, ?_⟩ | refine ⟨.inl rfl, ?_⟩ | refine ⟨.inr (.inl (by (first | omega | (simp only [List.length_append, List.length_cons, List.length_nil, List.length_drop, List.length_take]; omega)))), ?_⟩ | refine ⟨_, rfl, rfl, by (first | exact Nat.le_refl _ | exact Nat.le_of_ble_eq_true rfl | decide), ?_⟩ | refine ⟨_, rfl, by (first | exact Nat.le_refl _ | exact Nat.le_of_ble_eq_true rfl | decide), ?_⟩ | refine ⟨by (first | exact Nat.le_refl _ | exact Nat.le_of_ble_eq_true rfl | decide), ?_⟩ | refine ⟨show _ ≤ (9223372036854775807 : Nat) by (first | omega | (simp only [List.length_append, List.length_cons, List.length_nil, List.length_drop, List.length_take]; omega)), ?_⟩ | refine ⟨show _ ≠ (0 : Int) by (first | omega | (simp only [List.length_append, List.length_cons, List.length_nil, List.length_drop, List.length_take]; omega)), ?_⟩ | refine ⟨_, rfl, _, rfl, ?_⟩ | refine ⟨_, by assumption, Nat.le_of_ble_eq_true rfl, ?_⟩ | refine ⟨_, by assumption, _, rfl, ?_⟩ | refine ⟨_, rfl, ?_⟩ | fail)
        all_goals exact ⟨_, _, fin_out rfl, congrArg (fun b => AV.d (.bool b)) (by rw [hR2]; clear hR2; subst_vars; rfl)⟩

end Go.Proofs.Ytofnkpglgdfaeaa
