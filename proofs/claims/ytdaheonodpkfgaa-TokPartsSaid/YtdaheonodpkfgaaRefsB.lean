import Derived.Test.YtdaheonodpkfgaaRefsA
namespace Go.Proofs.Ytdaheonodpkfgaa
open Go.Aw
set_option maxHeartbeats 1600000
set_option linter.unusedSimpArgs false
set_option linter.unusedVariables false

theorem cutPre_cons (c : UInt8) (d : List UInt8) : cutPre (c :: d) [c] = .tup [.d (.str d), .d (.bool true)] := by simp [cutPre, hasPre]
theorem cutPre_no (s : List UInt8) (c : UInt8) (h : ∀ d, s ≠ c :: d) : cutPre s [c] = .tup [.d (.str s), .d (.bool false)] := by
  have : hasPre s [c] = false := by
    cases s with
    | nil => rfl
    | cons x r =>
      have : x ≠ c := fun e => h r (by rw [e])
      simp [hasPre, this]
  rw [cutPre, this]; rfl
theorem hasPre_one (s : List UInt8) (c : UInt8) : hasPre s [c] = true ∨ (hasPre s [c] = false ∧ ∀ d, s ≠ c :: d) := by
  cases s with
  | nil => exact .inr ⟨rfl, by simp⟩
  | cons x r =>
    by_cases h : x = c
    · subst h; exact .inl (by simp [hasPre])
    · exact .inr ⟨by simp [hasPre, h], fun d e => h (by injection e)⟩
theorem hasPre_hit {s : List UInt8} {c : UInt8} (h : hasPre s [c] = true) : ∃ d, s = c :: d := by
  cases s with
  | nil => simp [hasPre] at h
  | cons x r => simp [hasPre] at h; exact ⟨r, by rw [h]⟩

set_option maxRecDepth 100000 in
theorem stands_ok (s : List UInt8) (hs : s.length ≤ 9223372036854775807) : PureC Try.prog 29 [.d (.str s)] (optV (stands s)) := by
  refine pure_okT Try.wf Try.tab_ok Try.func29 (by decide +kernel) rfl rfl rfl (optV_pure _) ?_
  by_cases hh : ∃ d, s = 35 :: d
  · obtain ⟨d, rfl⟩ := hh
    simp only [List.length_cons] at hs
    have c0 := CutPrefix_ok (35 :: d) [35]
    rw [cutPre_cons] at c0
    refine PureC.use c0 ⟨fun h => absurd h (by decide), fun _ => ?_⟩
    rw [stands_hash]
    have small : ∀ (e : List UInt8) (b m n : Nat), b ≤ 16 → m ≤ 7 → number e b m = some n → n < 268435456 := fun e b m n hb hm h => by
      have h1 := number_pos h
      have h2 := digs_lt hb h1.2.2
      have h3 := pow16 (k := e.length) (by omega)
      omega
    have c1 := HasPrefix_ok d [120]
    have c2 := HasPrefix_ok d [88]
    refine PureC.use c1 ?_
    have key : ∃ (e : List UInt8) (b m : Nat), b ≤ 16 ∧ m ≤ 7 ∧ e.length ≤ d.length ∧ hashN d = number e b m ∧
        ((hasPre d [120] = true ∧ d = 120 :: e ∧ b = 16 ∧ m = 6) ∨ (hasPre d [120] = false ∧ hasPre d [88] = true ∧ d = 88 :: e ∧ b = 16 ∧ m = 6) ∨ (hasPre d [120] = false ∧ hasPre d [88] = false ∧ d = e ∧ b = 10 ∧ m = 7)) := by
      rcases hasPre_one d 120 with h1 | ⟨h1, n1⟩
      · obtain ⟨e, rfl⟩ := hasPre_hit h1
        exact ⟨e, 16, 6, by decide, by decide, by simp, hash_x e, .inl ⟨h1, rfl, rfl, rfl⟩⟩
      · rcases hasPre_one d 88 with h2 | ⟨h2, n2⟩
        · obtain ⟨e, rfl⟩ := hasPre_hit h2
          exact ⟨e, 16, 6, by decide, by decide, by simp, hash_X e, .inr (.inl ⟨h1, h2, rfl, rfl, rfl⟩)⟩
        · exact ⟨d, 10, 7, by decide, by decide, Nat.le_refl _, hash_d d n1 n2, .inr (.inr ⟨h1, h2, rfl, rfl, rfl⟩)⟩
    obtain ⟨e, b, m, hb, hm, hel, hN, hcase⟩ := key
    have c3 := number_ok e b m (by omega) hb hm
    have hsm := fun n h => small e b m n hb hm h
    rw [hN]
    rcases hcase with ⟨h1, rfl, rfl, rfl⟩ | ⟨h1, h2, rfl, rfl, rfl⟩ | ⟨h1, h2, rfl, rfl, rfl⟩
    · rw [h1]
      refine ⟨fun h => absurd h (by decide), fun _ => ?_⟩
      refine drawnT Try.wf Try.tab_ok Try.mixed (by decide +kernel) ?_
      refine qstep rfl rfl (FinMove.refl _ _ _) ?_
      refine qstep rfl rfl ⟨⟨by omega, by simp; omega, by simp⟩, FinMove.refl _ _ _⟩ ?_
      refine qstep rfl rfl (FinMove.refl _ _ _) ?_
      refine qstep rfl rfl (FinMove.refl _ _ _) ?_
      refine qstep rfl rfl (FinMove.refl _ _ _) ?_
      have e1 : List.drop (Int.toNat 1) (List.take (Int.toNat ((120 :: e).length : Nat)) (120 :: e)) = e := by simp
      generalize number e 16 6 = n at *
      rw [← e1] at c3
      cases n with
      | none => exact PureC.use c3 ⟨fun _ => by exact ⟨_, _, fin_out rfl, rfl⟩, fun h => absurd h (by decide)⟩
      | some n =>
        have hn := hsm n rfl
        refine PureC.use c3 ⟨fun h => absurd h (by decide), fun _ => ?_⟩
        (repeat' first | refine ⟨fun _ => ?_, fun _ => ?_⟩ | fail)
        all_goals
          refine .inl ⟨⟨by omega, by omega⟩, ?_⟩
          refine ⟨_, _, fin_out rfl, ?_⟩
          simp only [decide_eq_true_eq, decide_eq_false_iff_not] at *
          refine congrArg (fun x => AV.tup [.d (.str (enc x)), .d (.bool true)]) ?_
          unfold fixN
          first | rw [if_pos (by omega)] | rw [if_neg (by omega)]
    · rw [h1]
      refine ⟨fun _ => ?_, fun h => absurd h (by decide)⟩
      refine PureC.use c2 ?_
      rw [h2]
      refine ⟨fun _ => ?_, fun h => absurd h (by decide)⟩
      refine drawnT Try.wf Try.tab_ok Try.mixed (by decide +kernel) ?_
      refine qstep rfl rfl (FinMove.refl _ _ _) ?_
      refine qstep rfl rfl ⟨⟨by omega, by simp; omega, by simp⟩, FinMove.refl _ _ _⟩ ?_
      refine qstep rfl rfl (FinMove.refl _ _ _) ?_
      refine qstep rfl rfl (FinMove.refl _ _ _) ?_
      refine qstep rfl rfl (FinMove.refl _ _ _) ?_
      have e1 : List.drop (Int.toNat 1) (List.take (Int.toNat ((88 :: e).length : Nat)) (88 :: e)) = e := by simp
      generalize number e 16 6 = n at *
      rw [← e1] at c3
      cases n with
      | none => exact PureC.use c3 ⟨fun _ => by exact ⟨_, _, fin_out rfl, rfl⟩, fun h => absurd h (by decide)⟩
      | some n =>
        have hn := hsm n rfl
        refine PureC.use c3 ⟨fun h => absurd h (by decide), fun _ => ?_⟩
        (repeat' first | refine ⟨fun _ => ?_, fun _ => ?_⟩ | fail)
        all_goals
          refine .inl ⟨⟨by omega, by omega⟩, ?_⟩
          refine ⟨_, _, fin_out rfl, ?_⟩
          simp only [decide_eq_true_eq, decide_eq_false_iff_not] at *
          refine congrArg (fun x => AV.tup [.d (.str (enc x)), .d (.bool true)]) ?_
          unfold fixN
          first | rw [if_pos (by omega)] | rw [if_neg (by omega)]
    · rw [h1]
      refine ⟨fun _ => ?_, fun h => absurd h (by decide)⟩
      refine PureC.use c2 ?_
      rw [h2]
      refine ⟨fun h => absurd h (by decide), fun _ => ?_⟩
      generalize number d 10 7 = n at *
      cases n with
      | none => exact PureC.use c3 ⟨fun _ => by exact ⟨_, _, fin_out rfl, rfl⟩, fun h => absurd h (by decide)⟩
      | some n =>
        have hn := hsm n rfl
        refine PureC.use c3 ⟨fun h => absurd h (by decide), fun _ => ?_⟩
        (repeat' first | refine ⟨fun _ => ?_, fun _ => ?_⟩ | fail)
        all_goals
          refine .inl ⟨⟨by omega, by omega⟩, ?_⟩
          refine ⟨_, _, fin_out rfl, ?_⟩
          simp only [decide_eq_true_eq, decide_eq_false_iff_not] at *
          refine congrArg (fun x => AV.tup [.d (.str (enc x)), .d (.bool true)]) ?_
          unfold fixN
          first | rw [if_pos (by omega)] | rw [if_neg (by omega)]
  · have c0 := CutPrefix_ok s [35]
    rw [cutPre_no s 35 (fun d e => hh ⟨d, e⟩)] at c0
    refine PureC.use c0 ⟨fun _ => ?_, fun h => absurd h (by decide)⟩
    have c1 := Named_ok s
    rw [stands_named s (fun d e => hh ⟨d, e⟩)]
    cases hn : named s with
    | none => rw [hn] at c1; exact PureC.use c1 (by exact ⟨_, _, fin_out rfl, rfl⟩)
    | some t => rw [hn] at c1; exact PureC.use c1 (by exact ⟨_, _, fin_out rfl, rfl⟩)

end Go.Proofs.Ytdaheonodpkfgaa
