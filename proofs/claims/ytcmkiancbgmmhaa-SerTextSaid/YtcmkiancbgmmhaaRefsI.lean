import Derived.Test.YtcmkiancbgmmhaaRefsE
namespace Go.Proofs.Ytcmkiancbgmmhaa
open Go.Aw
set_option maxHeartbeats 1600000
set_option linter.unusedSimpArgs false
set_option linter.unusedVariables false

set_option maxRecDepth 100000 in
theorem goes_ok (c : UInt8) : PureC Try.prog 79 [.d (.int .u8 c.toNat)] (.d (.bool (goesB c))) := by
  refine pure_okT Try.wf Try.tab_ok Try.func79 (by decide +kernel) rfl rfl rfl rfl ?_
  refine ⟨fun h => ⟨_, _, fin_out rfl, congrArg (fun b => AV.d (.bool b)) ?_⟩, fun h => ⟨_, _, fin_out rfl, congrArg (fun b => AV.d (.bool b)) ?_⟩⟩
  · have := of_decide_eq_true h
    unfold goesB
    rw [decide_eq_true (show 128 ≤ c.toNat by omega), Bool.true_and, decide_eq_decide]
    omega
  · have := of_decide_eq_false h
    unfold goesB
    rw [decide_eq_false (show ¬ 128 ≤ c.toNat by omega)]; rfl

theorem right_hi (c : UInt8) (r : List UInt8) (h : ¬ c.toNat < 128) : right (c :: r) = if (lead c).1 = 0 ∨ (c :: r).length < (lead c).1 ∨ (r.getD 0 0).toNat < (lead c).2.1 ∨ (lead c).2.2 < (r.getD 0 0).toNat then 0 else
    if ((r.drop 1).take ((lead c).1 - 2)).all goesB then (lead c).1 else 0 := by
  show (if c.toNat < 128 then 1 else _) = _
  rw [if_neg h]
theorem lead_cases (c : UInt8) : ((lead c).1 = 0 ∨ 2 ≤ (lead c).1) ∧ (lead c).1 ≤ 4 ∧ 128 ≤ (lead c).2.1 ∧ (lead c).2.1 ≤ 255 ∧ (lead c).2.2 ≤ 191 := by
  unfold lead
  repeat' split
  all_goals decide

set_option maxRecDepth 100000 in
theorem Right_ok (s : List UInt8) (p : Nat) (hp : p < s.length) (hs : s.length ≤ 4611686018427387904) : PureC Try.prog 63 [.d (.str s), .d (.int .i64 p)] (.d (.int .i64 (right (s.drop p)))) := by
  refine PureC.of rfl rfl (fn_okTE Try.wf Try.tab_ok Try.func63 (by decide +kernel) rfl rfl ?_)
  have hd : s.drop p = s[p] :: s.drop (p + 1) := List.drop_eq_getElem_cons hp
  have hg := getD_at s p hp
  refine E.seq (E.of Try.wf Try.tab_ok ?_)
  refine E.seq (E.of Try.wf Try.tab_ok ?_)
  refine ⟨⟨by omega, by omega⟩, ?_⟩
  rw [hg]
  refine E.seq (E.of Try.wf Try.tab_ok ?_)
  refine E.seq (E.of Try.wf Try.tab_ok ?_)
  refine E.seq (E.of Try.wf Try.tab_ok ?_)
  have hrl : (s.drop (p + 1)).length = s.length - (p + 1) := by simp
  have hlen : (s.drop p).length = s.length - p := by simp
  have fin : ∀ (n : Nat) (σ : Store), right (s.drop p) = n → ∃ r' σ', FinMove ⟨0, []⟩ (AV.d (.int .i64 (n : Int))) σ r' σ' ∧ r' = AV.d (.int .i64 (right (s.drop p) : Int)) ∧ σ'.n = 0 := fun n σ h => ⟨_, _, fin_out rfl, by rw [h], rfl⟩
  have hr0 : ∀ h : p + 1 < s.length, (s.drop (p + 1)).getD 0 0 = s[p + 1] := fun h => by simp [h]
  have hri : ∀ i, 2 ≤ i → ∀ h : p + i < s.length, ((s.drop (p + 1)).drop 1)[i - 2]? = some s[p + i] := fun i hi h => by
    rw [List.getElem?_drop, List.getElem?_drop, show p + 1 + (1 + (i - 2)) = p + i by omega, List.getElem?_eq_getElem h]
  generalize s[p] = c at *
  have hu := c.toNat_lt
  refine midT Try.wf Try.tab_ok (fun s' σ => ¬ c.toNat < 128 ∧ s' = [(0, .d (.str s)), (1, .d (.int .i64 p)), (6, .d (.int .i64 ((lead c).1 : Nat))), (7, .d (.int .u8 ((lead c).2.1 : Nat))), (8, .d (.int .u8 ((lead c).2.2 : Nat)))] ∧ σ = ⟨0, []⟩) ?_ ?_
  · have go : ∀ (n lo hi : Nat), lead c = (n, lo, hi) → vrelS (phi 0 []) [(0, .d (.str s)), (1, .d (.int .i64 p)), (6, .d (.int .i64 (n : Nat))), (7, .d (.int .u8 (lo : Nat))), (8, .d (.int .u8 (hi : Nat)))] [(0, .d (.str s)), (1, .d (.int .i64 p)), (6, .d (.int .i64 ((lead c).1 : Nat))), (7, .d (.int .u8 ((lead c).2.1 : Nat))), (8, .d (.int .u8 ((lead c).2.2 : Nat)))] := fun n lo hi h => by
      rw [h]; exact ⟨rfl, rfl, rfl, rfl, rfl, trivial⟩
    by_cases h0 : c.toNat < 128
    · repeat (first | refine ⟨fun _ => ?_, fun h => absurd (of_decide_eq_false h) (by omega)⟩ | refine ⟨fun h => absurd (of_decide_eq_true h) (by omega), fun _ => ?_⟩ | refine ⟨fun _ => ?_, fun h => absurd (of_decide_eq_true h) (by omega)⟩ | refine ⟨fun h => absurd (of_decide_eq_false h) (by omega), fun _ => ?_⟩ | refine .inl ⟨⟨by omega, by omega⟩, ?_⟩ | refine ⟨⟨by omega, by omega⟩, ?_⟩)
      exact fin 1 _ (by rw [hd]; show (if c.toNat < 128 then 1 else _) = 1; rw [if_pos h0])
    · have ld : ∀ n lo hi, lead c = (n, lo, hi) → lead c = (n, lo, hi) := fun _ _ _ h => h
      by_cases h1 : 194 ≤ c.toNat ∧ c.toNat ≤ 223
      · have hl : lead c = (2, 128, 191) := by unfold lead; rw [if_pos h1]
        repeat (first | refine ⟨fun _ => ?_, fun h => absurd (of_decide_eq_false h) (by omega)⟩ | refine ⟨fun h => absurd (of_decide_eq_true h) (by omega), fun _ => ?_⟩ | refine ⟨fun _ => ?_, fun h => absurd (of_decide_eq_true h) (by omega)⟩ | refine ⟨fun h => absurd (of_decide_eq_false h) (by omega), fun _ => ?_⟩ | refine .inl ⟨⟨by omega, by omega⟩, ?_⟩ | refine ⟨⟨by omega, by omega⟩, ?_⟩)
        exact ⟨_, _, ⟨h0, rfl, rfl⟩, Mv.of [] rfl rfl rfl trivial (by rw [hl]; exact ⟨rfl, rfl, rfl, rfl, rfl, trivial⟩)⟩
      · by_cases h2 : 224 ≤ c.toNat ∧ c.toNat ≤ 239
        · by_cases h3 : c.toNat = 224
          · have hl : lead c = (3, 160, 191) := by unfold lead; rw [if_neg h1, if_pos h2, if_pos h3, if_neg (by omega)]
            repeat (first | refine ⟨fun _ => ?_, fun h => absurd (of_decide_eq_false h) (by omega)⟩ | refine ⟨fun h => absurd (of_decide_eq_true h) (by omega), fun _ => ?_⟩ | refine ⟨fun _ => ?_, fun h => absurd (of_decide_eq_true h) (by omega)⟩ | refine ⟨fun h => absurd (of_decide_eq_false h) (by omega), fun _ => ?_⟩ | refine .inl ⟨⟨by omega, by omega⟩, ?_⟩ | refine ⟨⟨by omega, by omega⟩, ?_⟩)
            exact ⟨_, _, ⟨h0, rfl, rfl⟩, Mv.of [] rfl rfl rfl trivial (by rw [hl]; exact ⟨rfl, rfl, rfl, rfl, rfl, trivial⟩)⟩
          · by_cases h4 : c.toNat = 237
            · have hl : lead c = (3, 128, 159) := by unfold lead; rw [if_neg h1, if_pos h2, if_neg h3, if_pos h4]
              repeat (first | refine ⟨fun _ => ?_, fun h => absurd (of_decide_eq_false h) (by omega)⟩ | refine ⟨fun h => absurd (of_decide_eq_true h) (by omega), fun _ => ?_⟩ | refine ⟨fun _ => ?_, fun h => absurd (of_decide_eq_true h) (by omega)⟩ | refine ⟨fun h => absurd (of_decide_eq_false h) (by omega), fun _ => ?_⟩ | refine .inl ⟨⟨by omega, by omega⟩, ?_⟩ | refine ⟨⟨by omega, by omega⟩, ?_⟩)
              exact ⟨_, _, ⟨h0, rfl, rfl⟩, Mv.of [] rfl rfl rfl trivial (by rw [hl]; exact ⟨rfl, rfl, rfl, rfl, rfl, trivial⟩)⟩
            · have hl : lead c = (3, 128, 191) := by unfold lead; rw [if_neg h1, if_pos h2, if_neg h3, if_neg h4]
              repeat (first | refine ⟨fun _ => ?_, fun h => absurd (of_decide_eq_false h) (by omega)⟩ | refine ⟨fun h => absurd (of_decide_eq_true h) (by omega), fun _ => ?_⟩ | refine ⟨fun _ => ?_, fun h => absurd (of_decide_eq_true h) (by omega)⟩ | refine ⟨fun h => absurd (of_decide_eq_false h) (by omega), fun _ => ?_⟩ | refine .inl ⟨⟨by omega, by omega⟩, ?_⟩ | refine ⟨⟨by omega, by omega⟩, ?_⟩)
              exact ⟨_, _, ⟨h0, rfl, rfl⟩, Mv.of [] rfl rfl rfl trivial (by rw [hl]; exact ⟨rfl, rfl, rfl, rfl, rfl, trivial⟩)⟩
        · by_cases h5 : 240 ≤ c.toNat ∧ c.toNat ≤ 244
          · by_cases h3 : c.toNat = 240
            · have hl : lead c = (4, 144, 191) := by unfold lead; rw [if_neg h1, if_neg h2, if_pos h5, if_pos h3, if_neg (by omega)]
              repeat (first | refine ⟨fun _ => ?_, fun h => absurd (of_decide_eq_false h) (by omega)⟩ | refine ⟨fun h => absurd (of_decide_eq_true h) (by omega), fun _ => ?_⟩ | refine ⟨fun _ => ?_, fun h => absurd (of_decide_eq_true h) (by omega)⟩ | refine ⟨fun h => absurd (of_decide_eq_false h) (by omega), fun _ => ?_⟩ | refine .inl ⟨⟨by omega, by omega⟩, ?_⟩ | refine ⟨⟨by omega, by omega⟩, ?_⟩)
              exact ⟨_, _, ⟨h0, rfl, rfl⟩, Mv.of [] rfl rfl rfl trivial (by rw [hl]; exact ⟨rfl, rfl, rfl, rfl, rfl, trivial⟩)⟩
            · by_cases h4 : c.toNat = 244
              · have hl : lead c = (4, 128, 143) := by unfold lead; rw [if_neg h1, if_neg h2, if_pos h5, if_neg h3, if_pos h4]
                repeat (first | refine ⟨fun _ => ?_, fun h => absurd (of_decide_eq_false h) (by omega)⟩ | refine ⟨fun h => absurd (of_decide_eq_true h) (by omega), fun _ => ?_⟩ | refine ⟨fun _ => ?_, fun h => absurd (of_decide_eq_true h) (by omega)⟩ | refine ⟨fun h => absurd (of_decide_eq_false h) (by omega), fun _ => ?_⟩ | refine .inl ⟨⟨by omega, by omega⟩, ?_⟩ | refine ⟨⟨by omega, by omega⟩, ?_⟩)
                exact ⟨_, _, ⟨h0, rfl, rfl⟩, Mv.of [] rfl rfl rfl trivial (by rw [hl]; exact ⟨rfl, rfl, rfl, rfl, rfl, trivial⟩)⟩
              · have hl : lead c = (4, 128, 191) := by unfold lead; rw [if_neg h1, if_neg h2, if_pos h5, if_neg h3, if_neg h4]
                repeat (first | refine ⟨fun _ => ?_, fun h => absurd (of_decide_eq_false h) (by omega)⟩ | refine ⟨fun h => absurd (of_decide_eq_true h) (by omega), fun _ => ?_⟩ | refine ⟨fun _ => ?_, fun h => absurd (of_decide_eq_true h) (by omega)⟩ | refine ⟨fun h => absurd (of_decide_eq_false h) (by omega), fun _ => ?_⟩ | refine .inl ⟨⟨by omega, by omega⟩, ?_⟩ | refine ⟨⟨by omega, by omega⟩, ?_⟩)
                exact ⟨_, _, ⟨h0, rfl, rfl⟩, Mv.of [] rfl rfl rfl trivial (by rw [hl]; exact ⟨rfl, rfl, rfl, rfl, rfl, trivial⟩)⟩
          · have hl : lead c = (0, 128, 191) := by unfold lead; rw [if_neg h1, if_neg h2, if_neg h5]
            (repeat' first | refine ⟨fun _ => ?_, fun _ => ?_⟩ | fail)
            all_goals first
              | exact ⟨_, _, ⟨h0, rfl, rfl⟩, Mv.of [] rfl rfl rfl trivial (by rw [hl]; exact ⟨rfl, rfl, rfl, rfl, rfl, trivial⟩)⟩
              | (exfalso; simp only [decide_eq_true_eq, decide_eq_false_iff_not] at *; omega)
  rintro _ _ ⟨h0, rfl, rfl⟩
  obtain ⟨l1, l2, l3, l4, l5⟩ := lead_cases c
  have hR := right_hi c (s.drop (p + 1)) h0
  rw [← hd] at hR
  rw [hlen] at hR
  generalize (lead c).1 = n at *
  generalize (lead c).2.1 = lo at *
  generalize (lead c).2.2 = hi at *
  refine E.of Try.wf Try.tab_ok ?_
  have no : ∀ σ : Store, (n = 0 ∨ s.length - p < n ∨ ((s.drop (p + 1)).getD 0 0).toNat < lo ∨ hi < ((s.drop (p + 1)).getD 0 0).toNat) → ∃ r' σ', FinMove ⟨0, []⟩ (AV.d (.int .i64 0)) σ r' σ' ∧ r' = AV.d (.int .i64 (right (s.drop p) : Int)) ∧ σ'.n = 0 := fun σ h => fin 0 σ (by rw [hR, if_pos h])
  by_cases k1 : n = 0
  · repeat (first | refine ⟨fun _ => ?_, fun h => absurd (of_decide_eq_false h) (by omega)⟩ | refine ⟨fun h => absurd (of_decide_eq_true h) (by omega), fun _ => ?_⟩ | refine ⟨fun _ => ?_, fun h => absurd (of_decide_eq_true h) (by omega)⟩ | refine ⟨fun h => absurd (of_decide_eq_false h) (by omega), fun _ => ?_⟩ | refine .inl ⟨⟨by omega, by omega⟩, ?_⟩ | refine ⟨⟨by omega, by omega⟩, ?_⟩)
    exact no _ (.inl k1)
  · by_cases k2 : s.length - p < n
    · repeat (first | refine ⟨fun _ => ?_, fun h => absurd (of_decide_eq_false h) (by omega)⟩ | refine ⟨fun h => absurd (of_decide_eq_true h) (by omega), fun _ => ?_⟩ | refine ⟨fun _ => ?_, fun h => absurd (of_decide_eq_true h) (by omega)⟩ | refine ⟨fun h => absurd (of_decide_eq_false h) (by omega), fun _ => ?_⟩ | refine .inl ⟨⟨by omega, by omega⟩, ?_⟩ | refine ⟨⟨by omega, by omega⟩, ?_⟩)
      exact no _ (.inr (.inl k2))
    · have hp1 : p + 1 < s.length := by omega
      have hg1 : s.getD ((p : Int) + 1).toNat 0 = s[p + 1] := by have := getD_at s (p + 1) hp1; simpa using this
      rw [hr0 hp1] at hR no
      have hu1 := s[p + 1].toNat_lt
      repeat (first | refine ⟨fun _ => ?_, fun h => absurd (of_decide_eq_false h) (by omega)⟩ | refine ⟨fun h => absurd (of_decide_eq_true h) (by omega), fun _ => ?_⟩ | refine ⟨fun _ => ?_, fun h => absurd (of_decide_eq_true h) (by omega)⟩ | refine ⟨fun h => absurd (of_decide_eq_false h) (by omega), fun _ => ?_⟩ | refine .inl ⟨⟨by omega, by omega⟩, ?_⟩ | refine ⟨⟨by omega, by omega⟩, ?_⟩)
      rw [hg1]
      by_cases k3 : s[p + 1].toNat < lo
      · repeat (first | refine ⟨fun _ => ?_, fun h => absurd (of_decide_eq_false h) (by omega)⟩ | refine ⟨fun h => absurd (of_decide_eq_true h) (by omega), fun _ => ?_⟩ | refine ⟨fun _ => ?_, fun h => absurd (of_decide_eq_true h) (by omega)⟩ | refine ⟨fun h => absurd (of_decide_eq_false h) (by omega), fun _ => ?_⟩ | refine .inl ⟨⟨by omega, by omega⟩, ?_⟩ | refine ⟨⟨by omega, by omega⟩, ?_⟩)
        exact no _ (.inr (.inr (.inl k3)))
      · repeat (first | refine ⟨fun _ => ?_, fun h => absurd (of_decide_eq_false h) (by omega)⟩ | refine ⟨fun h => absurd (of_decide_eq_true h) (by omega), fun _ => ?_⟩ | refine ⟨fun _ => ?_, fun h => absurd (of_decide_eq_true h) (by omega)⟩ | refine ⟨fun h => absurd (of_decide_eq_false h) (by omega), fun _ => ?_⟩ | refine .inl ⟨⟨by omega, by omega⟩, ?_⟩ | refine ⟨⟨by omega, by omega⟩, ?_⟩)
        rw [hg1]
        by_cases k4 : hi < s[p + 1].toNat
        · repeat (first | refine ⟨fun _ => ?_, fun h => absurd (of_decide_eq_false h) (by omega)⟩ | refine ⟨fun h => absurd (of_decide_eq_true h) (by omega), fun _ => ?_⟩ | refine ⟨fun _ => ?_, fun h => absurd (of_decide_eq_true h) (by omega)⟩ | refine ⟨fun h => absurd (of_decide_eq_false h) (by omega), fun _ => ?_⟩ | refine .inl ⟨⟨by omega, by omega⟩, ?_⟩ | refine ⟨⟨by omega, by omega⟩, ?_⟩)
          exact no _ (.inr (.inr (.inr k4)))
        · repeat (first | refine ⟨fun _ => ?_, fun h => absurd (of_decide_eq_false h) (by omega)⟩ | refine ⟨fun h => absurd (of_decide_eq_true h) (by omega), fun _ => ?_⟩ | refine ⟨fun _ => ?_, fun h => absurd (of_decide_eq_true h) (by omega)⟩ | refine ⟨fun h => absurd (of_decide_eq_false h) (by omega), fun _ => ?_⟩ | refine .inl ⟨⟨by omega, by omega⟩, ?_⟩ | refine ⟨⟨by omega, by omega⟩, ?_⟩)
          rw [if_neg (by omega)] at hR
          refine loopT Try.wf Try.tab_ok (fun q s' σ => ∃ i : Nat, q = n - i ∧ 2 ≤ i ∧ i ≤ n ∧ (((s.drop (p + 1)).drop 1).take (i - 2)).all goesB = true ∧ s' = [(0, .d (.str s)), (1, .d (.int .i64 p)), (6, .d (.int .i64 (n : Nat))), (9, .d (.int .i64 (i : Nat)))] ∧ σ = ⟨0, []⟩)
            ⟨2, rfl, by omega, by omega, by simp, rfl, rfl⟩ (Mv.of [] rfl rfl rfl trivial ⟨rfl, rfl, rfl, rfl, trivial⟩) ?_
          rintro _ _ _ ⟨i, rfl, hi2, hin, hA, rfl, rfl⟩
          by_cases hlt : i < n
          · have hpi : p + i < s.length := by omega
            have hgi : s.getD ((p : Int) + (i : Int)).toNat 0 = s[p + i] := by have := getD_at s (p + i) hpi; simpa using this
            have hs1 := hri i hi2 hpi
            have hstep : (((s.drop (p + 1)).drop 1).take (i + 1 - 2)).all goesB = goesB s[p + i] := by
              rw [show i + 1 - 2 = (i - 2) + 1 by omega, List.take_add_one, List.all_append, hA, hs1]; simp
            repeat (first | refine ⟨fun _ => ?_, fun h => absurd (of_decide_eq_false h) (by omega)⟩ | refine ⟨fun h => absurd (of_decide_eq_true h) (by omega), fun _ => ?_⟩ | refine ⟨fun _ => ?_, fun h => absurd (of_decide_eq_true h) (by omega)⟩ | refine ⟨fun h => absurd (of_decide_eq_false h) (by omega), fun _ => ?_⟩ | refine .inl ⟨⟨by omega, by omega⟩, ?_⟩ | refine ⟨⟨by omega, by omega⟩, ?_⟩)
            rw [hgi]
            refine PureC.use (goes_ok s[p + i]) ?_
            cases hgo : goesB s[p + i] with
            | true =>
              refine ⟨fun h => absurd h (by decide), fun _ => ?_⟩
              exact .inl ⟨⟨by omega, by omega⟩, _, _, _, ⟨i + 1, rfl, by omega, hlt, by rw [hstep, hgo], rfl, rfl⟩, by omega, Mv.of [] rfl rfl rfl trivial ⟨rfl, rfl, rfl, rfl, trivial⟩⟩
            | false =>
              refine ⟨fun _ => ?_, fun h => absurd h (by decide)⟩
              refine fin 0 _ ?_
              rw [hR, if_neg]
              intro hall
              rw [hgo] at hstep
              have : ((s.drop (p + 1)).drop 1).take (n - 2) = ((s.drop (p + 1)).drop 1).take (i + 1 - 2) ++ (((s.drop (p + 1)).drop 1).take (n - 2)).drop (i + 1 - 2) := by
                conv => lhs; rw [← List.take_append_drop (i + 1 - 2) (((s.drop (p + 1)).drop 1).take (n - 2))]
                rw [List.take_take, Nat.min_eq_left (by omega)]
              rw [this, List.all_append, hstep] at hall
              exact absurd hall (by simp)
          · have hin' : i = n := by omega
            subst hin'
            rw [hA, if_pos rfl] at hR
            repeat (first | refine ⟨fun _ => ?_, fun h => absurd (of_decide_eq_false h) (by omega)⟩ | refine ⟨fun h => absurd (of_decide_eq_true h) (by omega), fun _ => ?_⟩ | refine ⟨fun _ => ?_, fun h => absurd (of_decide_eq_true h) (by omega)⟩ | refine ⟨fun h => absurd (of_decide_eq_false h) (by omega), fun _ => ?_⟩ | refine .inl ⟨⟨by omega, by omega⟩, ?_⟩ | refine ⟨⟨by omega, by omega⟩, ?_⟩)
            exact fin i _ hR

end Go.Proofs.Ytcmkiancbgmmhaa
