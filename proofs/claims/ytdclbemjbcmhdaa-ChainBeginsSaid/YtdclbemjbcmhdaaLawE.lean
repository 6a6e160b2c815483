import Derived.Test.YtdclbemjbcmhdaaLawD
namespace Go.Proofs.Ytdclbemjbcmhdaa
open Go.Aw
set_option maxHeartbeats 1600000
set_option linter.unusedSimpArgs false
set_option linter.unusedVariables false

def withEp (p : Pol) (e : Int) : Pol := ⟨e, p.el, p.at', p.sc, p.cl, p.pr, p.dp, p.nd, p.by'⟩
def stepsP (p : Pol) (n : Nat) : List Pol := (List.range n).map fun i : Nat => withEp p ((i : Int) + 1)
theorem steps_len (p : Pol) (n : Nat) : (stepsP p n).length = n := by simp [stepsP]
theorem steps_succ (p : Pol) (n : Nat) : stepsP p (n + 1) = stepsP p n ++ [withEp p ((n : Int) + 1)] := by
  unfold stepsP; rw [List.range_succ, List.map_append]; rfl
theorem with_fits {p : Pol} (h : Fits p) (e : Int) : Fits (withEp p e) := ⟨h.el, h.at', h.sc, h.cl, h.pr⟩
theorem steps_fits {p : Pol} (h : Fits p) (n : Nat) : ∀ q ∈ stepsP p n, Fits q := by
  intro q hq
  unfold stepsP at hq
  obtain ⟨i, _, rfl⟩ := List.mem_map.1 hq
  exact with_fits h _
theorem right_with {p : Pol} (h : rightB p = true) {e : Int} (h1 : 1 ≤ e) (h2 : e ≤ 1000000) : rightB (withEp p e) = true := by
  unfold rightB at h ⊢
  rw [Bool.and_eq_true] at h ⊢
  refine ⟨?_, h.2⟩
  have := h.1
  unfold sizesB at this ⊢
  rw [decide_eq_true_eq] at this ⊢
  exact ⟨h1, h2, this.2.2⟩
theorem stricter_with (p : Pol) (a b : Int) : stricterB (withEp p a) (withEp p b) = true := by
  rw [stricter_iff]
  exact ⟨fun s hs => .inl hs, ⟨Int.le_refl _, Int.le_refl _, Int.le_refl _⟩, fun s hs => hs, fun s hs => hs, fun s hs => hs, fun s hs => hs⟩
theorem steps_last (p : Pol) (n : Nat) (d : Pol) : (stepsP p (n + 1)).getLastD d = withEp p ((n : Int) + 1) := by
  rw [steps_succ]; simp
theorem steps_chain {p : Pol} (h : rightB p = true) : ∀ (n : Nat), n ≤ 1000000 → (chainB (stepsP p n)).1 = 0
  | 0, _ => rfl
  | n + 1, hn => by
    have ih := steps_chain h n (by omega)
    rw [steps_succ]
    unfold chainB at ih ⊢
    rw [chain_snoc _ 0 zeroPol _ ih, steps_len, Nat.zero_add]
    rw [if_pos]
    refine next_of (right_with h (by omega) (by omega)) rfl ?_
    cases n with
    | zero => exact .inl rfl
    | succ k => rw [steps_last]; exact .inr (stricter_with p _ _)

def zzz : List UInt8 := List.replicate 32 122
theorem zzz_most : ∀ (n : Nat) (y : List UInt8), y.length ≤ n → (∀ c ∈ y, c.toNat ≤ 122) → Op.bytesLess (List.replicate n 122) y = false
  | n, [], _, _ => by cases n <;> rfl
  | 0, c :: r, h, _ => by simp at h
  | n + 1, c :: r, h, hc => by
    have ih := zzz_most n r (by simpa using h) (fun d hd => hc d (by simp [hd]))
    have h1 : ¬ (122 : UInt8) < c := by
      have := hc c (by simp)
      intro h2
      have : (122 : UInt8).toNat < c.toNat := h2
      have e : (122 : UInt8).toNat = 122 := rfl
      omega
    rw [List.replicate_succ]
    unfold Op.bytesLess
    rw [decide_eq_false h1, ih]
    simp
theorem small_le {s : List UInt8} (h : small s [45] = true) : ∀ c ∈ s, c.toNat ≤ 122 := by
  have let_le : ∀ c : UInt8, letB c = true → c.toNat ≤ 122 := fun c h => by unfold letB at h; simp at h; exact h.2
  have dig_le : ∀ c : UInt8, (digB c || decide (c ∈ [(45 : UInt8)])) = true → c.toNat ≤ 122 := fun c h => by
    unfold digB at h
    rw [in45] at h
    simp at h; omega
  cases s with
  | nil => simp
  | cons c r =>
    unfold small smallT at h
    rw [Bool.and_eq_true, List.all_eq_true] at h
    intro d hd
    rcases List.mem_cons.1 hd with rfl | hd
    · exact let_le _ h.1
    · have := h.2 d hd
      rw [Bool.or_eq_true] at this
      rcases this with h' | h'
      · exact let_le _ h'
      · exact dig_le _ h'
theorem rises_next : ∀ (a b : List (List UInt8)) (x y : List UInt8), risesB (a ++ x :: y :: b) = true → Op.bytesLess x y = true
  | [], b, x, y, h => by simp [risesB] at h; exact h.1
  | [c], b, x, y, h => by simp [risesB] at h; exact h.2.1
  | c :: d :: r, b, x, y, h => by
    simp only [List.cons_append, risesB, Bool.and_eq_true] at h
    exact rises_next (d :: r) b x y h.2
/-- The greatest word of all stands in no list that it may stand behind. -/
theorem zzz_new {l : List (List UInt8)} (h : listB schemeOk (l ++ [zzz]) = true) : zzz ∉ l := by
  intro hm
  unfold listB at h
  rw [Bool.and_eq_true, Bool.and_eq_true, List.all_eq_true] at h
  obtain ⟨a, b, rfl⟩ := List.append_of_mem hm
  have key : ∀ y, y ∈ (a ++ zzz :: b) ++ [zzz] → Op.bytesLess zzz y = false := fun y hy => by
    have := h.1.2 y hy
    unfold schemeOk wordB at this
    rw [Bool.and_eq_true, Bool.and_eq_true, decide_eq_true_eq] at this
    exact zzz_most 32 y this.1.2 (small_le this.1.1)
  have h1 := h.1.1
  rw [List.append_assoc, List.cons_append] at h1
  cases b with
  | nil =>
    have := rises_next a [] zzz zzz h1
    rw [key zzz (by simp)] at this; cases this
  | cons y r =>
    have := rises_next a (r ++ [zzz]) zzz y h1
    rw [key y (by simp)] at this; cases this
def moreP (p : Pol) (n : Nat) : Pol := ⟨(n : Int) + 1, p.el, p.at', p.sc ++ [zzz], p.cl, p.pr, p.dp, p.nd, p.by'⟩
theorem steps_more {p : Pol} (h : rightB p = true) (n : Nat) (hn : n + 1 ≤ 1000) : (chainB (stepsP p (n + 1) ++ [moreP p (n + 1)])).1 = if rightB (moreP p (n + 1)) = true then 6 else 2 := by
  have hc := steps_chain h (n + 1) (by omega)
  unfold chainB at hc ⊢
  rw [chain_snoc _ 0 zeroPol _ hc, steps_len, Nat.zero_add, steps_last]
  have hv : nextE (n + 1) (withEp p ((n : Int) + 1)) (moreP p (n + 1)) = if rightB (moreP p (n + 1)) = true then 6 else 2 := by
    unfold nextE
    by_cases hr : rightB (moreP p (n + 1)) = true
    · rw [if_pos hr, if_pos hr, if_pos (show (moreP p (n + 1)).ep = ((n + 1 : Nat) : Int) + 1 from rfl), if_neg]
      rintro (h' | h')
      · omega
      · rw [stricter_iff] at h'
        have hz := h'.2.2.2.1 zzz (by simp [moreP])
        have hl : listB schemeOk (p.sc ++ [zzz]) = true := by
          have := hr
          unfold rightB at this
          simp only [Bool.and_eq_true] at this
          exact this.2.2.2.1
        exact zzz_new hl hz
    · rw [if_neg hr, if_neg hr]
  rw [hv]
  by_cases hr : rightB (moreP p (n + 1)) = true
  · rw [if_pos hr, if_neg (by decide)]
  · rw [if_neg hr, if_neg (by decide)]

theorem light_sizes {p : Pol} (h : lightP p = true) : p.sc.length ≤ 100 := by
  unfold lightP at h
  rw [Bool.and_eq_true, List.all_eq_true] at h
  have := h.1 p.sc (by simp [listsOf])
  simpa using this
set_option maxRecDepth 100000 in
theorem ChainSteps_ok (p : Pol) (n : Int) : PureC Try.prog 5 [polA p, .d (.int .i64 n)] (.d (.bool true)) := by
  have hc1 := awake_ok
  have hc2 := pLight_ok p
  cases hL : lightP p with
  | false =>
    rw [hL] at hc2
    refine pure_okT Try.wf Try.tab_ok Try.func5 (by decide +kernel) rfl rfl rfl rfl ?_
    repeat' (first | refine PureC.use hc1 ?_ | refine PureC.use hc2 ?_ | refine PureC.use hc3 ?_ |                refine ⟨fun _ => ?_, fun h => absurd h (by decide)⟩ | refine ⟨fun h => absurd h (by decide), fun _ => ?_⟩ | (refine ⟨fun h => ?_, fun h => ?_⟩ <;> (try simp only [decide_eq_true_eq, decide_eq_false_iff_not, Bool.not_eq_true', Bool.not_eq_false', Bool.not_eq_true, Bool.not_eq_false, not_true_eq_false, Bool.and_true, Bool.and_eq_true, Bool.and_eq_false_iff, Bool.or_eq_true, Bool.or_eq_false_iff, List.length_cons, List.length_nil] at h) <;> (try (exfalso; omega))) | refine ⟨⟨by (first | omega | (simp only [List.length_append, List.length_cons, List.length_nil, List.length_drop, List.length_take]; omega)), by (first | omega | (simp only [List.length_append, List.length_cons, List.length_nil, List.length_drop, List.length_take]; omega))⟩, _, by assumption, by rfl, ?_⟩ | refine .inl ⟨⟨by (first | omega | (simp only [List.length_append, List.length_cons, List.length_nil, List.length_drop, List.length_take]; omega)), by (first | omega | (simp only [List.length_append, List.length_cons, List.length_nil, List.length_drop, List.length_take]; omega))⟩, ?_⟩ | refine ⟨⟨by (first | omega | (simp only [List.length_append, List.length_cons, List.length_nil, List.length_drop, List.length_take]; omega)), by (first | omega | (simp only [List.length_append, List.length_cons, List.length_nil, List.length_drop, List.length_take]; omega))⟩, ?_⟩ | refine ⟨⟨by (first | omega | (simp only [List.length_append, List.length_cons, List.length_nil, List.length_drop, List.length_take]; omega)), by (first | omega | (simp only [List.length_append, List.length_cons, List.length_nil, List.length_drop, List.length_take]; omega)), by (first | omega | (simp only [List.length_append, List.length_cons, List.length_nil, List.length_drop, List.length_take]; omega))⟩, ?_⟩ | refine ⟨.inl rfl, ?_⟩ | refine ⟨.inr (.inl (by (first | omega | (simp only [List.length_append, List.length_cons, List.length_nil, List.length_drop, List.length_take]; omega)))), ?_⟩ | refine ⟨_, rfl, rfl, by (first | exact Nat.le_refl _ | exact Nat.le_of_ble_eq_true rfl | decide), ?_⟩ | refine ⟨_, rfl, by (first | exact Nat.le_refl _ | exact Nat.le_of_ble_eq_true rfl | decide), ?_⟩ | refine ⟨by (first | exact Nat.le_refl _ | exact Nat.le_of_ble_eq_true rfl | decide), ?_⟩ | refine ⟨show _ ≤ (9223372036854775807 : Nat) by (first | omega | (simp only [List.length_append, List.length_cons, List.length_nil, List.length_drop, List.length_take]; omega)), ?_⟩ | refine ⟨show _ ≠ (0 : Int) by (first | omega | (simp only [List.length_append, List.length_cons, List.length_nil, List.length_drop, List.length_take]; omega)), ?_⟩ | refine ⟨_, rfl, _, rfl, ?_⟩ | refine ⟨_, rfl, ?_⟩ | fail)
    exact ⟨_, _, fin_out rfl, rfl⟩
  | true =>
    have hfit := light_fits hL
    have hc3 := Right_ok p hfit
    rw [hL] at hc2
    cases hR : rightB p with
    | false =>
      rw [hR] at hc3
      refine pure_okT Try.wf Try.tab_ok Try.func5 (by decide +kernel) rfl rfl rfl rfl ?_
      repeat' (first | refine PureC.use hc1 ?_ | refine PureC.use hc2 ?_ | refine PureC.use hc3 ?_ |                refine ⟨fun _ => ?_, fun h => absurd h (by decide)⟩ | refine ⟨fun h => absurd h (by decide), fun _ => ?_⟩ | (refine ⟨fun h => ?_, fun h => ?_⟩ <;> (try simp only [decide_eq_true_eq, decide_eq_false_iff_not, Bool.not_eq_true', Bool.not_eq_false', Bool.not_eq_true, Bool.not_eq_false, not_true_eq_false, Bool.and_true, Bool.and_eq_true, Bool.and_eq_false_iff, Bool.or_eq_true, Bool.or_eq_false_iff, List.length_cons, List.length_nil] at h) <;> (try (exfalso; omega))) | refine ⟨⟨by (first | omega | (simp only [List.length_append, List.length_cons, List.length_nil, List.length_drop, List.length_take]; omega)), by (first | omega | (simp only [List.length_append, List.length_cons, List.length_nil, List.length_drop, List.length_take]; omega))⟩, _, by assumption, by rfl, ?_⟩ | refine .inl ⟨⟨by (first | omega | (simp only [List.length_append, List.length_cons, List.length_nil, List.length_drop, List.length_take]; omega)), by (first | omega | (simp only [List.length_append, List.length_cons, List.length_nil, List.length_drop, List.length_take]; omega))⟩, ?_⟩ | refine ⟨⟨by (first | omega | (simp only [List.length_append, List.length_cons, List.length_nil, List.length_drop, List.length_take]; omega)), by (first | omega | (simp only [List.length_append, List.length_cons, List.length_nil, List.length_drop, List.length_take]; omega))⟩, ?_⟩ | refine ⟨⟨by (first | omega | (simp only [List.length_append, List.length_cons, List.length_nil, List.length_drop, List.length_take]; omega)), by (first | omega | (simp only [List.length_append, List.length_cons, List.length_nil, List.length_drop, List.length_take]; omega)), by (first | omega | (simp only [List.length_append, List.length_cons, List.length_nil, List.length_drop, List.length_take]; omega))⟩, ?_⟩ | refine ⟨.inl rfl, ?_⟩ | refine ⟨.inr (.inl (by (first | omega | (simp only [List.length_append, List.length_cons, List.length_nil, List.length_drop, List.length_take]; omega)))), ?_⟩ | refine ⟨_, rfl, rfl, by (first | exact Nat.le_refl _ | exact Nat.le_of_ble_eq_true rfl | decide), ?_⟩ | refine ⟨_, rfl, by (first | exact Nat.le_refl _ | exact Nat.le_of_ble_eq_true rfl | decide), ?_⟩ | refine ⟨by (first | exact Nat.le_refl _ | exact Nat.le_of_ble_eq_true rfl | decide), ?_⟩ | refine ⟨show _ ≤ (9223372036854775807 : Nat) by (first | omega | (simp only [List.length_append, List.length_cons, List.length_nil, List.length_drop, List.length_take]; omega)), ?_⟩ | refine ⟨show _ ≠ (0 : Int) by (first | omega | (simp only [List.length_append, List.length_cons, List.length_nil, List.length_drop, List.length_take]; omega)), ?_⟩ | refine ⟨_, rfl, _, rfl, ?_⟩ | refine ⟨_, rfl, ?_⟩ | fail)
      all_goals exact ⟨_, _, fin_out rfl, rfl⟩
    | true =>
      rw [hR] at hc3
      refine pure_okT Try.wf Try.tab_ok Try.func5 (by decide +kernel) rfl rfl rfl rfl ?_
      repeat' (first | refine PureC.use hc1 ?_ | refine PureC.use hc2 ?_ | refine PureC.use hc3 ?_ |                refine ⟨fun _ => ?_, fun h => absurd h (by decide)⟩ | refine ⟨fun h => absurd h (by decide), fun _ => ?_⟩ | (refine ⟨fun h => ?_, fun h => ?_⟩ <;> (try simp only [decide_eq_true_eq, decide_eq_false_iff_not, Bool.not_eq_true', Bool.not_eq_false', Bool.not_eq_true, Bool.not_eq_false, not_true_eq_false, Bool.and_true, Bool.and_eq_true, Bool.and_eq_false_iff, Bool.or_eq_true, Bool.or_eq_false_iff, List.length_cons, List.length_nil] at h) <;> (try (exfalso; omega))) | refine ⟨⟨by (first | omega | (simp only [List.length_append, List.length_cons, List.length_nil, List.length_drop, List.length_take]; omega)), by (first | omega | (simp only [List.length_append, List.length_cons, List.length_nil, List.length_drop, List.length_take]; omega))⟩, _, by assumption, by rfl, ?_⟩ | refine .inl ⟨⟨by (first | omega | (simp only [List.length_append, List.length_cons, List.length_nil, List.length_drop, List.length_take]; omega)), by (first | omega | (simp only [List.length_append, List.length_cons, List.length_nil, List.length_drop, List.length_take]; omega))⟩, ?_⟩ | refine ⟨⟨by (first | omega | (simp only [List.length_append, List.length_cons, List.length_nil, List.length_drop, List.length_take]; omega)), by (first | omega | (simp only [List.length_append, List.length_cons, List.length_nil, List.length_drop, List.length_take]; omega))⟩, ?_⟩ | refine ⟨⟨by (first | omega | (simp only [List.length_append, List.length_cons, List.length_nil, List.length_drop, List.length_take]; omega)), by (first | omega | (simp only [List.length_append, List.length_cons, List.length_nil, List.length_drop, List.length_take]; omega)), by (first | omega | (simp only [List.length_append, List.length_cons, List.length_nil, List.length_drop, List.length_take]; omega))⟩, ?_⟩ | refine ⟨.inl rfl, ?_⟩ | refine ⟨.inr (.inl (by (first | omega | (simp only [List.length_append, List.length_cons, List.length_nil, List.length_drop, List.length_take]; omega)))), ?_⟩ | refine ⟨_, rfl, rfl, by (first | exact Nat.le_refl _ | exact Nat.le_of_ble_eq_true rfl | decide), ?_⟩ | refine ⟨_, rfl, by (first | exact Nat.le_refl _ | exact Nat.le_of_ble_eq_true rfl | decide), ?_⟩ | refine ⟨by (first | exact Nat.le_refl _ | exact Nat.le_of_ble_eq_true rfl | decide), ?_⟩ | refine ⟨show _ ≤ (9223372036854775807 : Nat) by (first | omega | (simp only [List.length_append, List.length_cons, List.length_nil, List.length_drop, List.length_take]; omega)), ?_⟩ | refine ⟨show _ ≠ (0 : Int) by (first | omega | (simp only [List.length_append, List.length_cons, List.length_nil, List.length_drop, List.length_take]; omega)), ?_⟩ | refine ⟨_, rfl, _, rfl, ?_⟩ | refine ⟨_, rfl, ?_⟩ | fail)
      · obtain ⟨m, rfl⟩ : ∃ m : Nat, n = m := ⟨n.toNat, by omega⟩
        clear hc1 hc2 hc3
        refine loopT Try.wf Try.tab_ok (fun x s' σ => ∃ (k : Nat) (e : Int), x = m - k ∧ k ≤ m ∧ (0 < k → e = k) ∧ s' = [(1, .d (.int .i64 m)), (2, .ref 0 0 0), (5, .d (.bool true)), (7, .d (.sl (polsD (stepsP p k)))), (8, .d (.int .i64 k))] ∧ σ = ⟨1, [(0, boxO (withEp p e))]⟩)
          ⟨0, p.ep, rfl, Nat.zero_le _, fun h => absurd h (by omega), rfl, rfl⟩ (Mv.of [.old 0] rfl rfl rfl ⟨⟨rfl, .inl ⟨rfl, box_pure p⟩⟩, trivial⟩ ⟨rfl, ⟨rfl, rfl, rfl⟩, rfl, rfl, rfl, trivial⟩) ?_
        rintro _ _ _ ⟨k, e, rfl, hk, he, rfl, rfl⟩
        by_cases hlt : k < m
        · have hc1 := Add_ok (stepsP p k) (withEp p ((k : Int) + 1)) (by rw [steps_len]; omega) (steps_fits hfit k) (with_fits hfit _)
          rw [show addV (stepsP p k) (withEp p ((k : Int) + 1)) = .tup [.d (.sl (polsD (stepsP p (k + 1)))), .d (.int .i64 0)] by
            unfold addV; rw [if_pos (steps_chain hR k (by omega)), ← steps_succ, if_pos (steps_chain hR (k + 1) (by omega))]] at hc1
          repeat' (first | refine PureC.use hc1 ?_ | refine PureC.use hc2 ?_ | refine PureC.use hc3 ?_ |                refine ⟨fun _ => ?_, fun h => absurd h (by decide)⟩ | refine ⟨fun h => absurd h (by decide), fun _ => ?_⟩ | (refine ⟨fun h => ?_, fun h => ?_⟩ <;> (try simp only [decide_eq_true_eq, decide_eq_false_iff_not, Bool.not_eq_true', Bool.not_eq_false', Bool.not_eq_true, Bool.not_eq_false, not_true_eq_false, Bool.and_true, Bool.and_eq_true, Bool.and_eq_false_iff, Bool.or_eq_true, Bool.or_eq_false_iff, List.length_cons, List.length_nil] at h) <;> (try (exfalso; omega))) | refine ⟨⟨by (first | omega | (simp only [List.length_append, List.length_cons, List.length_nil, List.length_drop, List.length_take]; omega)), by (first | omega | (simp only [List.length_append, List.length_cons, List.length_nil, List.length_drop, List.length_take]; omega))⟩, _, by assumption, by rfl, ?_⟩ | refine .inl ⟨⟨by (first | omega | (simp only [List.length_append, List.length_cons, List.length_nil, List.length_drop, List.length_take]; omega)), by (first | omega | (simp only [List.length_append, List.length_cons, List.length_nil, List.length_drop, List.length_take]; omega))⟩, ?_⟩ | refine ⟨⟨by (first | omega | (simp only [List.length_append, List.length_cons, List.length_nil, List.length_drop, List.length_take]; omega)), by (first | omega | (simp only [List.length_append, List.length_cons, List.length_nil, List.length_drop, List.length_take]; omega))⟩, ?_⟩ | refine ⟨⟨by (first | omega | (simp only [List.length_append, List.length_cons, List.length_nil, List.length_drop, List.length_take]; omega)), by (first | omega | (simp only [List.length_append, List.length_cons, List.length_nil, List.length_drop, List.length_take]; omega)), by (first | omega | (simp only [List.length_append, List.length_cons, List.length_nil, List.length_drop, List.length_take]; omega))⟩, ?_⟩ | refine ⟨.inl rfl, ?_⟩ | refine ⟨.inr (.inl (by (first | omega | (simp only [List.length_append, List.length_cons, List.length_nil, List.length_drop, List.length_take]; omega)))), ?_⟩ | refine ⟨_, rfl, rfl, by (first | exact Nat.le_refl _ | exact Nat.le_of_ble_eq_true rfl | decide), ?_⟩ | refine ⟨_, rfl, by (first | exact Nat.le_refl _ | exact Nat.le_of_ble_eq_true rfl | decide), ?_⟩ | refine ⟨by (first | exact Nat.le_refl _ | exact Nat.le_of_ble_eq_true rfl | decide), ?_⟩ | refine ⟨show _ ≤ (9223372036854775807 : Nat) by (first | omega | (simp only [List.length_append, List.length_cons, List.length_nil, List.length_drop, List.length_take]; omega)), ?_⟩ | refine ⟨show _ ≠ (0 : Int) by (first | omega | (simp only [List.length_append, List.length_cons, List.length_nil, List.length_drop, List.length_take]; omega)), ?_⟩ | refine ⟨_, rfl, _, rfl, ?_⟩ | refine ⟨_, rfl, ?_⟩ | fail)
          exact ⟨_, _, _, ⟨k + 1, (k : Int) + 1, rfl, hlt, fun _ => by omega, rfl, rfl⟩, by omega, Mv.of [.old 0] rfl rfl rfl ⟨⟨rfl, .inl ⟨rfl, box_pure _⟩⟩, trivial⟩ ⟨rfl, ⟨rfl, rfl, rfl⟩, rfl, rfl, rfl, trivial⟩⟩
        · have hkm : k = m := by omega
          subst hkm
          cases k with
          | zero =>
            repeat' (first | refine PureC.use hc1 ?_ | refine PureC.use hc2 ?_ | refine PureC.use hc3 ?_ |                refine ⟨fun _ => ?_, fun h => absurd h (by decide)⟩ | refine ⟨fun h => absurd h (by decide), fun _ => ?_⟩ | (refine ⟨fun h => ?_, fun h => ?_⟩ <;> (try simp only [decide_eq_true_eq, decide_eq_false_iff_not, Bool.not_eq_true', Bool.not_eq_false', Bool.not_eq_true, Bool.not_eq_false, not_true_eq_false, Bool.and_true, Bool.and_eq_true, Bool.and_eq_false_iff, Bool.or_eq_true, Bool.or_eq_false_iff, List.length_cons, List.length_nil] at h) <;> (try (exfalso; omega))) | refine ⟨⟨by (first | omega | (simp only [List.length_append, List.length_cons, List.length_nil, List.length_drop, List.length_take]; omega)), by (first | omega | (simp only [List.length_append, List.length_cons, List.length_nil, List.length_drop, List.length_take]; omega))⟩, _, by assumption, by rfl, ?_⟩ | refine .inl ⟨⟨by (first | omega | (simp only [List.length_append, List.length_cons, List.length_nil, List.length_drop, List.length_take]; omega)), by (first | omega | (simp only [List.length_append, List.length_cons, List.length_nil, List.length_drop, List.length_take]; omega))⟩, ?_⟩ | refine ⟨⟨by (first | omega | (simp only [List.length_append, List.length_cons, List.length_nil, List.length_drop, List.length_take]; omega)), by (first | omega | (simp only [List.length_append, List.length_cons, List.length_nil, List.length_drop, List.length_take]; omega))⟩, ?_⟩ | refine ⟨⟨by (first | omega | (simp only [List.length_append, List.length_cons, List.length_nil, List.length_drop, List.length_take]; omega)), by (first | omega | (simp only [List.length_append, List.length_cons, List.length_nil, List.length_drop, List.length_take]; omega)), by (first | omega | (simp only [List.length_append, List.length_cons, List.length_nil, List.length_drop, List.length_take]; omega))⟩, ?_⟩ | refine ⟨.inl rfl, ?_⟩ | refine ⟨.inr (.inl (by (first | omega | (simp only [List.length_append, List.length_cons, List.length_nil, List.length_drop, List.length_take]; omega)))), ?_⟩ | refine ⟨_, rfl, rfl, by (first | exact Nat.le_refl _ | exact Nat.le_of_ble_eq_true rfl | decide), ?_⟩ | refine ⟨_, rfl, by (first | exact Nat.le_refl _ | exact Nat.le_of_ble_eq_true rfl | decide), ?_⟩ | refine ⟨by (first | exact Nat.le_refl _ | exact Nat.le_of_ble_eq_true rfl | decide), ?_⟩ | refine ⟨show _ ≤ (9223372036854775807 : Nat) by (first | omega | (simp only [List.length_append, List.length_cons, List.length_nil, List.length_drop, List.length_take]; omega)), ?_⟩ | refine ⟨show _ ≠ (0 : Int) by (first | omega | (simp only [List.length_append, List.length_cons, List.length_nil, List.length_drop, List.length_take]; omega)), ?_⟩ | refine ⟨_, rfl, _, rfl, ?_⟩ | refine ⟨_, rfl, ?_⟩ | fail)
            all_goals exact ⟨_, _, fin_out rfl, rfl⟩
          | succ j =>
            rw [he (by omega)]
            repeat' (first | refine PureC.use hc1 ?_ | refine PureC.use hc2 ?_ | refine PureC.use hc3 ?_ |                refine ⟨fun _ => ?_, fun h => absurd h (by decide)⟩ | refine ⟨fun h => absurd h (by decide), fun _ => ?_⟩ | (refine ⟨fun h => ?_, fun h => ?_⟩ <;> (try simp only [decide_eq_true_eq, decide_eq_false_iff_not, Bool.not_eq_true', Bool.not_eq_false', Bool.not_eq_true, Bool.not_eq_false, not_true_eq_false, Bool.and_true, Bool.and_eq_true, Bool.and_eq_false_iff, Bool.or_eq_true, Bool.or_eq_false_iff, List.length_cons, List.length_nil] at h) <;> (try (exfalso; omega))) | refine ⟨⟨by (first | omega | (simp only [List.length_append, List.length_cons, List.length_nil, List.length_drop, List.length_take]; omega)), by (first | omega | (simp only [List.length_append, List.length_cons, List.length_nil, List.length_drop, List.length_take]; omega))⟩, _, by assumption, by rfl, ?_⟩ | refine .inl ⟨⟨by (first | omega | (simp only [List.length_append, List.length_cons, List.length_nil, List.length_drop, List.length_take]; omega)), by (first | omega | (simp only [List.length_append, List.length_cons, List.length_nil, List.length_drop, List.length_take]; omega))⟩, ?_⟩ | refine ⟨⟨by (first | omega | (simp only [List.length_append, List.length_cons, List.length_nil, List.length_drop, List.length_take]; omega)), by (first | omega | (simp only [List.length_append, List.length_cons, List.length_nil, List.length_drop, List.length_take]; omega))⟩, ?_⟩ | refine ⟨⟨by (first | omega | (simp only [List.length_append, List.length_cons, List.length_nil, List.length_drop, List.length_take]; omega)), by (first | omega | (simp only [List.length_append, List.length_cons, List.length_nil, List.length_drop, List.length_take]; omega)), by (first | omega | (simp only [List.length_append, List.length_cons, List.length_nil, List.length_drop, List.length_take]; omega))⟩, ?_⟩ | refine ⟨.inl rfl, ?_⟩ | refine ⟨.inr (.inl (by (first | omega | (simp only [List.length_append, List.length_cons, List.length_nil, List.length_drop, List.length_take]; omega)))), ?_⟩ | refine ⟨_, rfl, rfl, by (first | exact Nat.le_refl _ | exact Nat.le_of_ble_eq_true rfl | decide), ?_⟩ | refine ⟨_, rfl, by (first | exact Nat.le_refl _ | exact Nat.le_of_ble_eq_true rfl | decide), ?_⟩ | refine ⟨by (first | exact Nat.le_refl _ | exact Nat.le_of_ble_eq_true rfl | decide), ?_⟩ | refine ⟨show _ ≤ (9223372036854775807 : Nat) by (first | omega | (simp only [List.length_append, List.length_cons, List.length_nil, List.length_drop, List.length_take]; omega)), ?_⟩ | refine ⟨show _ ≠ (0 : Int) by (first | omega | (simp only [List.length_append, List.length_cons, List.length_nil, List.length_drop, List.length_take]; omega)), ?_⟩ | refine ⟨_, rfl, _, rfl, ?_⟩ | refine ⟨_, rfl, ?_⟩ | fail)
            have hn := strsD_len p.sc
            have hml : ((strsD p.sc).map fun r => r.map AV.d).length = p.sc.length := by rw [List.length_map, hn]
            have hfs := hfit.sc.1
            refine ⟨[], (strsD p.sc).map fun r => r.map AV.d, rfl, rfl, rfl, trivial, (by rw [hml]; show (0 + p.sc.length) * 16 ≤ 140737488355328; omega), Nat.le_of_ble_eq_true rfl, Nat.le_of_ble_eq_true rfl, rfl, rfl, rowsNone, strsRowsW p.sc, ?_⟩
            refine ⟨(strsD p.sc).map fun r => r.map AV.d, [[.d (.str zzz)]], congrArg some (takeAll (Nat.zero_add _).symm), rfl, (by dsimp only [ev, look, Nat.beq]; exact (show srcLen (.own 3 0 (0 + ((strsD p.sc).map fun r => r.map AV.d).length)) ((strsD p.sc).map fun r => r.map AV.d).length from (Nat.zero_add _).symm)), rfl, (by rw [hml]; show (p.sc.length + 1) * 16 ≤ 140737488355328; omega), Nat.le_of_ble_eq_true rfl, Nat.le_of_ble_eq_true rfl, rfl, rfl, strsRowsW p.sc, rowsOne rfl rfl, ?_⟩
            repeat' (first | refine PureC.use hc1 ?_ | refine PureC.use hc2 ?_ | refine PureC.use hc3 ?_ |                refine ⟨fun _ => ?_, fun h => absurd h (by decide)⟩ | refine ⟨fun h => absurd h (by decide), fun _ => ?_⟩ | (refine ⟨fun h => ?_, fun h => ?_⟩ <;> (try simp only [decide_eq_true_eq, decide_eq_false_iff_not, Bool.not_eq_true', Bool.not_eq_false', Bool.not_eq_true, Bool.not_eq_false, not_true_eq_false, Bool.and_true, Bool.and_eq_true, Bool.and_eq_false_iff, Bool.or_eq_true, Bool.or_eq_false_iff, List.length_cons, List.length_nil] at h) <;> (try (exfalso; omega))) | refine ⟨⟨by (first | omega | (simp only [List.length_append, List.length_cons, List.length_nil, List.length_drop, List.length_take]; omega)), by (first | omega | (simp only [List.length_append, List.length_cons, List.length_nil, List.length_drop, List.length_take]; omega))⟩, _, by assumption, by rfl, ?_⟩ | refine .inl ⟨⟨by (first | omega | (simp only [List.length_append, List.length_cons, List.length_nil, List.length_drop, List.length_take]; omega)), by (first | omega | (simp only [List.length_append, List.length_cons, List.length_nil, List.length_drop, List.length_take]; omega))⟩, ?_⟩ | refine ⟨⟨by (first | omega | (simp only [List.length_append, List.length_cons, List.length_nil, List.length_drop, List.length_take]; omega)), by (first | omega | (simp only [List.length_append, List.length_cons, List.length_nil, List.length_drop, List.length_take]; omega))⟩, ?_⟩ | refine ⟨⟨by (first | omega | (simp only [List.length_append, List.length_cons, List.length_nil, List.length_drop, List.length_take]; omega)), by (first | omega | (simp only [List.length_append, List.length_cons, List.length_nil, List.length_drop, List.length_take]; omega)), by (first | omega | (simp only [List.length_append, List.length_cons, List.length_nil, List.length_drop, List.length_take]; omega))⟩, ?_⟩ | refine ⟨.inl rfl, ?_⟩ | refine ⟨.inr (.inl (by (first | omega | (simp only [List.length_append, List.length_cons, List.length_nil, List.length_drop, List.length_take]; omega)))), ?_⟩ | refine ⟨_, rfl, rfl, by (first | exact Nat.le_refl _ | exact Nat.le_of_ble_eq_true rfl | decide), ?_⟩ | refine ⟨_, rfl, by (first | exact Nat.le_refl _ | exact Nat.le_of_ble_eq_true rfl | decide), ?_⟩ | refine ⟨by (first | exact Nat.le_refl _ | exact Nat.le_of_ble_eq_true rfl | decide), ?_⟩ | refine ⟨show _ ≤ (9223372036854775807 : Nat) by (first | omega | (simp only [List.length_append, List.length_cons, List.length_nil, List.length_drop, List.length_take]; omega)), ?_⟩ | refine ⟨show _ ≠ (0 : Int) by (first | omega | (simp only [List.length_append, List.length_cons, List.length_nil, List.length_drop, List.length_take]; omega)), ?_⟩ | refine ⟨_, rfl, _, rfl, ?_⟩ | refine ⟨_, rfl, ?_⟩ | fail)
            have hfm : Fits (moreP p (j + 1)) := ⟨hfit.el, hfit.at', ⟨by simp [moreP]; have := light_sizes hL; omega, fun s hs => by
              rcases List.mem_append.1 hs with h | h
              · exact hfit.sc.2 s h
              · rw [List.mem_singleton.1 h]; decide⟩, hfit.cl, hfit.pr⟩
            have c1 := Right_ok (moreP p (j + 1)) hfm
            have c2 := Add_ok (stepsP p (j + 1)) (moreP p (j + 1)) (by rw [steps_len]; omega) (steps_fits hfit _) hfm
            have hsee : ∀ (σ : Store) (n : Nat), σ.get 5 = .rows (1, 9) ((strsD (p.sc ++ [zzz])).map fun r => r.map .d) → n = p.sc.length + 1 → optL (seeV σ 1) [.agg [.d (.int .i64 (((j + 1 : Nat) : Int) + 1)), .d (.sl (strsD p.el)), .d (.sl (strsD p.at')), .own 5 0 n, .d (.sl (strsD p.cl)), .d (.sl (strsD p.pr)), .d (.int .i64 p.dp), .d (.int .i64 p.nd), .d (.int .i64 p.by')]] = some [polA (moreP p (j + 1))] := fun σ n h1 h2 => by
              have e := see_own (n := 0) (len := n) h1 (by rw [h2, strsD_len]; simp)
              simp only [optL, seeV, seeD_d, e, Option.map_some]
              rfl
            refine CallsAbs.use1 (PureC.borrow 1 c1 rfl (hsee _ _ ?_ ?_)) ?_
            · show Ob.rows _ (((strsD p.sc).map fun r => r.map AV.d) ++ [[AV.d (.str zzz)]]) = _
              rw [strs_snoc, List.map_append]; rfl
            · rw [hml]; rfl
            unfold addV at c2
            rw [if_pos (steps_chain hR (j + 1) (by omega)), steps_more hR j (by omega)] at c2
            repeat' (first | refine PureC.use hc1 ?_ | refine PureC.use hc2 ?_ | refine PureC.use hc3 ?_ |                refine ⟨fun _ => ?_, fun h => absurd h (by decide)⟩ | refine ⟨fun h => absurd h (by decide), fun _ => ?_⟩ | (refine ⟨fun h => ?_, fun h => ?_⟩ <;> (try simp only [decide_eq_true_eq, decide_eq_false_iff_not, Bool.not_eq_true', Bool.not_eq_false', Bool.not_eq_true, Bool.not_eq_false, not_true_eq_false, Bool.and_true, Bool.and_eq_true, Bool.and_eq_false_iff, Bool.or_eq_true, Bool.or_eq_false_iff, List.length_cons, List.length_nil] at h) <;> (try (exfalso; omega))) | refine ⟨⟨by (first | omega | (simp only [List.length_append, List.length_cons, List.length_nil, List.length_drop, List.length_take]; omega)), by (first | omega | (simp only [List.length_append, List.length_cons, List.length_nil, List.length_drop, List.length_take]; omega))⟩, _, by assumption, by rfl, ?_⟩ | refine .inl ⟨⟨by (first | omega | (simp only [List.length_append, List.length_cons, List.length_nil, List.length_drop, List.length_take]; omega)), by (first | omega | (simp only [List.length_append, List.length_cons, List.length_nil, List.length_drop, List.length_take]; omega))⟩, ?_⟩ | refine ⟨⟨by (first | omega | (simp only [List.length_append, List.length_cons, List.length_nil, List.length_drop, List.length_take]; omega)), by (first | omega | (simp only [List.length_append, List.length_cons, List.length_nil, List.length_drop, List.length_take]; omega))⟩, ?_⟩ | refine ⟨⟨by (first | omega | (simp only [List.length_append, List.length_cons, List.length_nil, List.length_drop, List.length_take]; omega)), by (first | omega | (simp only [List.length_append, List.length_cons, List.length_nil, List.length_drop, List.length_take]; omega)), by (first | omega | (simp only [List.length_append, List.length_cons, List.length_nil, List.length_drop, List.length_take]; omega))⟩, ?_⟩ | refine ⟨.inl rfl, ?_⟩ | refine ⟨.inr (.inl (by (first | omega | (simp only [List.length_append, List.length_cons, List.length_nil, List.length_drop, List.length_take]; omega)))), ?_⟩ | refine ⟨_, rfl, rfl, by (first | exact Nat.le_refl _ | exact Nat.le_of_ble_eq_true rfl | decide), ?_⟩ | refine ⟨_, rfl, by (first | exact Nat.le_refl _ | exact Nat.le_of_ble_eq_true rfl | decide), ?_⟩ | refine ⟨by (first | exact Nat.le_refl _ | exact Nat.le_of_ble_eq_true rfl | decide), ?_⟩ | refine ⟨show _ ≤ (9223372036854775807 : Nat) by (first | omega | (simp only [List.length_append, List.length_cons, List.length_nil, List.length_drop, List.length_take]; omega)), ?_⟩ | refine ⟨show _ ≠ (0 : Int) by (first | omega | (simp only [List.length_append, List.length_cons, List.length_nil, List.length_drop, List.length_take]; omega)), ?_⟩ | refine ⟨_, rfl, _, rfl, ?_⟩ | refine ⟨_, rfl, ?_⟩ | fail)
            refine CallsAbs.freezeTo (ds := strsD (p.sc ++ [zzz])) (args' := [.d (.sl (polsD (stepsP p (j + 1)))), polA (moreP p (j + 1))]) 5 rfl ((rowsD_snoc (strsD p.sc) [.str zzz]).trans (by rw [strs_snoc])) ⟨trivial, ⟨trivial, trivial, trivial, fun _ => by simp, trivial, trivial, trivial, trivial, trivial, trivial⟩, trivial⟩ ?_ (PureC.use c2 ?_)
            · show [AV.d _, AV.agg [_, _, _, frz 5 _ (.own 5 0 (((strsD p.sc).map fun r => r.map AV.d).length + 1)), _, _, _, _, _]] = _
              rw [frz_whole 5 _ _ (by rw [hml, strsD_len]; simp)]
              rfl
            by_cases hm : rightB (moreP p (j + 1)) = true
            · rw [if_pos hm, if_neg (by decide), hm]
              repeat' (first | refine PureC.use hc1 ?_ | refine PureC.use hc2 ?_ | refine PureC.use hc3 ?_ |                refine ⟨fun _ => ?_, fun h => absurd h (by decide)⟩ | refine ⟨fun h => absurd h (by decide), fun _ => ?_⟩ | (refine ⟨fun h => ?_, fun h => ?_⟩ <;> (try simp only [decide_eq_true_eq, decide_eq_false_iff_not, Bool.not_eq_true', Bool.not_eq_false', Bool.not_eq_true, Bool.not_eq_false, not_true_eq_false, Bool.and_true, Bool.and_eq_true, Bool.and_eq_false_iff, Bool.or_eq_true, Bool.or_eq_false_iff, List.length_cons, List.length_nil] at h) <;> (try (exfalso; omega))) | refine ⟨⟨by (first | omega | (simp only [List.length_append, List.length_cons, List.length_nil, List.length_drop, List.length_take]; omega)), by (first | omega | (simp only [List.length_append, List.length_cons, List.length_nil, List.length_drop, List.length_take]; omega))⟩, _, by assumption, by rfl, ?_⟩ | refine .inl ⟨⟨by (first | omega | (simp only [List.length_append, List.length_cons, List.length_nil, List.length_drop, List.length_take]; omega)), by (first | omega | (simp only [List.length_append, List.length_cons, List.length_nil, List.length_drop, List.length_take]; omega))⟩, ?_⟩ | refine ⟨⟨by (first | omega | (simp only [List.length_append, List.length_cons, List.length_nil, List.length_drop, List.length_take]; omega)), by (first | omega | (simp only [List.length_append, List.length_cons, List.length_nil, List.length_drop, List.length_take]; omega))⟩, ?_⟩ | refine ⟨⟨by (first | omega | (simp only [List.length_append, List.length_cons, List.length_nil, List.length_drop, List.length_take]; omega)), by (first | omega | (simp only [List.length_append, List.length_cons, List.length_nil, List.length_drop, List.length_take]; omega)), by (first | omega | (simp only [List.length_append, List.length_cons, List.length_nil, List.length_drop, List.length_take]; omega))⟩, ?_⟩ | refine ⟨.inl rfl, ?_⟩ | refine ⟨.inr (.inl (by (first | omega | (simp only [List.length_append, List.length_cons, List.length_nil, List.length_drop, List.length_take]; omega)))), ?_⟩ | refine ⟨_, rfl, rfl, by (first | exact Nat.le_refl _ | exact Nat.le_of_ble_eq_true rfl | decide), ?_⟩ | refine ⟨_, rfl, by (first | exact Nat.le_refl _ | exact Nat.le_of_ble_eq_true rfl | decide), ?_⟩ | refine ⟨by (first | exact Nat.le_refl _ | exact Nat.le_of_ble_eq_true rfl | decide), ?_⟩ | refine ⟨show _ ≤ (9223372036854775807 : Nat) by (first | omega | (simp only [List.length_append, List.length_cons, List.length_nil, List.length_drop, List.length_take]; omega)), ?_⟩ | refine ⟨show _ ≠ (0 : Int) by (first | omega | (simp only [List.length_append, List.length_cons, List.length_nil, List.length_drop, List.length_take]; omega)), ?_⟩ | refine ⟨_, rfl, _, rfl, ?_⟩ | refine ⟨_, rfl, ?_⟩ | fail)
              all_goals exact ⟨_, _, fin_out rfl, rfl⟩
            · rw [if_neg hm, if_neg (by decide), Bool.eq_false_iff.2 hm]
              repeat' (first | refine PureC.use hc1 ?_ | refine PureC.use hc2 ?_ | refine PureC.use hc3 ?_ |                refine ⟨fun _ => ?_, fun h => absurd h (by decide)⟩ | refine ⟨fun h => absurd h (by decide), fun _ => ?_⟩ | (refine ⟨fun h => ?_, fun h => ?_⟩ <;> (try simp only [decide_eq_true_eq, decide_eq_false_iff_not, Bool.not_eq_true', Bool.not_eq_false', Bool.not_eq_true, Bool.not_eq_false, not_true_eq_false, Bool.and_true, Bool.and_eq_true, Bool.and_eq_false_iff, Bool.or_eq_true, Bool.or_eq_false_iff, List.length_cons, List.length_nil] at h) <;> (try (exfalso; omega))) | refine ⟨⟨by (first | omega | (simp only [List.length_append, List.length_cons, List.length_nil, List.length_drop, List.length_take]; omega)), by (first | omega | (simp only [List.length_append, List.length_cons, List.length_nil, List.length_drop, List.length_take]; omega))⟩, _, by assumption, by rfl, ?_⟩ | refine .inl ⟨⟨by (first | omega | (simp only [List.length_append, List.length_cons, List.length_nil, List.length_drop, List.length_take]; omega)), by (first | omega | (simp only [List.length_append, List.length_cons, List.length_nil, List.length_drop, List.length_take]; omega))⟩, ?_⟩ | refine ⟨⟨by (first | omega | (simp only [List.length_append, List.length_cons, List.length_nil, List.length_drop, List.length_take]; omega)), by (first | omega | (simp only [List.length_append, List.length_cons, List.length_nil, List.length_drop, List.length_take]; omega))⟩, ?_⟩ | refine ⟨⟨by (first | omega | (simp only [List.length_append, List.length_cons, List.length_nil, List.length_drop, List.length_take]; omega)), by (first | omega | (simp only [List.length_append, List.length_cons, List.length_nil, List.length_drop, List.length_take]; omega)), by (first | omega | (simp only [List.length_append, List.length_cons, List.length_nil, List.length_drop, List.length_take]; omega))⟩, ?_⟩ | refine ⟨.inl rfl, ?_⟩ | refine ⟨.inr (.inl (by (first | omega | (simp only [List.length_append, List.length_cons, List.length_nil, List.length_drop, List.length_take]; omega)))), ?_⟩ | refine ⟨_, rfl, rfl, by (first | exact Nat.le_refl _ | exact Nat.le_of_ble_eq_true rfl | decide), ?_⟩ | refine ⟨_, rfl, by (first | exact Nat.le_refl _ | exact Nat.le_of_ble_eq_true rfl | decide), ?_⟩ | refine ⟨by (first | exact Nat.le_refl _ | exact Nat.le_of_ble_eq_true rfl | decide), ?_⟩ | refine ⟨show _ ≤ (9223372036854775807 : Nat) by (first | omega | (simp only [List.length_append, List.length_cons, List.length_nil, List.length_drop, List.length_take]; omega)), ?_⟩ | refine ⟨show _ ≠ (0 : Int) by (first | omega | (simp only [List.length_append, List.length_cons, List.length_nil, List.length_drop, List.length_take]; omega)), ?_⟩ | refine ⟨_, rfl, _, rfl, ?_⟩ | refine ⟨_, rfl, ?_⟩ | fail)
              all_goals exact ⟨_, _, fin_out rfl, rfl⟩
      · exact ⟨_, _, fin_out rfl, rfl⟩
      · exact ⟨_, _, fin_out rfl, rfl⟩

theorem ChainSteps_law {n m : Nat} {r q : List D} (h : DOk Try.prog n 32 r) (k : DOk Try.prog m 3 q) : PureC Try.prog 5 [argAV Try.prog 32 r, argAV Try.prog 3 q] (.d (.bool true)) := by
  obtain ⟨p, rfl⟩ := dok_pol h
  obtain ⟨x, rfl, _⟩ := dok_int k
  rw [arg_pol, arg_int]; exact ChainSteps_ok p x

end Go.Proofs.Ytdclbemjbcmhdaa
