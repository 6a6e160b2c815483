import Derived.Test.YtdaheonodpkfgaaTokJ
namespace Go.Proofs.Ytdaheonodpkfgaa
open Go.Aw
set_option maxHeartbeats 1600000
set_option linter.unusedSimpArgs false
set_option linter.unusedVariables false

theorem valueAt_suf {s v r : List UInt8} (h : valueAt s = some (v, r)) : r <:+ s := by
  unfold valueAt at h
  split at h
  · cases h; exact List.suffix_refl _
  · split at h
    · split at h
      · cases h
      · cases h; exact (List.drop_suffix _ _).trans (List.suffix_cons _ _)
    · cases h; exact List.drop_suffix _ _
theorem skipB_suf (s : List UInt8) : skipB s <:+ s := List.drop_suffix _ _
theorem attrAt_suf {c : UInt8} {r r' : List UInt8} {a : Attr} (h : attrAt c r = some (a, r')) : r' <:+ r := by
  have h1 := (skipB_suf (r.drop (runN (hdB attrC) r))).trans (List.drop_suffix _ _)
  unfold attrAt at h
  split at h
  · cases h; exact List.nil_suffix
  · rename_i d r1 e
    rw [e] at h1
    split at h
    · cases hv : valueAt (skipB r1) with
      | none => rw [hv] at h; cases h
      | some v =>
        rw [hv] at h
        cases h
        exact ((valueAt_suf (v := v.1) (r := v.2) hv).trans (skipB_suf r1)).trans ((List.suffix_cons _ _).trans h1)
    · cases h; exact h1
theorem tagF_suf : ∀ (n : Nat) (s : List UInt8) (cl : Bool) (ats : List Attr) {x : Bool} {y : List Attr} {r : List UInt8}, tagF n s cl ats = some (x, y, r) → r <:+ s
  | 0, _, _, _, _, _, _, h => by cases h
  | n + 1, [], _, _, _, _, _, h => by cases h
  | n + 1, c :: r, cl, ats, x, y, r', h => by
    unfold tagF at h
    split at h
    · exact (tagF_suf n _ _ _ h).trans (List.suffix_cons _ _)
    · split at h
      · exact (tagF_suf n _ _ _ h).trans (List.suffix_cons _ _)
      · split at h
        · cases h; exact List.suffix_cons _ _
        · split at h
          · cases h
          · rename_i e
            exact ((tagF_suf n _ _ _ h).trans (attrAt_suf e)).trans (List.suffix_cons _ _)
theorem tagAt_suf {s nm r : List UInt8} {cl : Bool} {ats : List Attr} (h : tagAt s = some (nm, cl, ats, r)) : r <:+ s ∧ nm.length ≤ s.length := by
  unfold tagAt at h
  cases e : between (s.drop (runN (hdB nameC) s)) false [] with
  | none => rw [e] at h; cases h
  | some t =>
    rw [e] at h
    cases h
    refine ⟨(tagF_suf _ _ _ _ (x := t.1) (y := t.2.1) (r := t.2.2) e).trans (List.drop_suffix _ _), ?_⟩
    simp [lower]; omega
theorem suf_drop {r s : List UInt8} (h : r <:+ s) : s.drop (s.length - r.length) = r := (List.suffix_iff_eq_drop.1 h).symm
theorem suf_drop_n {r s : List UInt8} {n : Nat} (h : r <:+ s.drop n) : s.drop (s.length - r.length) = r ∧ r.length ≤ s.length - n := by
  refine ⟨suf_drop (h.trans (List.drop_suffix _ _)), ?_⟩
  have := h.length_le
  rwa [List.length_drop] at this
theorem step_suf {s r : List UInt8} {e : List Tok} (h : step s = some (e, r)) : r <:+ s := by
  unfold step at h
  split at h
  · cases h; exact List.drop_suffix _ _
  · cases h; exact (List.drop_suffix _ _).trans (List.drop_suffix _ _)
  · cases h; exact List.drop_suffix _ _
  · cases h; exact List.drop_suffix _ _
  · split at h
    · cases h
    · rename_i e
      have h1 := (tagAt_suf e).1
      split at h
      · cases h; exact ((List.drop_suffix _ _).trans h1).trans (List.drop_suffix _ _)
      · cases h; exact h1.trans (List.drop_suffix _ _)
  · split at h
    · cases h
    · rename_i e
      cases h
      exact (tagAt_suf e).1.trans (List.drop_suffix _ _)
/-- At most one token for a byte. -/
theorem step_count {s r : List UInt8} {e : List Tok} (hs : s ≠ []) (h : step s = some (e, r)) : e.length + r.length ≤ s.length := by
  have hlt := step_lt hs h
  unfold step at h
  split at h
  · cases h; simp at hlt ⊢; omega
  · cases h; simp at hlt ⊢; omega
  · cases h; simp at hlt ⊢
  · cases h; simp at hlt ⊢
  · split at h
    · cases h
    · rename_i e
      have h1 := tagAt_le e
      rw [List.length_drop] at h1
      split at h
      · cases h
        split
        · simp at hlt ⊢; omega
        · simp at hlt ⊢; omega
      · cases h; simp at hlt ⊢; omega
  · split at h
    · cases h
    · cases h; simp at hlt ⊢; omega
theorem kind_le (s : List UInt8) : kindL s = 0 ∨ kindL s = 1 ∨ kindL s = 2 ∨ kindL s = 3 ∨ kindL s = 4 ∨ kindL s = 5 := by
  unfold kindL
  repeat' split
  all_goals simp

theorem next_ok (s : List UInt8) (n : Nat) (l : List Tok) (hn : n < s.length) (hs : s.length ≤ 1000000) (hl : l.length < 1000000) :
    CallsAbs Try.prog 21 [.ref 0 0 0] (rdS s n l) (NextK s l (s.drop n)) := by
  have hl' : l.length ≤ 1000000 := by omega
  rcases kind_le (s.drop n) with hk | hk | hk | hk | hk | hk
  · exact next_text s n l hn hs hl' hk
  · exact next_note s n l hn hs hl' hk
  · exact next_over s n l hn hs hl' (.inl hk)
  · exact next_over s n l hn hs hl' (.inr hk)
  · cases ht : tagAt (s.drop (n + 1)) with
    | none =>
      refine next_stop s n l hn hs hl' (.inl hk) ?_
      have ht' : tagAt ((s.drop n).drop 1) = none := by rw [List.drop_drop]; exact ht
      unfold step
      simp only [hk, ht']
    | some t =>
      obtain ⟨nm, cl, ats, rest⟩ := t
      obtain ⟨h1, h2⟩ := tagAt_suf ht
      obtain ⟨h3, h4⟩ := suf_drop_n h1
      rw [List.length_drop] at h2
      exact next_start s n l hn hs hl hk ht h3 (by omega) (by omega)
  · cases ht : tagAt (s.drop (n + 2)) with
    | none =>
      refine next_stop s n l hn hs hl' (.inr hk) ?_
      have ht' : tagAt ((s.drop n).drop 2) = none := by rw [List.drop_drop]; exact ht
      unfold step
      simp only [hk, ht']
    | some t =>
      obtain ⟨nm, cl, ats, rest⟩ := t
      exact next_end s n l hn hs hl' hk ht

theorem fin_ownD {σ : Store} {i len : Nat} {sz : Nat × Nat} {rs : List (List AV)} {ds : List (List D)} (ho : σ.get i = .rows sz rs) (hds : rowsD rs = some ds) (hl : len = ds.length) : FinMove ⟨0, []⟩ (.own i 0 len) σ (.d (.sl ds)) ⟨0, []⟩ := by
  have h1 := fin_freeze (σ0 := ⟨0, []⟩) (r := .own i 0 len) i ho hds (fun _ => by rw [Nat.zero_add, hl, (rowsD_get hds).1]; exact Nat.le_refl _)
  rw [frz_whole i ds len hl] at h1
  exact h1.trans (fin_mv [] (Nat.ble_eq_true_of_le (Nat.zero_le _)) rfl rfl trivial rfl)

set_option maxRecDepth 100000 in
theorem TokensO_ok (s : List UInt8) (hs : s.length < 1000000) : CallsAbs Try.prog 13 [.d (.str s)] ⟨0, []⟩ fun r σ' => r = .own 0 0 (toks s).length ∧ σ' = ⟨1, [(0, outO (toks s))]⟩ := by
  refine fn_okT Try.wf Try.tab_ok Try.func13 (by decide +kernel) rfl rfl ?_
  repeat' (first |                        refine ⟨fun _ => ?_, fun h => absurd h (by decide)⟩ | refine ⟨fun h => absurd h (by decide), fun _ => ?_⟩ | (refine ⟨fun h => ?_, fun h => ?_⟩ <;> (try simp only [decide_eq_true_eq, decide_eq_false_iff_not, Bool.not_eq_true', Bool.not_eq_false', Bool.not_eq_true, Bool.not_eq_false, not_true_eq_false, beq_iff_eq, beq_eq_false_iff_ne, ne_eq, decide_eq_decide, true_iff, false_iff, iff_true, iff_false, true_and, and_true, false_or, or_false, Bool.and_true, Bool.and_eq_true, Bool.and_eq_false_iff, Bool.or_eq_true, Bool.or_eq_false_iff, List.length_cons, List.length_nil] at h) <;> (try (exfalso; first | omega | exact h rfl | (cases h; done) | exact absurd h (by assumption)))) | refine ⟨⟨by (first | omega | (simp only [List.length_append, List.length_cons, List.length_nil, List.length_drop, List.length_take]; omega)), by (first | omega | (simp only [List.length_append, List.length_cons, List.length_nil, List.length_drop, List.length_take]; omega))⟩, _, by assumption, by rfl, ?_⟩ | refine .inl ⟨⟨by (first | omega | (simp only [List.length_append, List.length_cons, List.length_nil, List.length_drop, List.length_take]; omega)), by (first | omega | (simp only [List.length_append, List.length_cons, List.length_nil, List.length_drop, List.length_take]; omega))⟩, ?_⟩ | refine ⟨⟨by (first | omega | (simp only [List.length_append, List.length_cons, List.length_nil, List.length_drop, List.length_take]; omega)), by (first | omega | (simp only [List.length_append, List.length_cons, List.length_nil, List.length_drop, List.length_take]; omega))⟩, ?_⟩ | refine ⟨⟨by (first | omega | (simp only [List.length_append, List.length_cons, List.length_nil, List.length_drop, List.length_take]; omega)), by (first | omega | (simp only [List.length_append, List.length_cons, List.length_nil, List.length_drop, List.length_take]; omega)), by (first | omega | (simp only [List.length_append, List.length_cons, List.length_nil, List.length_drop, List.length_take]; omega))⟩, ?_⟩ | refine ⟨.inl rfl, ?_⟩ | refine ⟨.inr (.inl (by (first | omega | (simp only [List.length_append, List.length_cons, List.length_nil, List.length_drop, List.length_take]; omega)))), ?_⟩ | refine ⟨_, rfl, rfl, by (first | exact Nat.le_refl _ | exact Nat.le_of_ble_eq_true rfl | decide), ?_⟩ | refine ⟨_, rfl, by (first | exact Nat.le_refl _ | exact Nat.le_of_ble_eq_true rfl | decide), ?_⟩ | refine ⟨by (first | exact Nat.le_refl _ | exact Nat.le_of_ble_eq_true rfl | decide | exact rfl), ?_⟩ | refine ⟨show _ ≤ (9223372036854775807 : Nat) by (first | omega | (simp only [List.length_append, List.length_cons, List.length_nil, List.length_drop, List.length_take]; omega)), ?_⟩ | refine ⟨show _ ≠ (0 : Int) by (first | omega | (simp only [List.length_append, List.length_cons, List.length_nil, List.length_drop, List.length_take]; omega)), ?_⟩ | refine ⟨_, rfl, _, rfl, ?_⟩ | refine ⟨_, by assumption, Nat.le_of_ble_eq_true rfl, ?_⟩ | refine ⟨_, by assumption, _, rfl, ?_⟩ | refine ⟨_, rfl, ?_⟩ | fail)
  have out : ∀ (n : Nat) (l : List Tok), l = toks s → ∃ r2 σ2, FinMove ⟨0, []⟩ (.own 1 0 l.length) (rdS s n l) r2 σ2 ∧ r2 = .own 0 0 (toks s).length ∧ σ2 = ⟨1, [(0, outO (toks s))]⟩ := fun n l e => by
    subst e
    exact ⟨.own 0 0 (toks s).length, ⟨1, [(0, outO (toks s))]⟩, fin_mv [.old 1] rfl rfl rfl ⟨⟨rfl, .inl ⟨rfl, dataA_pure _⟩⟩, trivial⟩ ⟨rfl, rfl, rfl⟩, rfl, rfl⟩
  refine loopT Try.wf Try.tab_ok (fun m s' σ => ∃ (n : Nat) (l : List Tok), m = s.length - n ∧ n ≤ s.length ∧ l.length ≤ n ∧ l ++ toks (s.drop n) = toks s ∧ s' = [(0, .d (.str s)), (3, .ref 0 0 0)] ∧ σ = rdS s n l)
    ⟨0, [], rfl, Nat.zero_le _, Nat.le_refl _, rfl, rfl, rfl⟩ (Mv.of [.old 0, .phan 5] rfl rfl rfl ⟨rfl, ⟨rfl, .inr ⟨⟨rfl, rfl, ⟨rfl, rfl, rfl⟩, trivial⟩, trivial⟩⟩, trivial⟩ ⟨rfl, ⟨rfl, rfl, rfl⟩, trivial⟩) ?_
  rintro _ _ _ ⟨n, l, rfl, hn, hln, hI, rfl, rfl⟩
  by_cases hlt : n < s.length
  · have hne : s.drop n ≠ [] := fun e => by rw [List.drop_eq_nil_iff] at e; omega
    have hnx := next_ok s n l hlt (by omega) (by omega)
    repeat' (first |                        refine ⟨fun _ => ?_, fun h => absurd h (by decide)⟩ | refine ⟨fun h => absurd h (by decide), fun _ => ?_⟩ | (refine ⟨fun h => ?_, fun h => ?_⟩ <;> (try simp only [decide_eq_true_eq, decide_eq_false_iff_not, Bool.not_eq_true', Bool.not_eq_false', Bool.not_eq_true, Bool.not_eq_false, not_true_eq_false, beq_iff_eq, beq_eq_false_iff_ne, ne_eq, decide_eq_decide, true_iff, false_iff, iff_true, iff_false, true_and, and_true, false_or, or_false, Bool.and_true, Bool.and_eq_true, Bool.and_eq_false_iff, Bool.or_eq_true, Bool.or_eq_false_iff, List.length_cons, List.length_nil] at h) <;> (try (exfalso; first | omega | exact h rfl | (cases h; done) | exact absurd h (by assumption)))) | refine ⟨⟨by (first | omega | (simp only [List.length_append, List.length_cons, List.length_nil, List.length_drop, List.length_take]; omega)), by (first | omega | (simp only [List.length_append, List.length_cons, List.length_nil, List.length_drop, List.length_take]; omega))⟩, _, by assumption, by rfl, ?_⟩ | refine .inl ⟨⟨by (first | omega | (simp only [List.length_append, List.length_cons, List.length_nil, List.length_drop, List.length_take]; omega)), by (first | omega | (simp only [List.length_append, List.length_cons, List.length_nil, List.length_drop, List.length_take]; omega))⟩, ?_⟩ | refine ⟨⟨by (first | omega | (simp only [List.length_append, List.length_cons, List.length_nil, List.length_drop, List.length_take]; omega)), by (first | omega | (simp only [List.length_append, List.length_cons, List.length_nil, List.length_drop, List.length_take]; omega))⟩, ?_⟩ | refine ⟨⟨by (first | omega | (simp only [List.length_append, List.length_cons, List.length_nil, List.length_drop, List.length_take]; omega)), by (first | omega | (simp only [List.length_append, List.length_cons, List.length_nil, List.length_drop, List.length_take]; omega)), by (first | omega | (simp only [List.length_append, List.length_cons, List.length_nil, List.length_drop, List.length_take]; omega))⟩, ?_⟩ | refine ⟨.inl rfl, ?_⟩ | refine ⟨.inr (.inl (by (first | omega | (simp only [List.length_append, List.length_cons, List.length_nil, List.length_drop, List.length_take]; omega)))), ?_⟩ | refine ⟨_, rfl, rfl, by (first | exact Nat.le_refl _ | exact Nat.le_of_ble_eq_true rfl | decide), ?_⟩ | refine ⟨_, rfl, by (first | exact Nat.le_refl _ | exact Nat.le_of_ble_eq_true rfl | decide), ?_⟩ | refine ⟨by (first | exact Nat.le_refl _ | exact Nat.le_of_ble_eq_true rfl | decide | exact rfl), ?_⟩ | refine ⟨show _ ≤ (9223372036854775807 : Nat) by (first | omega | (simp only [List.length_append, List.length_cons, List.length_nil, List.length_drop, List.length_take]; omega)), ?_⟩ | refine ⟨show _ ≠ (0 : Int) by (first | omega | (simp only [List.length_append, List.length_cons, List.length_nil, List.length_drop, List.length_take]; omega)), ?_⟩ | refine ⟨_, rfl, _, rfl, ?_⟩ | refine ⟨_, by assumption, Nat.le_of_ble_eq_true rfl, ?_⟩ | refine ⟨_, by assumption, _, rfl, ?_⟩ | refine ⟨_, rfl, ?_⟩ | fail)
    refine hnx.mono fun r σ' h => ?_
    unfold NextK at h
    cases hst : step (s.drop n) with
    | none =>
      rw [hst] at h
      obtain ⟨m, hm, rfl, rfl⟩ := h
      rw [toks_none hst, List.append_nil] at hI
      repeat' (first |                        refine ⟨fun _ => ?_, fun h => absurd h (by decide)⟩ | refine ⟨fun h => absurd h (by decide), fun _ => ?_⟩ | (refine ⟨fun h => ?_, fun h => ?_⟩ <;> (try simp only [decide_eq_true_eq, decide_eq_false_iff_not, Bool.not_eq_true', Bool.not_eq_false', Bool.not_eq_true, Bool.not_eq_false, not_true_eq_false, beq_iff_eq, beq_eq_false_iff_ne, ne_eq, decide_eq_decide, true_iff, false_iff, iff_true, iff_false, true_and, and_true, false_or, or_false, Bool.and_true, Bool.and_eq_true, Bool.and_eq_false_iff, Bool.or_eq_true, Bool.or_eq_false_iff, List.length_cons, List.length_nil] at h) <;> (try (exfalso; first | omega | exact h rfl | (cases h; done) | exact absurd h (by assumption)))) | refine ⟨⟨by (first | omega | (simp only [List.length_append, List.length_cons, List.length_nil, List.length_drop, List.length_take]; omega)), by (first | omega | (simp only [List.length_append, List.length_cons, List.length_nil, List.length_drop, List.length_take]; omega))⟩, _, by assumption, by rfl, ?_⟩ | refine .inl ⟨⟨by (first | omega | (simp only [List.length_append, List.length_cons, List.length_nil, List.length_drop, List.length_take]; omega)), by (first | omega | (simp only [List.length_append, List.length_cons, List.length_nil, List.length_drop, List.length_take]; omega))⟩, ?_⟩ | refine ⟨⟨by (first | omega | (simp only [List.length_append, List.length_cons, List.length_nil, List.length_drop, List.length_take]; omega)), by (first | omega | (simp only [List.length_append, List.length_cons, List.length_nil, List.length_drop, List.length_take]; omega))⟩, ?_⟩ | refine ⟨⟨by (first | omega | (simp only [List.length_append, List.length_cons, List.length_nil, List.length_drop, List.length_take]; omega)), by (first | omega | (simp only [List.length_append, List.length_cons, List.length_nil, List.length_drop, List.length_take]; omega)), by (first | omega | (simp only [List.length_append, List.length_cons, List.length_nil, List.length_drop, List.length_take]; omega))⟩, ?_⟩ | refine ⟨.inl rfl, ?_⟩ | refine ⟨.inr (.inl (by (first | omega | (simp only [List.length_append, List.length_cons, List.length_nil, List.length_drop, List.length_take]; omega)))), ?_⟩ | refine ⟨_, rfl, rfl, by (first | exact Nat.le_refl _ | exact Nat.le_of_ble_eq_true rfl | decide), ?_⟩ | refine ⟨_, rfl, by (first | exact Nat.le_refl _ | exact Nat.le_of_ble_eq_true rfl | decide), ?_⟩ | refine ⟨by (first | exact Nat.le_refl _ | exact Nat.le_of_ble_eq_true rfl | decide | exact rfl), ?_⟩ | refine ⟨show _ ≤ (9223372036854775807 : Nat) by (first | omega | (simp only [List.length_append, List.length_cons, List.length_nil, List.length_drop, List.length_take]; omega)), ?_⟩ | refine ⟨show _ ≠ (0 : Int) by (first | omega | (simp only [List.length_append, List.length_cons, List.length_nil, List.length_drop, List.length_take]; omega)), ?_⟩ | refine ⟨_, rfl, _, rfl, ?_⟩ | refine ⟨_, by assumption, Nat.le_of_ble_eq_true rfl, ?_⟩ | refine ⟨_, by assumption, _, rfl, ?_⟩ | refine ⟨_, rfl, ?_⟩ | fail)
      exact out _ _ hI
    | some x =>
      obtain ⟨e, r'⟩ := x
      rw [hst] at h
      have hsf := suf_drop_n (step_suf hst)
      have hct := step_count hne hst
      have hslt := step_lt hne hst
      rw [List.length_drop] at hct hslt
      rw [toks_some hne hst, ← List.append_assoc, ← hsf.1] at hI
      rcases h with ⟨rfl, ⟨rfl, rfl⟩ | ⟨he, rfl⟩⟩
      · repeat' (first |                        refine ⟨fun _ => ?_, fun h => absurd h (by decide)⟩ | refine ⟨fun h => absurd h (by decide), fun _ => ?_⟩ | (refine ⟨fun h => ?_, fun h => ?_⟩ <;> (try simp only [decide_eq_true_eq, decide_eq_false_iff_not, Bool.not_eq_true', Bool.not_eq_false', Bool.not_eq_true, Bool.not_eq_false, not_true_eq_false, beq_iff_eq, beq_eq_false_iff_ne, ne_eq, decide_eq_decide, true_iff, false_iff, iff_true, iff_false, true_and, and_true, false_or, or_false, Bool.and_true, Bool.and_eq_true, Bool.and_eq_false_iff, Bool.or_eq_true, Bool.or_eq_false_iff, List.length_cons, List.length_nil] at h) <;> (try (exfalso; first | omega | exact h rfl | (cases h; done) | exact absurd h (by assumption)))) | refine ⟨⟨by (first | omega | (simp only [List.length_append, List.length_cons, List.length_nil, List.length_drop, List.length_take]; omega)), by (first | omega | (simp only [List.length_append, List.length_cons, List.length_nil, List.length_drop, List.length_take]; omega))⟩, _, by assumption, by rfl, ?_⟩ | refine .inl ⟨⟨by (first | omega | (simp only [List.length_append, List.length_cons, List.length_nil, List.length_drop, List.length_take]; omega)), by (first | omega | (simp only [List.length_append, List.length_cons, List.length_nil, List.length_drop, List.length_take]; omega))⟩, ?_⟩ | refine ⟨⟨by (first | omega | (simp only [List.length_append, List.length_cons, List.length_nil, List.length_drop, List.length_take]; omega)), by (first | omega | (simp only [List.length_append, List.length_cons, List.length_nil, List.length_drop, List.length_take]; omega))⟩, ?_⟩ | refine ⟨⟨by (first | omega | (simp only [List.length_append, List.length_cons, List.length_nil, List.length_drop, List.length_take]; omega)), by (first | omega | (simp only [List.length_append, List.length_cons, List.length_nil, List.length_drop, List.length_take]; omega)), by (first | omega | (simp only [List.length_append, List.length_cons, List.length_nil, List.length_drop, List.length_take]; omega))⟩, ?_⟩ | refine ⟨.inl rfl, ?_⟩ | refine ⟨.inr (.inl (by (first | omega | (simp only [List.length_append, List.length_cons, List.length_nil, List.length_drop, List.length_take]; omega)))), ?_⟩ | refine ⟨_, rfl, rfl, by (first | exact Nat.le_refl _ | exact Nat.le_of_ble_eq_true rfl | decide), ?_⟩ | refine ⟨_, rfl, by (first | exact Nat.le_refl _ | exact Nat.le_of_ble_eq_true rfl | decide), ?_⟩ | refine ⟨by (first | exact Nat.le_refl _ | exact Nat.le_of_ble_eq_true rfl | decide | exact rfl), ?_⟩ | refine ⟨show _ ≤ (9223372036854775807 : Nat) by (first | omega | (simp only [List.length_append, List.length_cons, List.length_nil, List.length_drop, List.length_take]; omega)), ?_⟩ | refine ⟨show _ ≠ (0 : Int) by (first | omega | (simp only [List.length_append, List.length_cons, List.length_nil, List.length_drop, List.length_take]; omega)), ?_⟩ | refine ⟨_, rfl, _, rfl, ?_⟩ | refine ⟨_, by assumption, Nat.le_of_ble_eq_true rfl, ?_⟩ | refine ⟨_, by assumption, _, rfl, ?_⟩ | refine ⟨_, rfl, ?_⟩ | fail)
        rw [List.append_nil] at hI
        exact ⟨_, _, _, ⟨s.length - r'.length, l, rfl, by omega, by simp at hct; omega, hI, rfl, rfl⟩, by omega, Mv.of [.old 0, .old 1] rfl rfl rfl ⟨⟨rfl, .inl ⟨rfl, dataA_pure _⟩⟩, ⟨rfl, .inr ⟨⟨rfl, rfl, ⟨rfl, rfl, rfl⟩, trivial⟩, trivial⟩⟩, trivial⟩ ⟨rfl, ⟨rfl, rfl, rfl⟩, trivial⟩⟩
      · repeat' (first |                        refine ⟨fun _ => ?_, fun h => absurd h (by decide)⟩ | refine ⟨fun h => absurd h (by decide), fun _ => ?_⟩ | (refine ⟨fun h => ?_, fun h => ?_⟩ <;> (try simp only [decide_eq_true_eq, decide_eq_false_iff_not, Bool.not_eq_true', Bool.not_eq_false', Bool.not_eq_true, Bool.not_eq_false, not_true_eq_false, beq_iff_eq, beq_eq_false_iff_ne, ne_eq, decide_eq_decide, true_iff, false_iff, iff_true, iff_false, true_and, and_true, false_or, or_false, Bool.and_true, Bool.and_eq_true, Bool.and_eq_false_iff, Bool.or_eq_true, Bool.or_eq_false_iff, List.length_cons, List.length_nil] at h) <;> (try (exfalso; first | omega | exact h rfl | (cases h; done) | exact absurd h (by assumption)))) | refine ⟨⟨by (first | omega | (simp only [List.length_append, List.length_cons, List.length_nil, List.length_drop, List.length_take]; omega)), by (first | omega | (simp only [List.length_append, List.length_cons, List.length_nil, List.length_drop, List.length_take]; omega))⟩, _, by assumption, by rfl, ?_⟩ | refine .inl ⟨⟨by (first | omega | (simp only [List.length_append, List.length_cons, List.length_nil, List.length_drop, List.length_take]; omega)), by (first | omega | (simp only [List.length_append, List.length_cons, List.length_nil, List.length_drop, List.length_take]; omega))⟩, ?_⟩ | refine ⟨⟨by (first | omega | (simp only [List.length_append, List.length_cons, List.length_nil, List.length_drop, List.length_take]; omega)), by (first | omega | (simp only [List.length_append, List.length_cons, List.length_nil, List.length_drop, List.length_take]; omega))⟩, ?_⟩ | refine ⟨⟨by (first | omega | (simp only [List.length_append, List.length_cons, List.length_nil, List.length_drop, List.length_take]; omega)), by (first | omega | (simp only [List.length_append, List.length_cons, List.length_nil, List.length_drop, List.length_take]; omega)), by (first | omega | (simp only [List.length_append, List.length_cons, List.length_nil, List.length_drop, List.length_take]; omega))⟩, ?_⟩ | refine ⟨.inl rfl, ?_⟩ | refine ⟨.inr (.inl (by (first | omega | (simp only [List.length_append, List.length_cons, List.length_nil, List.length_drop, List.length_take]; omega)))), ?_⟩ | refine ⟨_, rfl, rfl, by (first | exact Nat.le_refl _ | exact Nat.le_of_ble_eq_true rfl | decide), ?_⟩ | refine ⟨_, rfl, by (first | exact Nat.le_refl _ | exact Nat.le_of_ble_eq_true rfl | decide), ?_⟩ | refine ⟨by (first | exact Nat.le_refl _ | exact Nat.le_of_ble_eq_true rfl | decide | exact rfl), ?_⟩ | refine ⟨show _ ≤ (9223372036854775807 : Nat) by (first | omega | (simp only [List.length_append, List.length_cons, List.length_nil, List.length_drop, List.length_take]; omega)), ?_⟩ | refine ⟨show _ ≠ (0 : Int) by (first | omega | (simp only [List.length_append, List.length_cons, List.length_nil, List.length_drop, List.length_take]; omega)), ?_⟩ | refine ⟨_, rfl, _, rfl, ?_⟩ | refine ⟨_, by assumption, Nat.le_of_ble_eq_true rfl, ?_⟩ | refine ⟨_, by assumption, _, rfl, ?_⟩ | refine ⟨_, rfl, ?_⟩ | fail)
        exact ⟨_, _, _, ⟨s.length - r'.length, l ++ e, rfl, by omega, by rw [List.length_append]; omega, hI, rfl, rfl⟩, by omega, Mv.of [.old 0, .old 2] rfl rfl rfl ⟨⟨rfl, .inl ⟨rfl, dataA_pure _⟩⟩, ⟨rfl, .inr ⟨⟨rfl, rfl, ⟨rfl, rfl, rfl⟩, trivial⟩, trivial⟩⟩, trivial⟩ ⟨rfl, ⟨rfl, rfl, rfl⟩, trivial⟩⟩
  · have : s.drop n = [] := List.drop_eq_nil_iff.2 (by omega)
    rw [this, toks_nil, List.append_nil] at hI
    repeat' (first |                        refine ⟨fun _ => ?_, fun h => absurd h (by decide)⟩ | refine ⟨fun h => absurd h (by decide), fun _ => ?_⟩ | (refine ⟨fun h => ?_, fun h => ?_⟩ <;> (try simp only [decide_eq_true_eq, decide_eq_false_iff_not, Bool.not_eq_true', Bool.not_eq_false', Bool.not_eq_true, Bool.not_eq_false, not_true_eq_false, beq_iff_eq, beq_eq_false_iff_ne, ne_eq, decide_eq_decide, true_iff, false_iff, iff_true, iff_false, true_and, and_true, false_or, or_false, Bool.and_true, Bool.and_eq_true, Bool.and_eq_false_iff, Bool.or_eq_true, Bool.or_eq_false_iff, List.length_cons, List.length_nil] at h) <;> (try (exfalso; first | omega | exact h rfl | (cases h; done) | exact absurd h (by assumption)))) | refine ⟨⟨by (first | omega | (simp only [List.length_append, List.length_cons, List.length_nil, List.length_drop, List.length_take]; omega)), by (first | omega | (simp only [List.length_append, List.length_cons, List.length_nil, List.length_drop, List.length_take]; omega))⟩, _, by assumption, by rfl, ?_⟩ | refine .inl ⟨⟨by (first | omega | (simp only [List.length_append, List.length_cons, List.length_nil, List.length_drop, List.length_take]; omega)), by (first | omega | (simp only [List.length_append, List.length_cons, List.length_nil, List.length_drop, List.length_take]; omega))⟩, ?_⟩ | refine ⟨⟨by (first | omega | (simp only [List.length_append, List.length_cons, List.length_nil, List.length_drop, List.length_take]; omega)), by (first | omega | (simp only [List.length_append, List.length_cons, List.length_nil, List.length_drop, List.length_take]; omega))⟩, ?_⟩ | refine ⟨⟨by (first | omega | (simp only [List.length_append, List.length_cons, List.length_nil, List.length_drop, List.length_take]; omega)), by (first | omega | (simp only [List.length_append, List.length_cons, List.length_nil, List.length_drop, List.length_take]; omega)), by (first | omega | (simp only [List.length_append, List.length_cons, List.length_nil, List.length_drop, List.length_take]; omega))⟩, ?_⟩ | refine ⟨.inl rfl, ?_⟩ | refine ⟨.inr (.inl (by (first | omega | (simp only [List.length_append, List.length_cons, List.length_nil, List.length_drop, List.length_take]; omega)))), ?_⟩ | refine ⟨_, rfl, rfl, by (first | exact Nat.le_refl _ | exact Nat.le_of_ble_eq_true rfl | decide), ?_⟩ | refine ⟨_, rfl, by (first | exact Nat.le_refl _ | exact Nat.le_of_ble_eq_true rfl | decide), ?_⟩ | refine ⟨by (first | exact Nat.le_refl _ | exact Nat.le_of_ble_eq_true rfl | decide | exact rfl), ?_⟩ | refine ⟨show _ ≤ (9223372036854775807 : Nat) by (first | omega | (simp only [List.length_append, List.length_cons, List.length_nil, List.length_drop, List.length_take]; omega)), ?_⟩ | refine ⟨show _ ≠ (0 : Int) by (first | omega | (simp only [List.length_append, List.length_cons, List.length_nil, List.length_drop, List.length_take]; omega)), ?_⟩ | refine ⟨_, rfl, _, rfl, ?_⟩ | refine ⟨_, by assumption, Nat.le_of_ble_eq_true rfl, ?_⟩ | refine ⟨_, by assumption, _, rfl, ?_⟩ | refine ⟨_, rfl, ?_⟩ | fail)
    exact out _ _ hI

theorem _root_.Go.Aw.CallsAbs.fin {P : Program} {f : FuncId} {args : List AV} {σ : Store} {R : AV → Store → Prop} (hout : Callable P f) (h : CallsAbs P f args σ fun r σ1 => ∃ r' σ', FinMove σ r σ1 r' σ' ∧ R r' σ') : CallsAbs P f args σ R := by
  rcases h with h | ⟨fn, e, h1, h2, h3, h4⟩
  · exact .inl h.fin
  · obtain ⟨fn', q1, q2, q3⟩ := hout
    rw [h1] at q1
    cases q1
    rw [h3] at q3; cases q3
theorem Tokens_ok (s : List UInt8) (hs : s.length < 1000000) : PureC Try.prog 13 [.d (.str s)] (.d (.sl (toksD (toks s)))) := by
  refine PureC.of rfl rfl (CallsAbs.fin ⟨_, Try.func13, by decide +kernel, rfl⟩ ((TokensO_ok s hs).mono ?_))
  rintro _ _ ⟨rfl, rfl⟩
  exact ⟨.d (.sl (toksD (toks s))), ⟨0, []⟩, fin_ownD rfl (rowsD_d _) (toksD_len _).symm, rfl, rfl⟩

end Go.Proofs.Ytdaheonodpkfgaa
