import Derived.Test.YtdaheonodpkfgaaTokL
namespace Go.Proofs.Ytdaheonodpkfgaa
open Go.Aw
set_option maxHeartbeats 1600000
set_option linter.unusedSimpArgs false
set_option linter.unusedVariables false

theorem toks_ind {P : Tok → Prop} (hstep : ∀ (s r : List UInt8) (e : List Tok), s ≠ [] → step s = some (e, r) → ∀ t ∈ e, P t) : ∀ (n : Nat) (s : List UInt8), s.length ≤ n → ∀ t ∈ toks s, P t
  | n, s, hn, t, ht => by
    by_cases hs : s = []
    · subst hs; simp [toks_nil] at ht
    · cases hst : step s with
      | none => rw [toks_none hst] at ht; simp at ht
      | some x =>
        obtain ⟨e, r⟩ := x
        rw [toks_some hs hst] at ht
        rcases List.mem_append.1 ht with h | h
        · exact hstep s r e hs hst t h
        · have hlt := step_lt hs hst
          cases n with
          | zero => omega
          | succ n => exact toks_ind hstep n r (by omega) t h
theorem toks_len : ∀ (n : Nat) (s : List UInt8), s.length ≤ n → (toks s).length ≤ s.length
  | n, s, hn => by
    by_cases hs : s = []
    · subst hs; simp [toks_nil]
    · cases hst : step s with
      | none => rw [toks_none hst]; simp
      | some x =>
        obtain ⟨e, r⟩ := x
        rw [toks_some hs hst, List.length_append]
        have hlt := step_lt hs hst
        have hct := step_count hs hst
        cases n with
        | zero => omega
        | succ n =>
          have := toks_len n r (by omega)
          omega

/-- No attribute twice. -/
def Uniq (ats : List Attr) : Prop := ∀ (j k : Nat) (h : j < k) (hk : k < ats.length), (ats[j]'(by omega)).1 ≠ ats[k].1
theorem uniq_add {ats : List Attr} (h : Uniq ats) (a : Attr) : Uniq (addA ats a) := by
  unfold addA
  split
  · exact h
  · rename_i hn
    intro j k hjk hk
    simp at hk
    by_cases hk2 : k < ats.length
    · rw [List.getElem_append_left (by omega), List.getElem_append_left hk2]
      exact h j k hjk hk2
    · have : k = ats.length := by omega
      subst this
      rw [List.getElem_append_left (by omega), List.getElem_append_right (by omega)]
      simp
      intro e
      exact hn (List.mem_map.2 ⟨ats[j], List.getElem_mem _, e⟩)
theorem addA_len (ats : List Attr) (a : Attr) : (addA ats a).length ≤ ats.length + 1 := by
  unfold addA
  split <;> simp
theorem tagF_ats : ∀ (n : Nat) (s : List UInt8) (cl : Bool) (ats : List Attr) {x : Bool} {y : List Attr} {r : List UInt8}, tagF n s cl ats = some (x, y, r) → Uniq ats → Uniq y ∧ y.length ≤ ats.length + s.length
  | 0, _, _, _, _, _, _, h, _ => by cases h
  | n + 1, [], _, _, _, _, _, h, _ => by cases h
  | n + 1, c :: r, cl, ats, x, y, r', h, hu => by
    unfold tagF at h
    rw [List.length_cons]
    split at h
    · have := tagF_ats n _ _ _ h hu; exact ⟨this.1, by omega⟩
    · split at h
      · have := tagF_ats n _ _ _ h hu; exact ⟨this.1, by omega⟩
      · split at h
        · cases h; exact ⟨hu, by omega⟩
        · split at h
          · cases h
          · rename_i a r1 e
            have h1 := attrAt_le e
            have h2 := addA_len ats a
            have := tagF_ats n _ _ _ h (uniq_add hu a)
            exact ⟨this.1, by omega⟩
/-- Bytes that no name has. -/
def badC (c : UInt8) : Bool := (decide (65 ≤ c.toNat) && decide (c.toNat ≤ 90)) || (decide (c.toNat = 32) || (decide (c.toNat = 62) || (decide (c.toNat = 47) || decide (c.toNat = 10))))
theorem nameC_low (c : UInt8) (h : nameC c = true) : badC (lowB c) = false := by
  have := u8_all (fun c => !nameC c || !badC (lowB c)) (by decide +kernel) c
  rw [h, Bool.not_true, Bool.false_or] at this
  simpa using this
def goodT (t : Tok) : Prop := (t.kd = 1 ∨ t.kd = 2 ∨ t.kd = 3 ∨ t.kd = 4) ∧ ((t.kd = 2 ∨ t.kd = 3) ↔ t.nm ≠ []) ∧ (t.tx ≠ [] → ¬ (t.kd = 2 ∨ t.kd = 3)) ∧ (t.kd ≠ 2 → t.cl = false ∧ t.ats = []) ∧ (∀ c ∈ t.nm, badC c = false) ∧ Uniq t.ats
theorem uniq_nil : Uniq [] := fun _ _ _ h => by simp at h
theorem good_text (x : List UInt8) : goodT (textT x) := ⟨.inl rfl, by simp [textT], by simp [textT], fun _ => ⟨rfl, rfl⟩, by simp [textT], uniq_nil⟩
theorem good_note (x : List UInt8) : goodT (noteT x) := ⟨.inr (.inr (.inr rfl)), by simp [noteT], by simp [noteT], fun _ => ⟨rfl, rfl⟩, by simp [noteT], uniq_nil⟩
theorem tagAt_good {s nm r : List UInt8} {cl : Bool} {ats : List Attr} (h : tagAt s = some (nm, cl, ats, r)) : (∀ c ∈ nm, badC c = false) ∧ Uniq ats ∧ ats.length ≤ s.length ∧ nm = lower (s.take (runN (hdB nameC) s)) := by
  unfold tagAt at h
  cases e : between (s.drop (runN (hdB nameC) s)) false [] with
  | none => rw [e] at h; cases h
  | some t =>
    rw [e] at h
    cases h
    have h1 := tagF_ats _ _ _ _ (x := t.1) (y := t.2.1) (r := t.2.2) e uniq_nil
    simp only [List.length_nil, List.length_drop] at h1
    refine ⟨fun c hc => ?_, h1.1, by omega, rfl⟩
    unfold lower at hc
    obtain ⟨d, hd, rfl⟩ := List.mem_map.1 hc
    obtain ⟨j, hj, rfl⟩ := List.mem_iff_getElem.1 hd
    rw [List.length_take] at hj
    have h2 := runN_in (hdB nameC) s j (by omega)
    rw [hd_drop nameC s j (by omega)] at h2
    rw [List.getElem_take]
    exact nameC_low _ h2
theorem ltr_name (c : UInt8) (h : ltrB c = true) : nameC c = true := by
  have := u8_all (fun c => !ltrB c || nameC c) (by decide +kernel) c
  rw [h, Bool.not_true, Bool.false_or] at this
  exact this
theorem tag_name {c : UInt8} {t nm r : List UInt8} {cl : Bool} {ats : List Attr} (hc : ltrB c = true) (h : tagAt (c :: t) = some (nm, cl, ats, r)) : nm ≠ [] := by
  rw [(tagAt_good h).2.2.2]
  have : runN (hdB nameC) (c :: t) = runN (hdB nameC) t + 1 := by
    rw [runN, if_pos (show hdB nameC (c :: t) = true from ltr_name c hc)]
  rw [this]
  simp [lower]
theorem step_good (s r : List UInt8) (e : List Tok) (hs : s ≠ []) (h : step s = some (e, r)) : ∀ t ∈ e, goodT t ∧ t.ats.length ≤ s.length := by
  intro t ht
  unfold step at h
  split at h
  · cases h; rw [List.mem_singleton] at ht; subst ht; exact ⟨good_text _, by simp [textT]⟩
  · cases h; rw [List.mem_singleton] at ht; subst ht; exact ⟨good_note _, by simp [noteT]⟩
  · cases h; simp at ht
  · cases h; simp at ht
  · rename_i hk
    split at h
    · cases h
    · rename_i nm cl ats rest hta
      obtain ⟨c, r0, hx, _, _, h3⟩ := tag_tests (.inl hk)
      obtain ⟨_, h4⟩ := h3.resolve_right (fun h => by have := h.1; omega)
      obtain ⟨g1, g2, g3, _⟩ := tagAt_good hta
      rw [hx] at hta
      have g5 := tag_name h4 hta
      rw [List.length_drop] at g3
      have gs : goodT (startT nm cl ats) := ⟨.inr (.inl rfl), ⟨fun _ => g5, fun _ => .inl rfl⟩, by simp [startT], fun h => absurd rfl h, g1, g2⟩
      split at h
      · cases h
        rcases List.mem_cons.1 ht with rfl | ht
        · exact ⟨gs, by show ats.length ≤ _; omega⟩
        · split at ht
          · simp at ht
          · rw [List.mem_singleton] at ht; subst ht; exact ⟨good_text _, by simp [textT]⟩
      · cases h
        rw [List.mem_singleton] at ht; subst ht; exact ⟨gs, by show ats.length ≤ _; omega⟩
  · rename_i k _ _ _ _ _
    split at h
    · cases h
    · rename_i nm cl ats rest hta
      cases h
      rw [List.mem_singleton] at ht; subst ht
      have hk : kindL s = 5 := by rcases kind_le s with h | h | h | h | h | h <;> simp_all
      obtain ⟨c, r0, hx, _, _, h3⟩ := tag_tests (.inr hk)
      rcases h3 with h3 | ⟨_, _, rfl, d, r', rfl, h5⟩
      · omega
      · obtain ⟨g1, _, _, _⟩ := tagAt_good hta
        rw [hx] at hta
        have g5 := tag_name h5 hta
        exact ⟨⟨.inr (.inr (.inl rfl)), ⟨fun _ => g5, fun _ => .inr rfl⟩, by simp [endT], fun _ => ⟨rfl, rfl⟩, g1, uniq_nil⟩, by simp [endT]⟩
theorem toks_good (s : List UInt8) : ∀ t ∈ toks s, goodT t := toks_ind (fun s r e hs h t ht => (step_good s r e hs h t ht).1) s.length s (Nat.le_refl _)
theorem toks_ats : ∀ (n : Nat) (s : List UInt8), s.length ≤ n → ∀ t ∈ toks s, t.ats.length ≤ s.length
  | n, s, hn, t, ht => by
    by_cases hs : s = []
    · subst hs; simp [toks_nil] at ht
    · cases hst : step s with
      | none => rw [toks_none hst] at ht; simp at ht
      | some x =>
        obtain ⟨e, r⟩ := x
        rw [toks_some hs hst] at ht
        have hlt := step_lt hs hst
        rcases List.mem_append.1 ht with h | h
        · exact (step_good s r e hs hst t h).2
        · cases n with
          | zero => omega
          | succ n => have := toks_ats n r (by omega) t h; omega
theorem step_nm (s r : List UInt8) (e : List Tok) (h : step s = some (e, r)) : ∀ t ∈ e, t.nm.length ≤ s.length := by
  intro t ht
  unfold step at h
  split at h
  · cases h; rw [List.mem_singleton] at ht; subst ht; simp [textT]
  · cases h; rw [List.mem_singleton] at ht; subst ht; simp [noteT]
  · cases h; simp at ht
  · cases h; simp at ht
  · split at h
    · cases h
    · rename_i nm cl ats rest hta
      have g := (tagAt_suf hta).2
      rw [List.length_drop] at g
      split at h
      · cases h
        rcases List.mem_cons.1 ht with rfl | ht
        · show nm.length ≤ _; omega
        · split at ht
          · simp at ht
          · rw [List.mem_singleton] at ht; subst ht; simp [textT]
      · cases h
        rw [List.mem_singleton] at ht; subst ht; show nm.length ≤ _; omega
  · split at h
    · cases h
    · rename_i nm cl ats rest hta
      have g := (tagAt_suf hta).2
      rw [List.length_drop] at g
      cases h
      rw [List.mem_singleton] at ht; subst ht; show nm.length ≤ _; omega
theorem toks_nm : ∀ (n : Nat) (s : List UInt8), s.length ≤ n → ∀ t ∈ toks s, t.nm.length ≤ s.length
  | n, s, hn, t, ht => by
    by_cases hs : s = []
    · subst hs; simp [toks_nil] at ht
    · cases hst : step s with
      | none => rw [toks_none hst] at ht; simp at ht
      | some x =>
        obtain ⟨e, r⟩ := x
        rw [toks_some hs hst] at ht
        have hlt := step_lt hs hst
        rcases List.mem_append.1 ht with h | h
        · exact step_nm s r e hst t h
        · cases n with
          | zero => omega
          | succ n => have := toks_nm n r (by omega) t h; omega

end Go.Proofs.Ytdaheonodpkfgaa
