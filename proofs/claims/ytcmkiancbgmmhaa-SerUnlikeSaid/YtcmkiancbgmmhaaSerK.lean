import Derived.Test.YtcmkiancbgmmhaaSerI
import Derived.Test.YtcmkiancbgmmhaaEscP
namespace Go.Proofs.Ytcmkiancbgmmhaa
open Go.Aw

theorem escape_inj {q : Bool} {a b : List UInt8} (h : escape q a = escape q b) : a = b := by
  have h1 := resolve_escape q a.length a (Nat.le_refl _)
  have h2 := resolve_escape q b.length b (Nat.le_refl _)
  rw [h] at h1
  exact h1.symm.trans h2
/-- Two texts up to a byte that neither has. -/
theorem split_eq (c : UInt8) : ∀ (a b x y : List UInt8), c ∉ a → c ∉ b → a ++ c :: x = b ++ c :: y → a = b ∧ x = y
  | [], [], x, y, _, _, h => ⟨rfl, by simpa using h⟩
  | [], d :: b, x, y, _, hb, h => by
    simp at h
    exact absurd h.1 (fun e => hb (by simp [e]))
  | d :: a, [], x, y, ha, _, h => by
    simp at h
    exact absurd h.1.symm (fun e => ha (by simp [e]))
  | d :: a, e :: b, x, y, ha, hb, h => by
    simp at h
    obtain ⟨rfl, h⟩ := h
    obtain ⟨h1, h2⟩ := split_eq c a b x y (fun m => ha (by simp [m])) (fun m => hb (by simp [m])) h
    exact ⟨by rw [h1], h2⟩
/-- The same, of a text that a kind of byte ends, or its end. -/
theorem span_eq (p : UInt8 → Bool) : ∀ (a b x y : List UInt8), (∀ c ∈ a, p c = true) → (∀ c ∈ b, p c = true) → (∀ c t, x = c :: t → p c = false) → (∀ c t, y = c :: t → p c = false) → a ++ x = b ++ y → a = b ∧ x = y
  | [], [], x, y, _, _, _, _, h => ⟨rfl, by simpa using h⟩
  | [], d :: b, x, y, _, hb, hx, _, h => by
    have := hx d (b ++ y) (by simpa using h)
    rw [hb d (by simp)] at this; cases this
  | d :: a, [], x, y, ha, _, _, hy, h => by
    have := hy d (a ++ x) (by simpa using h.symm)
    rw [ha d (by simp)] at this; cases this
  | d :: a, e :: b, x, y, ha, hb, hx, hy, h => by
    simp at h
    obtain ⟨rfl, h⟩ := h
    obtain ⟨h1, h2⟩ := span_eq p a b x y (fun c m => ha c (by simp [m])) (fun c m => hb c (by simp [m])) hx hy h
    exact ⟨by rw [h1], h2⟩
def nmB (c : UInt8) : Bool := letB c || digB c || decide (c ∈ ([45, 95, 58] : List UInt8))
theorem small_nm {s o : List UInt8} (h : small s o = true) (ho : ∀ c ∈ o, c ∈ ([45, 95, 58] : List UInt8)) : s ≠ [] ∧ (∀ c ∈ s, nmB c = true) ∧ ∀ c t, s = c :: t → letB c = true := by
  cases s with
  | nil => cases h
  | cons d r =>
    simp only [small, Bool.and_eq_true, smallT, List.all_eq_true] at h
    refine ⟨by simp, fun c hc => ?_, fun c t e => ?_⟩
    · rcases List.mem_cons.1 hc with rfl | hc
      · simp [nmB, h.1]
      · have := h.2 c hc
        simp only [Bool.or_eq_true, decide_eq_true_eq] at this
        rcases this with h1 | h1 | h1
        · simp [nmB, h1]
        · simp [nmB, h1]
        · have := ho c h1; simp only [nmB, Bool.or_eq_true, decide_eq_true_eq]; exact .inr this
    · cases e; exact h.1
theorem nm_no {c : UInt8} (h : nmB c = true) : c ≠ 32 ∧ c ≠ 60 ∧ c ≠ 61 ∧ c ≠ 62 ∧ c ≠ 47 := by
  refine ⟨?_, ?_, ?_, ?_, ?_⟩ <;> (rintro rfl; revert h; decide)
theorem let_no {c : UInt8} (h : letB c = true) : c ≠ 47 := by rintro rfl; revert h; decide

/-- The attributes, up to the tag's end. -/
theorem attrs_inj : ∀ (a b : List (List UInt8 × List UInt8)) (x y : List UInt8), (∀ e ∈ a, small e.1 [45, 95, 58] = true) → (∀ e ∈ b, small e.1 [45, 95, 58] = true) → attrsH a ++ 62 :: x = attrsH b ++ 62 :: y → a = b ∧ x = y
  | [], [], x, y, _, _, h => ⟨rfl, by simpa [attrsH] using h⟩
  | [], e :: b, x, y, _, _, h => by
    rw [attrsH_cons] at h; unfold attrH at h; simp [attrsH] at h
  | d :: a, [], x, y, _, _, h => by
    rw [attrsH_cons] at h; unfold attrH at h; simp [attrsH] at h
  | d :: a, e :: b, x, y, ha, hb, h => by
    rw [attrsH_cons, attrsH_cons] at h
    unfold attrH at h
    simp only [List.append_assoc, List.cons_append, List.nil_append, List.cons.injEq, true_and] at h
    have n1 := small_nm (ha d (by simp)) (fun _ h => h)
    have n2 := small_nm (hb e (by simp)) (fun _ h => h)
    obtain ⟨e1, h⟩ := split_eq 61 _ _ _ _ (fun m => (nm_no (n1.2.1 _ m)).2.2.1 rfl) (fun m => (nm_no (n2.2.1 _ m)).2.2.1 rfl) h
    simp only [List.cons.injEq, true_and] at h
    obtain ⟨e2, h⟩ := split_eq 34 _ _ _ _ (fun m => (escape_clean true _ _ (Nat.le_refl _) _ m).2.2 rfl rfl) (fun m => (escape_clean true _ _ (Nat.le_refl _) _ m).2.2 rfl rfl) h
    obtain ⟨e3, h⟩ := attrs_inj a b x y (fun c m => ha c (by simp [m])) (fun c m => hb c (by simp [m])) h
    exact ⟨by rw [e3, Prod.ext e1 (escape_inj e2)], h⟩

theorem attrsFrom_small : ∀ (l : List (List UInt8 × List UInt8)) (seen : List (List UInt8)), attrsFrom seen l = true → ∀ e ∈ l, small e.1 [45, 95, 58] = true
  | [], _, _, e, he => by cases he
  | a :: r, seen, h, e, he => by
    simp only [attrsFrom, Bool.and_eq_true] at h
    rcases List.mem_cons.1 he with rfl | he
    · exact h.1.1
    · exact attrsFrom_small r _ h.2 e he
theorem own_parts {n : Node} (h : ownB n = true) : small n.name [45] = true ∧ n.text = [] ∧ (n.name ∈ voids → n.kids = []) ∧ attrsFrom [] n.attrs = true ∧ rawB n.name = false := by
  unfold ownB at h
  simp only [Bool.and_eq_true, Bool.not_eq_true', Bool.or_eq_false_iff, Bool.not_eq_false', decide_eq_true_eq] at h
  obtain ⟨⟨⟨⟨h1, h2⟩, h3⟩, h4⟩, h5⟩ := h
  refine ⟨h2, h3, fun hv => ?_, h5, h1⟩
  simpa [hv] using h4

/-- What may stand behind a list of nodes: nothing, or an end tag. -/
def Tail (r : List UInt8) : Prop := r = [] ∨ ∃ t, r = 60 :: 47 :: t
theorem esc_ne {q : Bool} {t : List UInt8} (h : t ≠ []) : escape q t ≠ [] := by
  intro e
  have := escape_inj (q := q) (a := t) (b := []) (e.trans rfl)
  exact h this
/-- The page's text of nodes behind a text: nothing, or it begins with a tag. -/
theorem lead_lt {p li : Bool} {l : List Node} {r : List UInt8} (h : stL true p li l = true) (hr : Tail r) : ∀ c t, htL l ++ r = c :: t → c = 60 := by
  intro c t e
  cases l with
  | nil =>
    rw [htL, List.nil_append] at e
    rcases hr with rfl | ⟨u, rfl⟩
    · cases e
    · cases e; rfl
  | cons n l =>
    rw [stL_cons] at h
    by_cases hn : n.name = []
    · rw [if_pos hn] at h; simp at h
    · rw [htL_cons, htN_eq, if_neg hn] at e
      simp at e
      exact e.1.symm

theorem esc_head {t x y : List UInt8} (ht : t ≠ []) : escape false t ++ x ≠ 60 :: y := by
  intro e
  have hne := esc_ne (q := false) ht
  have hcl := escape_clean false t.length t (Nat.le_refl _)
  cases he : escape false t with
  | nil => exact hne he
  | cons c r =>
    rw [he] at e hcl
    simp at e
    exact (hcl c (by simp)).1 e.1
/-- What a node of a stable tree has. -/
def nodeOk (n : Node) : Prop := (n.name = [] → n.text ≠ [] ∧ n.attrs = [] ∧ n.kids = []) ∧ (n.name ≠ [] → ownB n = true)
theorem node_ok {tx p li : Bool} {n : Node} {l : List Node} (h : stL tx p li (n :: l) = true) : nodeOk n := by
  rw [stL_cons] at h
  by_cases hn : n.name = []
  · rw [if_pos hn] at h
    simp only [Bool.and_eq_true, Bool.not_eq_true', decide_eq_true_eq, decide_eq_false_iff_not] at h
    exact ⟨fun _ => ⟨h.1.1.1.2, h.1.1.2, h.1.2⟩, fun h' => absurd hn h'⟩
  · rw [if_neg hn, stN_eq] at h
    simp only [Bool.and_eq_true] at h
    exact ⟨fun h' => absurd h' hn, fun _ => h.1.1.1.1⟩
theorem tail_no {n : Node} {x r : List UInt8} (h : nodeOk n) (hr : Tail r) : r ≠ htN n ++ x := by
  intro e
  rw [htN_eq] at e
  by_cases hn : n.name = []
  · rw [if_pos hn] at e
    rcases hr with rfl | ⟨t, rfl⟩
    · have := congrArg List.length e
      have hne := esc_ne (q := false) (h.1 hn).1
      rw [List.length_append, List.length_nil] at this
      exact hne (List.length_eq_zero_iff.1 (by omega))
    · exact esc_head (h.1 hn).1 e.symm
  · rw [if_neg hn] at e
    obtain ⟨h1, _⟩ := own_parts (h.2 hn)
    have hs := small_nm h1 (by simp)
    cases hnm : n.name with
    | nil => exact hn hnm
    | cons c s =>
      rw [hnm] at e
      rcases hr with rfl | ⟨t, rfl⟩
      · simp at e
      · simp at e
        exact let_no (hs.2.2 c s hnm) e.1.symm
theorem node_ext {a b : Node} (h1 : a.name = b.name) (h2 : a.attrs = b.attrs) (h3 : a.text = b.text) (h4 : a.kids = b.kids) : a = b := by
  cases a; cases b
  simp only [Node.name, Node.attrs, Node.text, Node.kids] at h1 h2 h3 h4
  rw [h1, h2, h3, h4]
theorem after_name (a : List (List UInt8 × List UInt8)) (x : List UInt8) : ∀ c t, attrsH a ++ 62 :: x = c :: t → nmB c = false := by
  intro c t e
  cases a with
  | nil => simp [attrsH] at e; rw [← e.1]; decide
  | cons d r => rw [attrsH_cons] at e; unfold attrH at e; simp at e; rw [← e.1]; decide

theorem ht_inj (N : Nat) : ∀ (l1 l2 : List Node) (tx1 p1 li1 tx2 p2 li2 : Bool) (r1 r2 : List UInt8), szL l1 ≤ N → stL tx1 p1 li1 l1 = true → stL tx2 p2 li2 l2 = true → Tail r1 → Tail r2 → htL l1 ++ r1 = htL l2 ++ r2 → l1 = l2 ∧ r1 = r2 := by
  induction N using Nat.strongRecOn with
  | ind N ih =>
  intro l1 l2 tx1 p1 li1 tx2 p2 li2 r1 r2 hN s1 s2 t1 t2 e
  cases l1 with
  | nil =>
    cases l2 with
    | nil => rw [htL] at e; exact ⟨rfl, by simpa using e⟩
    | cons n l =>
      rw [htL, List.nil_append, htL_cons, List.append_assoc] at e
      exact absurd e (tail_no (node_ok s2) t1)
  | cons m k =>
    cases l2 with
    | nil =>
      rw [htL, List.nil_append, htL_cons, List.append_assoc] at e
      exact absurd e.symm (tail_no (node_ok s1) t2)
    | cons n l =>
      have o1 := node_ok s1
      have o2 := node_ok s2
      rw [szL_cons, szN_eq] at hN
      rw [htL_cons, htL_cons, htN_eq m, htN_eq n] at e
      rw [stL_cons] at s1 s2
      by_cases hm : m.name = []
      · rw [if_pos hm, Bool.and_eq_true] at s1
        rw [if_pos hm] at e
        by_cases hn : n.name = []
        · rw [if_pos hn, Bool.and_eq_true] at s2
          rw [if_pos hn, List.append_assoc, List.append_assoc] at e
          obtain ⟨e1, e⟩ := span_eq (fun c => decide (c ≠ 60)) _ _ _ _ (fun c hc => decide_eq_true (escape_clean false _ _ (Nat.le_refl _) c hc).1) (fun c hc => decide_eq_true (escape_clean false _ _ (Nat.le_refl _) c hc).1)
            (fun c t h => by rw [lead_lt s1.2 t1 c t h]; decide) (fun c t h => by rw [lead_lt s2.2 t2 c t h]; decide) e
          obtain ⟨e2, e3⟩ := ih (szL k) (by omega) k l _ _ _ _ _ _ r1 r2 (Nat.le_refl _) s1.2 s2.2 t1 t2 e
          obtain ⟨_, a1, b1⟩ := o1.1 hm
          obtain ⟨_, a2, b2⟩ := o2.1 hn
          exact ⟨by rw [e2, node_ext (hm.trans hn.symm) (a1.trans a2.symm) (escape_inj e1) (b1.trans b2.symm)], e3⟩
        · rw [if_neg hn] at e
          simp only [List.append_assoc, List.cons_append, List.nil_append] at e
          exact absurd e (esc_head (o1.1 hm).1)
      · rw [if_neg hm, Bool.and_eq_true] at s1
        rw [if_neg hm] at e
        by_cases hn : n.name = []
        · rw [if_pos hn] at e
          simp only [List.append_assoc, List.cons_append, List.nil_append] at e
          exact absurd e.symm (esc_head (o2.1 hn).1)
        · rw [if_neg hn, Bool.and_eq_true] at s2
          rw [if_neg hn] at e
          simp only [List.append_assoc, List.cons_append, List.nil_append, List.cons.injEq, true_and] at e
          obtain ⟨q1, x1, v1, w1, _⟩ := own_parts (o1.2 hm)
          obtain ⟨q2, x2, v2, w2, _⟩ := own_parts (o2.2 hn)
          obtain ⟨en, e⟩ := span_eq nmB _ _ _ _ (small_nm q1 (by simp)).2.1 (small_nm q2 (by simp)).2.1 (after_name _ _) (after_name _ _) e
          obtain ⟨ea, e⟩ := attrs_inj _ _ _ _ (attrsFrom_small _ _ w1) (attrsFrom_small _ _ w2) e
          rw [stN_eq] at s1 s2
          rw [Bool.and_eq_true] at s1 s2
          by_cases hv : m.name ∈ voids
          · rw [if_pos hv, if_pos (en ▸ hv), List.nil_append, List.nil_append] at e
            obtain ⟨e2, e3⟩ := ih (szL k) (by omega) k l _ _ _ _ _ _ r1 r2 (Nat.le_refl _) s1.2 s2.2 t1 t2 e
            exact ⟨by rw [e2, node_ext en ea (x1.trans x2.symm) ((v1 hv).trans (v2 (en ▸ hv)).symm)], e3⟩
          · rw [if_neg hv, if_neg (en ▸ hv)] at e
            simp only [List.append_assoc, List.cons_append, List.nil_append] at e
            obtain ⟨ek, e⟩ := ih (szL m.kids) (by omega) m.kids n.kids _ _ _ _ _ _ _ _ (Nat.le_refl _) s1.1.2 s2.1.2 (.inr ⟨_, rfl⟩) (.inr ⟨_, rfl⟩) e
            rw [en] at e
            simp only [List.cons.injEq, true_and, List.append_cancel_left_eq] at e
            obtain ⟨e2, e3⟩ := ih (szL k) (by omega) k l _ _ _ _ _ _ r1 r2 (Nat.le_refl _) s1.2 s2.2 t1 t2 e
            exact ⟨by rw [e2, node_ext en ea (x1.trans x2.symm) ek], e3⟩
theorem ht_eq {a b : List Node} (ha : stableB a = true) (hb : stableB b = true) : htL a = htL b ↔ a = b := by
  constructor
  · intro h
    unfold stableB at ha hb
    rw [Bool.and_eq_true] at ha hb
    exact (ht_inj (szL a) a b _ _ _ _ _ _ [] [] (Nat.le_refl _) ha.2 hb.2 (.inl rfl) (.inl rfl) (by rw [h])).1
  · intro h; rw [h]

end Go.Proofs.Ytcmkiancbgmmhaa
