import Derived.Test.YtcmkiancbgmmhaaSerF
import Derived.Test.YtcmkiancbgmmhaaTokL
namespace Go.Proofs.Ytcmkiancbgmmhaa
open Go.Aw
set_option maxHeartbeats 1600000
set_option linter.unusedSimpArgs false
set_option linter.unusedVariables false

mutual
/-- The tokens of a page. -/
def tkN : Node → List Tok
  | .mk nm a t k => if nm = [] then [textT t] else startT nm false a :: (if nm ∈ voids then [] else tkL k ++ [endT nm])
def tkL : List Node → List Tok
  | [] => []
  | n :: r => tkN n ++ tkL r
end
theorem tkN_eq (n : Node) : tkN n = if n.name = [] then [textT n.text] else startT n.name false n.attrs :: (if n.name ∈ voids then [] else tkL n.kids ++ [endT n.name]) := by cases n; unfold tkN; rfl
theorem tkL_cons (n : Node) (r : List Node) : tkL (n :: r) = tkN n ++ tkL r := by rw [tkL]

def markB (c : UInt8) : Bool := simC c || (decide (c = 45) || (decide (c = 95) || decide (c = 58)))
theorem mark_name (c : UInt8) (h : markB c = true) : nameC c = true ∧ attrC c = true ∧ lowB c = c ∧ blkB c = false ∧ c ≠ 60 ∧ c ≠ 61 ∧ c ≠ 62 ∧ c ≠ 47 ∧ c ≠ 33 ∧ c ≠ 63 := by
  have := u8_all (fun c => !markB c || decide (nameC c = true ∧ attrC c = true ∧ lowB c = c ∧ blkB c = false ∧ c ≠ 60 ∧ c ≠ 61 ∧ c ≠ 62 ∧ c ≠ 47 ∧ c ≠ 33 ∧ c ≠ 63)) (by decide +kernel) c
  rw [h, Bool.not_true, Bool.false_or] at this
  exact of_decide_eq_true this
theorem mark_lower {s : List UInt8} (h : ∀ c ∈ s, markB c = true) : lower s = s := by
  unfold lower
  have : s.map lowB = s.map id := List.map_congr_left fun c hc => (mark_name c (h c hc)).2.2.1
  rw [this, List.map_id]
theorem small_mark {s o : List UInt8} (h : small s o = true) (ho : ∀ c ∈ o, c ∈ ([45, 95, 58] : List UInt8)) : (∀ c ∈ s, markB c = true) ∧ ∃ c r, s = c :: r ∧ ltrB c = true := by
  cases s with
  | nil => cases h
  | cons c r =>
    unfold small at h
    rw [Bool.and_eq_true] at h
    have h1 := letter_sim c h.1
    refine ⟨fun d hd => ?_, c, r, rfl, h1.2⟩
    unfold markB
    rcases List.mem_cons.1 hd with rfl | hd
    · rw [h1.1]; rfl
    · have h2 := List.all_eq_true.1 h.2 d hd
      simp only [Bool.or_eq_true, decide_eq_true_eq] at h2
      rcases h2 with h2 | h2 | h2
      · have : simC d = true := by unfold simC; unfold letB at h2; rw [h2]; rfl
        rw [this]; rfl
      · have : simC d = true := by unfold simC; unfold digB at h2; rw [h2, Bool.or_true]
        rw [this]; rfl
      · have := ho d h2
        simp at this
        rcases this with rfl | rfl | rfl <;> decide

theorem attr_one (c : UInt8) (r v y : List UInt8) (h : ∀ d ∈ c :: r, markB d = true) : attrAt c (r ++ 61 :: 34 :: (escape true v ++ 34 :: y)) = some ((c :: r, v), y) := by
  have hr2 : runN (hdB attrC) (r ++ 61 :: 34 :: (escape true v ++ 34 :: y)) = r.length := run_all _ _ _ (fun d hd => (mark_name d (h d (by simp [hd]))).2.1) (.inr (show attrC 61 = false by decide))
  have hq : ∀ d ∈ escape true v, (!decide (d = 34)) = true := fun d hd => by
    have := (escape_clean true v.length v (Nat.le_refl _) d hd).2.2 rfl
    simp [this]
  have hr3 : runN (hdB fun x => !decide (x = 34)) (escape true v ++ 34 :: y) = (escape true v).length := run_all _ _ _ hq (.inr (by simp [hdB]))
  have hva : valueAt (34 :: (escape true v ++ 34 :: y)) = some (escape true v, y) := by
    rw [valueAt_cons, if_pos (.inl rfl), hr3, if_neg (by simp), List.take_left, ← List.drop_drop, List.drop_left]; rfl
  unfold attrAt
  rw [hr2, List.drop_left, List.take_left, mark_lower h]
  have e1 : skipB (61 :: 34 :: (escape true v ++ 34 :: y)) = 61 :: 34 :: (escape true v ++ 34 :: y) := rfl
  have e2 : skipB (34 :: (escape true v ++ 34 :: y)) = 34 :: (escape true v ++ 34 :: y) := rfl
  rw [e1]
  simp only [if_true, e2, hva, Option.map_some, res_esc]
theorem between_attrs : ∀ (ats done : List Attr) (y : List UInt8), attrsFrom (done.map (·.1)) ats = true → between (attrsH ats ++ 62 :: y) false done = some (false, done ++ ats, y)
  | [], done, y, _ => by
    show between (62 :: y) false done = _
    rw [between_cons, if_neg (by decide), if_neg (by decide), if_pos rfl, List.append_nil]
  | a :: r, done, y, h => by
    unfold attrsFrom at h
    simp only [Bool.and_eq_true, Bool.not_eq_true', decide_eq_false_iff_not] at h
    obtain ⟨⟨h1, h2⟩, h3⟩ := h
    obtain ⟨hm, c, t, hc, _⟩ := small_mark h1 (fun c hc => hc)
    rw [hc] at hm
    have hmc := mark_name c (hm c (by simp))
    have e : attrsH (a :: r) ++ 62 :: y = 32 :: c :: (t ++ 61 :: 34 :: (escape true a.2 ++ 34 :: (attrsH r ++ 62 :: y))) := by
      rw [attrsH_cons]; unfold attrH; rw [hc]; simp
    have ea : (c :: t, a.2) = a := by rw [← hc]
    have ih := between_attrs r (done ++ [a]) y (by rw [List.map_append]; exact h3)
    rw [e, between_cons, if_pos (by decide), between_cons, hmc.2.2.2.1, if_neg (by decide), if_neg hmc.2.2.2.2.2.2.2.1, if_neg hmc.2.2.2.2.2.2.1, attr_one c t a.2 _ hm, ea]
    show between (attrsH r ++ 62 :: y) false (addA done a) = _
    unfold addA
    rw [if_neg h2, ih, List.append_assoc]; rfl
theorem attrs_hd (ats : List Attr) (y : List UInt8) : hdB nameC (attrsH ats ++ 62 :: y) = false := by
  cases ats with
  | nil => show nameC 62 = false; decide
  | cons a r => rw [attrsH_cons]; unfold attrH; show nameC 32 = false; decide
theorem tag_own (nm : List UInt8) (ats : List Attr) (y : List UInt8) (h : small nm [45] = true) (ha : attrsFrom [] ats = true) : tagAt (nm ++ (attrsH ats ++ 62 :: y)) = some (nm, false, ats, y) := by
  obtain ⟨h1, _⟩ := small_mark h (fun c hc => by simp at hc; subst hc; decide)
  have hr : runN (hdB nameC) (nm ++ (attrsH ats ++ 62 :: y)) = nm.length := run_all _ _ _ (fun c hc => (mark_name c (h1 c hc)).1) (.inr (attrs_hd ats y))
  unfold tagAt
  rw [hr, List.take_left, List.drop_left, between_attrs ats [] y ha, mark_lower h1]
  rfl
theorem kind_own (nm y : List UInt8) (h : small nm [45] = true) : kindL (60 :: (nm ++ y)) = 4 := by
  obtain ⟨h1, c, r, rfl, h2⟩ := small_mark h (fun c hc => by simp at hc; subst hc; decide)
  have hc := mark_name c (h1 c (by simp))
  have e1 : hasPre (c :: (r ++ y)) [33, 45, 45] = false := by simp [hasPre]; intro _ e; exact absurd e hc.2.2.2.2.2.2.2.2.1
  simp only [List.cons_append, kindL, if_true, e1, Bool.false_eq_true, if_false, h2]
  rw [if_neg]
  rintro (e | e)
  · exact hc.2.2.2.2.2.2.2.2.1 e
  · exact hc.2.2.2.2.2.2.2.2.2 e
theorem kind_shut (nm y : List UInt8) (h : small nm [45] = true) : kindL (60 :: 47 :: (nm ++ y)) = 5 := by
  obtain ⟨h1, c, r, rfl, h2⟩ := small_mark h (fun c hc => by simp at hc; subst hc; decide)
  have hc := mark_name c (h1 c (by simp))
  have e1 : hasPre (47 :: c :: (r ++ y)) [33, 45, 45] = false := by simp [hasPre]
  have e2 : ltrB 47 = false := by decide
  simp only [List.cons_append, kindL, if_true, e1, e2, Bool.false_eq_true, if_false, h2]
  rw [if_neg (by decide), if_neg hc.2.2.2.2.2.2.1]
theorem toks_own (nm : List UInt8) (ats : List Attr) (y : List UInt8) (h : small nm [45] = true) (ha : attrsFrom [] ats = true) (hraw : rawB nm = false) : toks (60 :: (nm ++ (attrsH ats ++ 62 :: y))) = startT nm false ats :: toks y := by
  have hst : step (60 :: (nm ++ (attrsH ats ++ 62 :: y))) = some ([startT nm false ats], y) := by
    unfold step
    simp only [kind_own nm _ h]
    show (match tagAt (nm ++ (attrsH ats ++ 62 :: y)) with | none => none | some (nm, cl, ats, r) => if rawB nm then some (startT nm cl ats :: (if rawText nm r = [] then [] else [textT (rawText nm r)]), r.drop (rawN nm r)) else some ([startT nm cl ats], r)) = _
    rw [tag_own nm ats y h ha]
    simp only [hraw, Bool.false_eq_true, if_false]
  rw [toks_some (by simp) hst]; rfl
theorem toks_shut (nm y : List UInt8) (h : small nm [45] = true) : toks (60 :: 47 :: (nm ++ 62 :: y)) = endT nm :: toks y := by
  have hst : step (60 :: 47 :: (nm ++ 62 :: y)) = some ([endT nm], y) := by
    unfold step
    simp only [kind_shut nm _ h]
    show (match tagAt (nm ++ 62 :: y) with | none => none | some (nm, _, _, r) => some ([endT nm], r)) = _
    have := tag_own nm [] y h rfl
    rw [show attrsH [] ++ 62 :: y = 62 :: y from rfl] at this
    rw [this]
  rw [toks_some (by simp) hst]; rfl

theorem ownB_parts {n : Node} (h : ownB n = true) : rawB n.name = false ∧ small n.name [45] = true ∧ n.text = [] ∧ (n.name ∈ voids → n.kids = []) ∧ attrsFrom [] n.attrs = true := by
  unfold ownB at h
  rw [Bool.and_eq_true, Bool.not_eq_true'] at h
  obtain ⟨h, h5⟩ := h
  simp only [Bool.or_eq_false_iff, Bool.not_eq_false', Bool.and_eq_false_iff, decide_eq_true_eq, decide_eq_false_iff_not] at h
  obtain ⟨⟨⟨h1, h2⟩, h3⟩, h4⟩ := h
  refine ⟨h1, h2, h3, fun hv => ?_, h5⟩
  rcases h4 with h4 | h4
  · exact absurd hv h4
  · exact h4
theorem small_ne {s o : List UInt8} (h : small s o = true) : s ≠ [] := by
  intro e; subst e; cases h
/-- What follows a text is none. -/
theorem next_kind {p li : Bool} {r : List Node} (h : stL true p li r = true) {y : List UInt8} (hy : y = [] ∨ kindL y ≠ 0) : htL r ++ y = [] ∨ kindL (htL r ++ y) ≠ 0 := by
  cases r with
  | nil => rw [htL]; exact hy
  | cons n r =>
    rw [stL_cons] at h
    split at h
    · simp at h
    · rename_i hn
      rw [Bool.and_eq_true, stN_eq] at h
      simp only [Bool.and_eq_true] at h
      have ho := ownB_parts h.1.1.1.1
      refine .inr ?_
      rw [htL_cons, htN_eq, if_neg hn]
      have : ([60] ++ n.name ++ attrsH n.attrs ++ [62] ++ (if n.name ∈ voids then [] else htL n.kids ++ ([60, 47] ++ n.name ++ [62])) ++ htL r ++ y) = 60 :: (n.name ++ (attrsH n.attrs ++ [62] ++ (if n.name ∈ voids then [] else htL n.kids ++ ([60, 47] ++ n.name ++ [62])) ++ htL r ++ y)) := by simp
      rw [this, kind_own _ _ ho.2.1]; decide

mutual
/-- THE TOKENS OF A STABLE PAGE. -/
theorem toks_node : ∀ (n : Node) (p li : Bool), n.name ≠ [] → stN p li n = true → ∀ y : List UInt8, toks (htN n ++ y) = tkN n ++ toks y
  | .mk nm a t k, p, li, hn, h, y => by
    rw [stN] at h
    simp only [Bool.and_eq_true] at h
    obtain ⟨⟨⟨ho, _⟩, _⟩, hk⟩ := h
    obtain ⟨o1, o2, o3, o4, o5⟩ := ownB_parts ho
    dsimp only [Node.name, Node.text, Node.kids, Node.attrs] at *
    rw [htN, tkN, if_neg hn, if_neg hn]
    by_cases hv : nm ∈ voids
    · rw [if_pos hv, if_pos hv]
      have e : [60] ++ nm ++ attrsH a ++ [62] ++ [] ++ y = 60 :: (nm ++ (attrsH a ++ 62 :: y)) := by simp
      rw [e, toks_own nm a y o2 o5 o1]; rfl
    · rw [if_neg hv, if_neg hv]
      have e : [60] ++ nm ++ attrsH a ++ [62] ++ (htL k ++ ([60, 47] ++ nm ++ [62])) ++ y = 60 :: (nm ++ (attrsH a ++ 62 :: (htL k ++ 60 :: 47 :: (nm ++ 62 :: y)))) := by simp
      have ih := toks_page k false (p || decide (nm = [112])) (inLi li nm) hk (60 :: 47 :: (nm ++ 62 :: y)) (.inr (by rw [kind_shut nm _ o2]; decide))
      rw [e, toks_own nm a _ o2 o5 o1, ih, toks_shut nm y o2]
      simp
theorem toks_page : ∀ (l : List Node) (tx p li : Bool), stL tx p li l = true → ∀ y : List UInt8, (y = [] ∨ kindL y ≠ 0) → toks (htL l ++ y) = tkL l ++ toks y
  | [], tx, p, li, _, y, _ => by rw [htL, tkL]; rfl
  | n :: r, tx, p, li, h, y, hy => by
    rw [stL_cons] at h
    rw [htL_cons, tkL_cons, List.append_assoc, List.append_assoc]
    by_cases hn : n.name = []
    · rw [if_pos hn] at h
      simp only [Bool.and_eq_true, Bool.not_eq_true', decide_eq_true_eq, decide_eq_false_iff_not] at h
      obtain ⟨⟨⟨⟨_, h2⟩, _⟩, _⟩, h5⟩ := h
      have ih := toks_page r true p li h5 y hy
      rw [htN_eq, if_pos hn, tkN_eq, if_pos hn, toks_text _ _ (fun e => h2 ((esc_nil false _).1 e)) (esc_free false _) (next_kind h5 hy), res_esc, ih]
      rfl
    · rw [if_neg hn, Bool.and_eq_true] at h
      rw [toks_node n p li hn h.1, toks_page r false p li h.2 y hy]
end

end Go.Proofs.Ytcmkiancbgmmhaa
