import Derived.Test.YtcmkiancbgmmhaaTokH
import Derived.Test.YtcmkiancbgmmhaaEscP
namespace Go.Proofs.Ytcmkiancbgmmhaa
open Go.Aw
set_option maxHeartbeats 1600000
set_option linter.unusedSimpArgs false
set_option linter.unusedVariables false

theorem pre_ne {c d : UInt8} {r t : List UInt8} (h : c ≠ d) : hasPre (c :: r) (d :: t) = false := by
  unfold hasPre
  simp [h]
theorem u8_all (P : UInt8 → Bool) (h : ((List.range 256).all fun n => P (UInt8.ofNat n)) = true) (c : UInt8) : P c = true := by
  have := List.all_eq_true.1 h c.toNat (List.mem_range.2 c.toNat_lt)
  rwa [UInt8.ofNat_toNat] at this
theorem kind_head {c : UInt8} {r : List UInt8} (h : c ≠ 60) : kindL (c :: r) = 0 := by
  unfold kindL
  split
  · rename_i a d t e
    cases e
    exact if_neg h
  · rfl
/-- How far text goes. -/
theorem run_text (x y : List UInt8) (h : (60 : UInt8) ∉ x) (hy : y = [] ∨ kindL y ≠ 0) : runN plainB (x ++ y) = x.length := by
  refine runN_eq _ _ _ (by simp) (fun j hj => ?_) (fun hl => ?_)
  · rw [List.drop_append_of_le_length (Nat.le_of_lt hj), List.drop_eq_getElem_cons hj]
    unfold plainB
    rw [List.cons_append, kind_head (fun e => h (e ▸ List.getElem_mem hj))]; rfl
  · rw [List.drop_left]
    rcases hy with rfl | hy
    · simp at hl
    · unfold plainB; exact decide_eq_false hy
theorem toks_text (x y : List UInt8) (hx : x ≠ []) (h : (60 : UInt8) ∉ x) (hy : y = [] ∨ kindL y ≠ 0) : toks (x ++ y) = textT (resolve x) :: toks y := by
  have hk : kindL (x ++ y) = 0 := by
    cases x with
    | nil => exact absurd rfl hx
    | cons c r => exact kind_head (fun e => h (by simp [e]))
  have hst : step (x ++ y) = some ([textT (resolve x)], y) := by
    unfold step
    simp only [hk]
    rw [run_text x y h hy, List.take_left, List.drop_left]
  rw [toks_some (by simp [hx]) hst]; rfl
theorem toks_plain (x : List UInt8) (h : (60 : UInt8) ∉ x) : toks x = if x = [] then [] else [textT (resolve x)] := by
  by_cases hx : x = []
  · subst hx; rfl
  · rw [if_neg hx]
    have := toks_text x [] hx h (.inl rfl)
    rwa [List.append_nil, toks_nil] at this
theorem esc_free (q : Bool) (s : List UInt8) : (60 : UInt8) ∉ escape q s := fun h => (escape_clean q s.length s (Nat.le_refl _) 60 h).1 rfl
theorem res_esc (q : Bool) (s : List UInt8) : resolve (escape q s) = s := resolve_escape q s.length s (Nat.le_refl _)
theorem esc_nil (q : Bool) (s : List UInt8) : escape q s = [] ↔ s = [] := by
  constructor
  · intro h
    have := (escape_len s.length q s (Nat.le_refl _)).1
    rw [h] at this
    exact List.length_eq_zero_iff.1 (by simpa using this)
  · rintro rfl; rfl
theorem toks_esc (s : List UInt8) : toks (escape false s) = if s = [] then [] else [textT s] := by
  rw [toks_plain _ (esc_free false s), res_esc]
  by_cases h : s = []
  · rw [if_pos h, if_pos ((esc_nil false s).2 h)]
  · rw [if_neg h, if_neg (fun e => h ((esc_nil false s).1 e))]

/-- A note whose text has no -. -/
theorem toks_note (x y : List UInt8) (h : (45 : UInt8) ∉ x) : toks ([60, 33, 45, 45] ++ x ++ [45, 45, 62] ++ y) = noteT x :: toks y := by
  have hk : kindL ([60, 33, 45, 45] ++ x ++ [45, 45, 62] ++ y) = 1 := by simp [kindL, hasPre]
  have hd : ([60, 33, 45, 45] ++ x ++ [45, 45, 62] ++ y).drop 4 = x ++ ([45, 45, 62] ++ y) := by simp
  have hr : runN (fun z => !hasPre z [45, 45, 62]) (x ++ ([45, 45, 62] ++ y)) = x.length := by
    refine runN_eq _ _ _ (by simp) (fun j hj => ?_) (fun hl => ?_)
    · rw [List.drop_append_of_le_length (Nat.le_of_lt hj), List.drop_eq_getElem_cons hj]
      have : x[j] ≠ 45 := fun e => h (e ▸ List.getElem_mem hj)
      rw [List.cons_append, pre_ne this]; rfl
    · rw [List.drop_left]; simp [hasPre]
  have hst : step ([60, 33, 45, 45] ++ x ++ [45, 45, 62] ++ y) = some ([noteT x], y) := by
    unfold step
    simp only [hk]
    rw [hd, hr, List.take_left, show x.length + 3 = (x ++ [45, 45, 62]).length by simp, ← List.append_assoc, List.drop_left]
  rw [toks_some (by simp) hst]; rfl

/-- A small letter, and small letters and digits behind it. -/
def simC (c : UInt8) : Bool := (decide (97 ≤ c.toNat) && decide (c.toNat ≤ 122)) || (decide (48 ≤ c.toNat) && decide (c.toNat ≤ 57))
def simB (s : List UInt8) : Bool := match s with
  | [] => false
  | c :: r => (decide (97 ≤ c.toNat) && decide (c.toNat ≤ 122)) && r.all simC
theorem simC_name (c : UInt8) (h : simC c = true) : nameC c = true ∧ attrC c = true ∧ lowB c = c ∧ blkB c = false ∧ c ≠ 60 ∧ c ≠ 61 ∧ c ≠ 62 ∧ c ≠ 47 ∧ c ≠ 33 ∧ c ≠ 63 := by
  have := u8_all (fun c => !simC c || decide (nameC c = true ∧ attrC c = true ∧ lowB c = c ∧ blkB c = false ∧ c ≠ 60 ∧ c ≠ 61 ∧ c ≠ 62 ∧ c ≠ 47 ∧ c ≠ 33 ∧ c ≠ 63)) (by decide +kernel) c
  rw [h, Bool.not_true, Bool.false_or] at this
  exact of_decide_eq_true this
theorem letter_sim (c : UInt8) (h : (decide (97 ≤ c.toNat) && decide (c.toNat ≤ 122)) = true) : simC c = true ∧ ltrB c = true := by
  unfold simC ltrB
  rw [h]; exact ⟨rfl, rfl⟩
theorem simB_all {s : List UInt8} (h : simB s = true) : (∀ c ∈ s, simC c = true) ∧ ∃ c r, s = c :: r ∧ ltrB c = true := by
  cases s with
  | nil => cases h
  | cons c r =>
    unfold simB at h
    rw [Bool.and_eq_true] at h
    obtain ⟨h1, h2⟩ := letter_sim c h.1
    refine ⟨?_, c, r, rfl, h2⟩
    intro d hd
    rcases List.mem_cons.1 hd with rfl | hd
    · exact h1
    · exact List.all_eq_true.1 h.2 d hd
theorem lower_id {s : List UInt8} (h : ∀ c ∈ s, simC c = true) : lower s = s := by
  unfold lower
  have : s.map lowB = s.map id := List.map_congr_left fun c hc => (simC_name c (h c hc)).2.2.1
  rw [this, List.map_id]
theorem run_all (p : UInt8 → Bool) (x y : List UInt8) (h : ∀ c ∈ x, p c = true) (hy : y = [] ∨ hdB p y = false) : runN (hdB p) (x ++ y) = x.length := by
  refine runN_eq _ _ _ (by simp) (fun j hj => ?_) (fun hl => ?_)
  · rw [List.drop_append_of_le_length (Nat.le_of_lt hj), List.drop_eq_getElem_cons hj]
    exact h _ (List.getElem_mem hj)
  · rw [List.drop_left]
    rcases hy with rfl | hy
    · simp at hl
    · exact hy
/-- A tag without attributes. -/
theorem tag_bare (nm y : List UInt8) (h : simB nm = true) : tagAt (nm ++ 62 :: y) = some (nm, false, [], y) := by
  obtain ⟨h1, _⟩ := simB_all h
  have hr : runN (hdB nameC) (nm ++ 62 :: y) = nm.length := run_all _ _ _ (fun c hc => (simC_name c (h1 c hc)).1) (.inr (show nameC 62 = false by decide))
  unfold tagAt
  rw [hr, List.take_left, List.drop_left, between_cons, lower_id h1]
  rfl
theorem kind_start (nm y : List UInt8) (h : simB nm = true) : kindL (60 :: (nm ++ y)) = 4 := by
  obtain ⟨h1, c, r, rfl, h2⟩ := simB_all h
  have hc := simC_name c (h1 c (by simp))
  have e1 : hasPre (c :: (r ++ y)) [33, 45, 45] = false := by simp [hasPre]; intro _ e; exact absurd e hc.2.2.2.2.2.2.2.2.1
  simp only [List.cons_append, kindL, if_true, e1, Bool.false_eq_true, if_false, h2]
  rw [if_neg]
  rintro (e | e)
  · exact hc.2.2.2.2.2.2.2.2.1 e
  · exact hc.2.2.2.2.2.2.2.2.2 e
theorem kind_end (nm y : List UInt8) (h : simB nm = true) : kindL (60 :: 47 :: (nm ++ y)) = 5 := by
  obtain ⟨h1, c, r, rfl, h2⟩ := simB_all h
  have hc := simC_name c (h1 c (by simp))
  have e1 : hasPre (47 :: c :: (r ++ y)) [33, 45, 45] = false := by simp [hasPre]
  have e2 : ltrB 47 = false := by decide
  simp only [List.cons_append, kindL, if_true, e1, e2, Bool.false_eq_true, if_false, h2]
  rw [if_neg (by decide), if_neg hc.2.2.2.2.2.2.1]
theorem toks_start (nm y : List UInt8) (h : simB nm = true) (hraw : rawB nm = false) : toks (60 :: (nm ++ 62 :: y)) = startT nm false [] :: toks y := by
  have hst : step (60 :: (nm ++ 62 :: y)) = some ([startT nm false []], y) := by
    unfold step
    simp only [kind_start nm _ h]
    show (match tagAt (nm ++ 62 :: y) with | none => none | some (nm, cl, ats, r) => if rawB nm then some (startT nm cl ats :: (if rawText nm r = [] then [] else [textT (rawText nm r)]), r.drop (rawN nm r)) else some ([startT nm cl ats], r)) = _
    rw [tag_bare nm y h]
    simp only [hraw, Bool.false_eq_true, if_false]
  rw [toks_some (by simp) hst]; rfl
theorem toks_end (nm y : List UInt8) (h : simB nm = true) : toks (60 :: 47 :: (nm ++ 62 :: y)) = endT nm :: toks y := by
  have hst : step (60 :: 47 :: (nm ++ 62 :: y)) = some ([endT nm], y) := by
    unfold step
    simp only [kind_end nm _ h]
    show (match tagAt (nm ++ 62 :: y) with | none => none | some (nm, _, _, r) => some ([endT nm], r)) = _
    rw [tag_bare nm y h]
  rw [toks_some (by simp) hst]; rfl
/-- What stands within a raw element. -/
theorem raw_within (nm x y : List UInt8) (h : simB nm = true) (hp : nm ≠ plaintext) (hx : (60 : UInt8) ∉ x) : rawN nm (x ++ 60 :: 47 :: (nm ++ 62 :: y)) = x.length := by
  unfold rawN
  refine runN_eq _ _ _ (by simp) (fun j hj => ?_) (fun hl => ?_)
  · rw [List.drop_append_of_le_length (Nat.le_of_lt hj), List.drop_eq_getElem_cons hj]
    have : x[j] ≠ 60 := fun e => hx (e ▸ List.getElem_mem hj)
    unfold rawEnd
    rw [List.cons_append, pre_ne this, Bool.false_and, Bool.and_false]; rfl
  · rw [List.drop_left]
    have e1 : (60 :: 47 :: (nm ++ 62 :: y)).drop 2 = nm ++ 62 :: y := rfl
    have e2 : (60 :: 47 :: (nm ++ 62 :: y)).drop (nm.length + 2) = 62 :: y := by
      rw [Nat.add_comm, ← List.drop_drop, e1, List.drop_left]
    unfold rawEnd
    rw [e1, e2, List.take_left, lower_id (simB_all h).1, decide_eq_false hp, decide_eq_true rfl]
    simp [hasPre, hdB]
theorem raws_sim : ∀ nm ∈ raws ++ softs, simB nm = true := by decide
theorem rawB_sim {nm : List UInt8} (h : rawB nm = true) : simB nm = true := by
  refine raws_sim nm ?_
  unfold rawB at h
  rw [Bool.or_eq_true, decide_eq_true_eq, decide_eq_true_eq] at h
  exact List.mem_append.2 h
theorem enc_ne (n : Int) : enc n ≠ [] := fun e => by have := (enc_len n).1; rw [e] at this; simp at this
theorem stands_ne {s t : List UInt8} (h : stands s = some t) : t ≠ [] := by
  unfold stands at h
  split at h
  · obtain ⟨n, _, rfl⟩ := Option.map_eq_some_iff.1 h
    exact enc_ne _
  · unfold named at h
    obtain ⟨e, _, rfl⟩ := Option.map_eq_some_iff.1 h
    exact enc_ne _
theorem resolve_ne {s : List UInt8} (h : s ≠ []) : resolve s ≠ [] := by
  cases s with
  | nil => exact absurd rfl h
  | cons c r =>
    by_cases hc : c = 38
    · subst hc
      rw [resolve_amp]
      split
      · rename_i t r' ho
        unfold oneR at ho
        split at ho
        · obtain ⟨u, hu, e⟩ := Option.map_eq_some_iff.1 ho
          cases e
          simp [stands_ne hu]
        · cases ho
      · simp
    · rw [resolve_other c r hc]; simp
theorem toks_within (nm x y : List UInt8) (hr : rawB nm = true) (hp : nm ≠ plaintext) (hx : (60 : UInt8) ∉ x) (hne : x ≠ []) :
    toks (60 :: (nm ++ 62 :: (x ++ 60 :: 47 :: (nm ++ 62 :: y)))) = startT nm false [] :: textT (if softB nm then resolve x else x) :: endT nm :: toks y := by
  have h := rawB_sim hr
  have hst : step (60 :: (nm ++ 62 :: (x ++ 60 :: 47 :: (nm ++ 62 :: y)))) = some ([startT nm false [], textT (if softB nm then resolve x else x)], 60 :: 47 :: (nm ++ 62 :: y)) := by
    unfold step
    simp only [kind_start nm _ h]
    show (match tagAt (nm ++ 62 :: (x ++ 60 :: 47 :: (nm ++ 62 :: y))) with | none => none | some (nm, cl, ats, r) => if rawB nm then some (startT nm cl ats :: (if rawText nm r = [] then [] else [textT (rawText nm r)]), r.drop (rawN nm r)) else some ([startT nm cl ats], r)) = _
    rw [tag_bare nm _ h]
    simp only [hr, if_true]
    have ht : rawText nm (x ++ 60 :: 47 :: (nm ++ 62 :: y)) = if softB nm then resolve x else x := by
      unfold rawText
      rw [raw_within nm x y h hp hx, List.take_left]
    rw [ht, raw_within nm x y h hp hx, List.drop_left, if_neg]
    split
    · exact resolve_ne hne
    · exact hne
  rw [toks_some (by simp) hst, toks_end nm y h]; rfl
theorem valueAt_cons (c : UInt8) (r : List UInt8) : valueAt (c :: r) = if c = 34 ∨ c = 39 then
      (if runN (hdB fun x => !decide (x = c)) r = r.length then none else some (r.take (runN (hdB fun x => !decide (x = c)) r), r.drop (runN (hdB fun x => !decide (x = c)) r + 1)))
    else some ((c :: r).take (runN (hdB bareC) (c :: r)), (c :: r).drop (runN (hdB bareC) (c :: r))) := rfl
/-- A tag with an attribute. -/
theorem tag_attr (nm a v y : List UInt8) (h : simB nm = true) (ha : simB a = true) : tagAt (nm ++ 32 :: (a ++ 61 :: 34 :: (escape true v ++ 34 :: 62 :: y))) = some (nm, false, [(a, v)], y) := by
  obtain ⟨h1, _⟩ := simB_all h
  obtain ⟨h2, c, r, rfl, _⟩ := simB_all ha
  have hc := simC_name c (h2 c (by simp))
  have hr : runN (hdB nameC) (nm ++ 32 :: ((c :: r) ++ 61 :: 34 :: (escape true v ++ 34 :: 62 :: y))) = nm.length := run_all _ _ _ (fun c hc => (simC_name c (h1 c hc)).1) (.inr (show nameC 32 = false by decide))
  have hr2 : runN (hdB attrC) (r ++ 61 :: 34 :: (escape true v ++ 34 :: 62 :: y)) = r.length := run_all _ _ _ (fun d hd => (simC_name d (h2 d (by simp [hd]))).2.1) (.inr (show attrC 61 = false by decide))
  have hq : ∀ d ∈ escape true v, (!decide (d = 34)) = true := fun d hd => by
    have := (escape_clean true v.length v (Nat.le_refl _) d hd).2.2 rfl
    simp [this]
  have hr3 : runN (hdB fun x => !decide (x = 34)) (escape true v ++ 34 :: 62 :: y) = (escape true v).length := run_all _ _ _ hq (.inr (by simp [hdB]))
  have hva : valueAt (34 :: (escape true v ++ 34 :: 62 :: y)) = some (escape true v, 62 :: y) := by
    rw [valueAt_cons, if_pos (.inl rfl), hr3, if_neg (by simp), List.take_left, ← List.drop_drop, List.drop_left]; rfl
  have hat : attrAt c (r ++ 61 :: 34 :: (escape true v ++ 34 :: 62 :: y)) = some ((c :: r, v), 62 :: y) := by
    unfold attrAt
    rw [hr2, List.drop_left, List.take_left, lower_id h2]
    have e1 : skipB (61 :: 34 :: (escape true v ++ 34 :: 62 :: y)) = 61 :: 34 :: (escape true v ++ 34 :: 62 :: y) := rfl
    have e2 : skipB (34 :: (escape true v ++ 34 :: 62 :: y)) = 34 :: (escape true v ++ 34 :: 62 :: y) := rfl
    rw [e1]
    simp only [if_true, e2, hva, Option.map_some, res_esc]
  unfold tagAt
  rw [hr, List.take_left, List.drop_left, between_cons, if_pos (by decide), List.cons_append, between_cons, hc.2.2.2.1, if_neg (by decide), if_neg hc.2.2.2.2.2.2.2.1, if_neg hc.2.2.2.2.2.2.1, hat, lower_id h1]
  rfl
theorem toks_attr (nm a v y : List UInt8) (h : simB nm = true) (ha : simB a = true) (hraw : rawB nm = false) : toks (60 :: (nm ++ 32 :: (a ++ 61 :: 34 :: (escape true v ++ 34 :: 62 :: y)))) = startT nm false [(a, v)] :: toks y := by
  have hst : step (60 :: (nm ++ 32 :: (a ++ 61 :: 34 :: (escape true v ++ 34 :: 62 :: y)))) = some ([startT nm false [(a, v)]], y) := by
    unfold step
    simp only [kind_start nm _ h]
    show (match tagAt (nm ++ 32 :: (a ++ 61 :: 34 :: (escape true v ++ 34 :: 62 :: y))) with | none => none | some (nm, cl, ats, r) => if rawB nm then some (startT nm cl ats :: (if rawText nm r = [] then [] else [textT (rawText nm r)]), r.drop (rawN nm r)) else some ([startT nm cl ats], r)) = _
    rw [tag_attr nm a v y h ha]
    simp only [hraw, Bool.false_eq_true, if_false]
  rw [toks_some (by simp) hst]; rfl

theorem toks_ind {P : Tok → Prop} (hstep : ∀ (s r : List UInt8) (e : List Tok), s ≠ [] → step s = some (e, r) → ∀ t ∈ e, P t) : ∀ (n : Nat) (s : List UInt8), s.length ≤ n → ∀ t ∈ toks s, P t
  | n, s, hn, t, ht => by
    by_cases hs : s = []
    · subst hs; simp [toks_nil] at ht
    · cases hst : step s with
      | none => rw [toks_none hst] at ht; simp at ht
      | some x =>
        obtain ⟨e, r⟩ := x
        rw [toks_some hs hst] at ht
        rcases List.mem_append.1 ht with h | h
        · exact hstep s r e hs hst t h
        · have hlt := step_lt hs hst
          cases n with
          | zero => omega
          | succ n => exact toks_ind hstep n r (by omega) t h
theorem toks_len : ∀ (n : Nat) (s : List UInt8), s.length ≤ n → (toks s).length ≤ s.length
  | n, s, hn => by
    by_cases hs : s = []
    · subst hs; simp [toks_nil]
    · cases hst : step s with
      | none => rw [toks_none hst]; simp
      | some x =>
        obtain ⟨e, r⟩ := x
        rw [toks_some hs hst, List.length_append]
        have hlt := step_lt hs hst
        have hct := step_count hs hst
        cases n with
        | zero => omega
        | succ n =>
          have := toks_len n r (by omega)
          omega

/-- No attribute twice. -/
def Uniq (ats : List Attr) : Prop := ∀ (j k : Nat) (h : j < k) (hk : k < ats.length), (ats[j]'(by omega)).1 ≠ ats[k].1
theorem uniq_add {ats : List Attr} (h : Uniq ats) (a : Attr) : Uniq (addA ats a) := by
  unfold addA
  split
  · exact h
  · rename_i hn
    intro j k hjk hk
    simp at hk
    by_cases hk2 : k < ats.length
    · rw [List.getElem_append_left (by omega), List.getElem_append_left hk2]
      exact h j k hjk hk2
    · have : k = ats.length := by omega
      subst this
      rw [List.getElem_append_left (by omega), List.getElem_append_right (by omega)]
      simp
      intro e
      exact hn (List.mem_map.2 ⟨ats[j], List.getElem_mem _, e⟩)
theorem addA_len (ats : List Attr) (a : Attr) : (addA ats a).length ≤ ats.length + 1 := by
  unfold addA
  split <;> simp
theorem tagF_ats : ∀ (n : Nat) (s : List UInt8) (cl : Bool) (ats : List Attr) {x : Bool} {y : List Attr} {r : List UInt8}, tagF n s cl ats = some (x, y, r) → Uniq ats → Uniq y ∧ y.length ≤ ats.length + s.length
  | 0, _, _, _, _, _, _, h, _ => by cases h
  | n + 1, [], _, _, _, _, _, h, _ => by cases h
  | n + 1, c :: r, cl, ats, x, y, r', h, hu => by
    unfold tagF at h
    rw [List.length_cons]
    split at h
    · have := tagF_ats n _ _ _ h hu; exact ⟨this.1, by omega⟩
    · split at h
      · have := tagF_ats n _ _ _ h hu; exact ⟨this.1, by omega⟩
      · split at h
        · cases h; exact ⟨hu, by omega⟩
        · split at h
          · cases h
          · rename_i a r1 e
            have h1 := attrAt_le e
            have h2 := addA_len ats a
            have := tagF_ats n _ _ _ h (uniq_add hu a)
            exact ⟨this.1, by omega⟩
/-- Bytes that no name has. -/
def badC (c : UInt8) : Bool := (decide (65 ≤ c.toNat) && decide (c.toNat ≤ 90)) || (decide (c.toNat = 32) || (decide (c.toNat = 62) || (decide (c.toNat = 47) || decide (c.toNat = 10))))
theorem nameC_low (c : UInt8) (h : nameC c = true) : badC (lowB c) = false := by
  have := u8_all (fun c => !nameC c || !badC (lowB c)) (by decide +kernel) c
  rw [h, Bool.not_true, Bool.false_or] at this
  simpa using this
def goodT (t : Tok) : Prop := (t.kd = 1 ∨ t.kd = 2 ∨ t.kd = 3 ∨ t.kd = 4) ∧ ((t.kd = 2 ∨ t.kd = 3) ↔ t.nm ≠ []) ∧ (t.tx ≠ [] → ¬ (t.kd = 2 ∨ t.kd = 3)) ∧ (t.kd ≠ 2 → t.cl = false ∧ t.ats = []) ∧ (∀ c ∈ t.nm, badC c = false) ∧ Uniq t.ats
theorem uniq_nil : Uniq [] := fun _ _ _ h => by simp at h
theorem good_text (x : List UInt8) : goodT (textT x) := ⟨.inl rfl, by simp [textT], by simp [textT], fun _ => ⟨rfl, rfl⟩, by simp [textT], uniq_nil⟩
theorem good_note (x : List UInt8) : goodT (noteT x) := ⟨.inr (.inr (.inr rfl)), by simp [noteT], by simp [noteT], fun _ => ⟨rfl, rfl⟩, by simp [noteT], uniq_nil⟩
theorem tagAt_good {s nm r : List UInt8} {cl : Bool} {ats : List Attr} (h : tagAt s = some (nm, cl, ats, r)) : (∀ c ∈ nm, badC c = false) ∧ Uniq ats ∧ ats.length ≤ s.length ∧ nm = lower (s.take (runN (hdB nameC) s)) := by
  unfold tagAt at h
  cases e : between (s.drop (runN (hdB nameC) s)) false [] with
  | none => rw [e] at h; cases h
  | some t =>
    rw [e] at h
    cases h
    have h1 := tagF_ats _ _ _ _ (x := t.1) (y := t.2.1) (r := t.2.2) e uniq_nil
    simp only [List.length_nil, List.length_drop] at h1
    refine ⟨fun c hc => ?_, h1.1, by omega, rfl⟩
    unfold lower at hc
    obtain ⟨d, hd, rfl⟩ := List.mem_map.1 hc
    obtain ⟨j, hj, rfl⟩ := List.mem_iff_getElem.1 hd
    rw [List.length_take] at hj
    have h2 := runN_in (hdB nameC) s j (by omega)
    rw [hd_drop nameC s j (by omega)] at h2
    rw [List.getElem_take]
    exact nameC_low _ h2
theorem ltr_name (c : UInt8) (h : ltrB c = true) : nameC c = true := by
  have := u8_all (fun c => !ltrB c || nameC c) (by decide +kernel) c
  rw [h, Bool.not_true, Bool.false_or] at this
  exact this
theorem tag_name {c : UInt8} {t nm r : List UInt8} {cl : Bool} {ats : List Attr} (hc : ltrB c = true) (h : tagAt (c :: t) = some (nm, cl, ats, r)) : nm ≠ [] := by
  rw [(tagAt_good h).2.2.2]
  have : runN (hdB nameC) (c :: t) = runN (hdB nameC) t + 1 := by
    rw [runN, if_pos (show hdB nameC (c :: t) = true from ltr_name c hc)]
  rw [this]
  simp [lower]
theorem step_good (s r : List UInt8) (e : List Tok) (hs : s ≠ []) (h : step s = some (e, r)) : ∀ t ∈ e, goodT t ∧ t.ats.length ≤ s.length := by
  intro t ht
  unfold step at h
  split at h
  · cases h; rw [List.mem_singleton] at ht; subst ht; exact ⟨good_text _, by simp [textT]⟩
  · cases h; rw [List.mem_singleton] at ht; subst ht; exact ⟨good_note _, by simp [noteT]⟩
  · cases h; simp at ht
  · cases h; simp at ht
  · rename_i hk
    split at h
    · cases h
    · rename_i nm cl ats rest hta
      obtain ⟨c, r0, hx, _, _, h3⟩ := tag_tests (.inl hk)
      obtain ⟨_, h4⟩ := h3.resolve_right (fun h => by have := h.1; omega)
      obtain ⟨g1, g2, g3, _⟩ := tagAt_good hta
      rw [hx] at hta
      have g5 := tag_name h4 hta
      rw [List.length_drop] at g3
      have gs : goodT (startT nm cl ats) := ⟨.inr (.inl rfl), ⟨fun _ => g5, fun _ => .inl rfl⟩, by simp [startT], fun h => absurd rfl h, g1, g2⟩
      split at h
      · cases h
        rcases List.mem_cons.1 ht with rfl | ht
        · exact ⟨gs, by show ats.length ≤ _; omega⟩
        · split at ht
          · simp at ht
          · rw [List.mem_singleton] at ht; subst ht; exact ⟨good_text _, by simp [textT]⟩
      · cases h
        rw [List.mem_singleton] at ht; subst ht; exact ⟨gs, by show ats.length ≤ _; omega⟩
  · rename_i k _ _ _ _ _
    split at h
    · cases h
    · rename_i nm cl ats rest hta
      cases h
      rw [List.mem_singleton] at ht; subst ht
      have hk : kindL s = 5 := by rcases kind_le s with h | h | h | h | h | h <;> simp_all
      obtain ⟨c, r0, hx, _, _, h3⟩ := tag_tests (.inr hk)
      rcases h3 with h3 | ⟨_, _, rfl, d, r', rfl, h5⟩
      · omega
      · obtain ⟨g1, _, _, _⟩ := tagAt_good hta
        rw [hx] at hta
        have g5 := tag_name h5 hta
        exact ⟨⟨.inr (.inr (.inl rfl)), ⟨fun _ => g5, fun _ => .inr rfl⟩, by simp [endT], fun _ => ⟨rfl, rfl⟩, g1, uniq_nil⟩, by simp [endT]⟩
theorem toks_good (s : List UInt8) : ∀ t ∈ toks s, goodT t := toks_ind (fun s r e hs h t ht => (step_good s r e hs h t ht).1) s.length s (Nat.le_refl _)
theorem toks_ats : ∀ (n : Nat) (s : List UInt8), s.length ≤ n → ∀ t ∈ toks s, t.ats.length ≤ s.length
  | n, s, hn, t, ht => by
    by_cases hs : s = []
    · subst hs; simp [toks_nil] at ht
    · cases hst : step s with
      | none => rw [toks_none hst] at ht; simp at ht
      | some x =>
        obtain ⟨e, r⟩ := x
        rw [toks_some hs hst] at ht
        have hlt := step_lt hs hst
        rcases List.mem_append.1 ht with h | h
        · exact (step_good s r e hs hst t h).2
        · cases n with
          | zero => omega
          | succ n => have := toks_ats n r (by omega) t h; omega
theorem step_nm (s r : List UInt8) (e : List Tok) (h : step s = some (e, r)) : ∀ t ∈ e, t.nm.length ≤ s.length := by
  intro t ht
  unfold step at h
  split at h
  · cases h; rw [List.mem_singleton] at ht; subst ht; simp [textT]
  · cases h; rw [List.mem_singleton] at ht; subst ht; simp [noteT]
  · cases h; simp at ht
  · cases h; simp at ht
  · split at h
    · cases h
    · rename_i nm cl ats rest hta
      have g := (tagAt_suf hta).2
      rw [List.length_drop] at g
      split at h
      · cases h
        rcases List.mem_cons.1 ht with rfl | ht
        · show nm.length ≤ _; omega
        · split at ht
          · simp at ht
          · rw [List.mem_singleton] at ht; subst ht; simp [textT]
      · cases h
        rw [List.mem_singleton] at ht; subst ht; show nm.length ≤ _; omega
  · split at h
    · cases h
    · rename_i nm cl ats rest hta
      have g := (tagAt_suf hta).2
      rw [List.length_drop] at g
      cases h
      rw [List.mem_singleton] at ht; subst ht; show nm.length ≤ _; omega
theorem toks_nm : ∀ (n : Nat) (s : List UInt8), s.length ≤ n → ∀ t ∈ toks s, t.nm.length ≤ s.length
  | n, s, hn, t, ht => by
    by_cases hs : s = []
    · subst hs; simp [toks_nil] at ht
    · cases hst : step s with
      | none => rw [toks_none hst] at ht; simp at ht
      | some x =>
        obtain ⟨e, r⟩ := x
        rw [toks_some hs hst] at ht
        have hlt := step_lt hs hst
        rcases List.mem_append.1 ht with h | h
        · exact step_nm s r e hst t h
        · cases n with
          | zero => omega
          | succ n => have := toks_nm n r (by omega) t h; omega

end Go.Proofs.Ytcmkiancbgmmhaa
