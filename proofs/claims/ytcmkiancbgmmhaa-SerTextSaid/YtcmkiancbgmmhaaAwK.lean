/- The abstract walk, twentieth part: a pure function called on mutable objects, which it only reads. -/
import Derived.Test.YtcmkiancbgmmhaaAwG
namespace Go.Aw
set_option linter.unusedVariables false
set_option linter.unusedSimpArgs false

def optL {α β : Type} (f : α → Option β) : List α → Option (List β)
  | [] => some []
  | a :: r => match f a, optL f r with
    | some x, some xs => some (x :: xs)
    | _, _ => none
theorem optL_get {α β : Type} {f : α → Option β} : ∀ {l : List α} {m : List β}, optL f l = some m → m.length = l.length ∧ ∀ (i : Nat) a, l[i]? = some a → ∃ b, m[i]? = some b ∧ f a = some b
  | [], m, h => by cases h; exact ⟨rfl, by simp⟩
  | a :: r, m, h => by
    simp only [optL] at h
    split at h
    · rename_i x xs hx hxs
      cases h
      obtain ⟨h1, h2⟩ := optL_get hxs
      refine ⟨by simp [h1], fun i b hi => ?_⟩
      cases i with
      | zero => simp at hi; subst hi; exact ⟨x, by simp, hx⟩
      | succ i => simp at hi; simpa using h2 i b hi
    · cases h
theorem optL_app {α β : Type} {f : α → Option β} : ∀ {a b : List α} {x y : List β}, optL f a = some x → optL f b = some y → optL f (a ++ b) = some (x ++ y)
  | [], b, x, y, h, k => by cases h; exact k
  | a :: r, b, x, y, h, k => by
    simp only [optL] at h
    split at h
    · rename_i u us hu hus
      cases h
      simp only [List.cons_append, optL, hu, optL_app hus k]
    · cases h
theorem optL_map {α β γ : Type} {f : β → Option γ} {g : α → β} {h : α → γ} (hh : ∀ a, f (g a) = some (h a)) : ∀ l : List α, optL f (l.map g) = some (l.map h)
  | [] => rfl
  | a :: r => by simp only [List.map_cons, optL, hh, optL_map hh r]

def seeP : AV → Option D
  | .d x => some x
  | .tt => some (.bool true)
  | .ff => some (.bool false)
  | .nil => some (.sl [])
  | .dt rows => some (.sl rows)
  | _ => none
def seeO (f : List (List AV) → Option (List (List D))) (o : Ob) (lo len : Nat) : Option D := match o with
  | .rows _ rs => match f rs with
    | some ds => (match Nat.ble (lo + len) rs.length with | true => some (.sl ((ds.drop lo).take len)) | false => none)
    | none => none
  | _ => none
/-- A value, as it is seen by one that only reads. -/
def seeD (σ : Store) : Nat → AV → Option D
  | 0, a => seeP a
  | n + 1, a => match a with
    | .own i lo len => seeO (optL (optL (seeD σ n))) (σ.get i) lo len
    | .tight i lo len => seeO (optL (optL (seeD σ n))) (σ.get i) lo len
    | a => seeP a
def seeV (σ : Store) (n : Nat) : AV → Option AV
  | .agg vs => (optL (seeD σ n) vs).map fun l => .agg (l.map .d)
  | .ref i r 0 => match σ.get i with
    | .rows _ rs => (match rs[r]? with | some row => (optL (seeD σ n) row).map fun l => .ip l 0 | none => none)
    | _ => none
  | .nilp => some .nilp
  | .fn f [] [] => some (.fn f [] [])
  | a => (seeD σ n a).map .d
theorem seeD_d (σ : Store) (n : Nat) (x : D) : seeD σ n (.d x) = some x := by cases n <;> rfl
theorem see_row (σ : Store) (n : Nat) (r : List D) : optL (seeD σ n) (r.map .d) = some r := by
  have := optL_map (f := seeD σ n) (g := AV.d) (h := id) (fun x => seeD_d σ n x) r
  simpa using this
theorem see_rows (σ : Store) (n : Nat) (rs : List (List D)) : optL (optL (seeD σ n)) (rs.map fun r => r.map .d) = some rs := by
  have := optL_map (f := optL (seeD σ n)) (g := fun r : List D => r.map AV.d) (h := id) (fun r => see_row σ n r) rs
  simpa using this
theorem see_own {σ : Store} {n i len : Nat} {sz : Nat × Nat} {ds : List (List D)} (h : σ.get i = .rows sz (ds.map fun r => r.map .d)) (hl : len = ds.length) : seeD σ (n + 1) (.own i 0 len) = some (.sl ds) := by
  simp only [seeD, seeO, h, see_rows, List.length_map]
  rw [hl, Nat.zero_add, Nat.ble_eq_true_of_le (Nat.le_refl _)]
  simp

section
variable {P : Program}

theorem allImm_imm {g : Ghost} {σ : Store} {w : World} (R : StoreRel P g σ w) {b : Nat} (h : g.kind b ≠ .free) : (allImm w).imm b := by
  show (if b < w.heap.size then Kind.imm else .free) = .imm
  rw [if_pos (R.lt b h)]

theorem seen_rows {g : Ghost} {w : World} {i : Nat} {sz : Nat × Nat} {rs : List (List AV)} {ds : List (List D)} {I : Nat → Prop} (hob : ObRel g w i (.rows sz rs)) (hlen : ds.length = rs.length)
    (hds : ∀ (r : Nat) row, rs[r]? = some row → ∃ d, ds[r]? = some d ∧ d.length = row.length ∧ ∀ (j : Nat) a, row[j]? = some a → ∃ x, d[j]? = some x ∧ ∀ v, RepA g w a v → RepD I w x v)
    (hI : ∀ b, g.kind b ≠ .free → I b) (lo len cap : Nat) (hcap : len ≤ cap) (hle : lo + len ≤ rs.length) :
    RepD I w (.sl ((ds.drop lo).take len)) (.slice (some ⟨g.blk i, lo * g.sz i, none⟩) len cap) := by
  rcases hob with ⟨rfl, _, _⟩ | hob
  · have h0 : len = 0 := by simp at hle; omega
    subst h0
    rw [List.take_zero]; exact .sl0 _ _
  obtain ⟨hk, hz, c, fr, hw, hf, hsz, hl, hrr⟩ := hob
  have hll : ((ds.drop lo).take len).length = len := by simp; omega
  have hval : ∀ (r j : Nat) d x, ds[r]? = some d → d[j]? = some x → ∃ v, c[r * g.sz i + j]? = some v ∧ RepD I w x v := by
    intro r j d x hr hx
    obtain ⟨row, hrow⟩ := getElem?_of_lt (l := rs) (j := r) (by rw [← hlen]; exact lt_of_some hr)
    obtain ⟨d', q1, q2, q3⟩ := hds r row hrow
    rw [hr] at q1; cases q1
    obtain ⟨a, ha⟩ := getElem?_of_lt (l := row) (j := j) (by rw [← q2]; exact lt_of_some hx)
    obtain ⟨x', p1, p2⟩ := q3 j a ha
    rw [hx] at p1; cases p1
    obtain ⟨v, hv, hra, _⟩ := (hrr r row hrow).2 j a ha
    exact ⟨v, hv, p2 v hra⟩
  have hrow : ∀ (r : Nat) d, ((ds.drop lo).take len)[r]? = some d → ds[lo + r]? = some d := by
    intro r d hr
    rw [List.getElem?_take] at hr
    split at hr
    · rw [List.getElem?_drop] at hr; exact hr
    · cases hr
  have hgoal : RepD I w (.sl ((ds.drop lo).take len)) (.slice (some ⟨g.blk i, lo * g.sz i, none⟩) ((ds.drop lo).take len).length cap) := by
    refine .sl _ (g.blk i) (lo * g.sz i) cap (g.sz i) (fun r j => c.getD ((lo + r) * g.sz i + j) undef) (hI _ (by rw [hk]; intro e; cases e)) (by omega) (fun r d hr => ?_) (fun r j d x hr hx => ?_) (fun r j d x hr hx => ?_)
    · have q1 := hrow r d hr
      obtain ⟨row, hrow2⟩ := getElem?_of_lt (l := rs) (j := lo + r) (by rw [← hlen]; exact lt_of_some q1)
      obtain ⟨d', p1, p2, _⟩ := hds _ row hrow2
      rw [q1] at p1; cases p1
      rw [p2]; exact (hrr _ row hrow2).1
    · obtain ⟨v, hv, _⟩ := hval _ j d x (hrow r d hr) hx
      rw [cell_at hw, show lo * g.sz i + (r * g.sz i + j) = (lo + r) * g.sz i + j by rw [Nat.add_mul]; omega, hv]
      rw [Array.getD_eq_getD_getElem?, hv]; rfl
    · obtain ⟨v, hv, hrep⟩ := hval _ j d x (hrow r d hr) hx
      rw [Array.getD_eq_getD_getElem?, hv]
      exact hrep
  rw [hll] at hgoal
  exact hgoal

theorem seeP_ok {g : Ghost} {σ : Store} {w : World} (R : StoreRel P g σ w) {a : AV} {x : D} {v : Value} (h : seeP a = some x) (hr : RepA g w a v) : RepD (allImm w).imm w x v := by
  have hm : ∀ {x : D} {v : Value}, RepD g.imm w x v → RepD (allImm w).imm w x v := fun h => h.mono fun b hb => ⟨allImm_imm R (by have hb' : g.kind b = .imm := hb; rw [hb']; intro e; cases e), rfl⟩
  cases hr <;> first | (cases h; done) | skip
  · cases h; exact .bool _
  · cases h; exact .bool _
  · rename_i hx; cases h; exact hm hx
  · cases h; exact .sl0 _ _
  · rename_i hx; cases h; exact hm hx
theorem seeD_ok {g : Ghost} {σ : Store} {w : World} (R : StoreRel P g σ w) : ∀ (n : Nat) {a : AV} {x : D} {v : Value}, seeD σ n a = some x → RepA g w a v → RepD (allImm w).imm w x v
  | 0, a, x, v, h, hr => seeP_ok R h hr
  | n + 1, a, x, v, h, hr => by
    have hO : ∀ {i lo len : Nat} {x : D} (cap : Nat), len ≤ cap → seeO (optL (optL (seeD σ n))) (σ.get i) lo len = some x → i < g.n → RepD (allImm w).imm w x (.slice (some ⟨g.blk i, lo * g.sz i, none⟩) len cap) ∧ (len = 0 → x = .sl []) := by
      intro i lo len x cap hcap h hi
      unfold seeO at h
      split at h
      · rename_i sz rs ho
        split at h
        · rename_i ds hds
          split at h
          · rename_i hb
            cases h
            obtain ⟨h1, h2⟩ := optL_get hds
            have hob := R.ob i hi
            rw [ho] at hob
            refine ⟨seen_rows hob h1 (fun r row hr => ?_) (fun b hb => allImm_imm R hb) lo len cap hcap (Nat.le_of_ble_eq_true hb), fun h0 => by rw [h0, List.take_zero]⟩
            obtain ⟨d, q1, q2⟩ := h2 r row hr
            obtain ⟨p1, p2⟩ := optL_get q2
            refine ⟨d, q1, p1, fun j a ha => ?_⟩
            obtain ⟨x, w1, w2⟩ := p2 j a ha
            exact ⟨x, w1, fun v hv => seeD_ok R n w2 hv⟩
          · cases h
        · cases h
      · cases h
    cases hr with
    | own i lo len cap hi hc hl => exact (hO cap hl h hi).1
    | own0 i lo hi => rw [(hO 0 (Nat.le_refl _) h hi).2 rfl]; exact .sl0 _ _
    | tight i lo len hi => exact (hO len (Nat.le_refl _) h hi).1
    | tight0 i lo hi => rw [(hO 0 (Nat.le_refl _) h hi).2 rfl]; exact .sl0 _ _
    | top v => exact seeP_ok (g := g) (w := w) (a := .top) R h (.top v)
    | tt => exact seeP_ok (g := g) (w := w) (a := .tt) R h .tt
    | ff => exact seeP_ok (g := g) (w := w) (a := .ff) R h .ff
    | d hx => exact seeP_ok (g := g) (w := w) (a := .d _) R h (.d hx)
    | nil => exact seeP_ok (g := g) (w := w) (a := .nil) R h .nil
    | ref i r c hi => exact seeP_ok (g := g) (w := w) (a := .ref i r c) R h (.ref i r c hi)
    | nilp => exact seeP_ok (g := g) (w := w) (a := .nilp) R h .nilp
    | ip row c b o f hI hc hr => exact seeP_ok (g := g) (w := w) (a := .ip row c) R h (.ip row c b o f hI hc hr)
    | dt rows a hx => exact seeP_ok (g := g) (w := w) (a := .dt rows) R h (.dt rows a hx)
    | mp i hi => exact seeP_ok (g := g) (w := w) (a := .mp i) R h (.mp i hi)
    | fn f first captured vf vc hf hc rf rc => exact seeP_ok (g := g) (w := w) (a := .fn f first captured) R h (.fn f first captured vf vc hf hc rf rc)
    | nilf => exact seeP_ok (g := g) (w := w) (a := .nilf) R h .nilf
    | ifc t a v hx => exact seeP_ok (g := g) (w := w) (a := .ifc t a) R h (.ifc t a v hx)
    | nili => exact seeP_ok (g := g) (w := w) (a := .nili) R h .nili
    | agg vs cs hl hx => exact seeP_ok (g := g) (w := w) (a := .agg vs) R h (.agg vs cs hl hx)
    | tup vs cs hl hx => exact seeP_ok (g := g) (w := w) (a := .tup vs) R h (.tup vs cs hl hx)
theorem seeV_ok {g : Ghost} {σ : Store} {w : World} (R : StoreRel P g σ w) {n : Nat} {a a' : AV} {v : Value} (h : seeV σ n a = some a') (hr : RepA g w a v) : RepA (allImm w) w a' v := by
  unfold seeV at h
  split at h
  · rename_i vs
    rw [Option.map_eq_some_iff] at h
    obtain ⟨l, hl, rfl⟩ := h
    cases hr with
    | agg _ cs hlen hx =>
      obtain ⟨h1, h2⟩ := optL_get hl
      refine .agg _ cs (by simp [h1, hlen]) fun i b u hb hu => ?_
      rw [List.getElem?_map, Option.map_eq_some_iff] at hb
      obtain ⟨x, hx', rfl⟩ := hb
      obtain ⟨c, hc⟩ := getElem?_of_lt (l := vs) (j := i) (by rw [← h1]; exact lt_of_some hx')
      obtain ⟨y, q1, q2⟩ := h2 i c hc
      rw [hx'] at q1; cases q1
      exact .d (seeD_ok R n q2 (hx i c u hc hu))
  · rename_i i r
    split at h
    · rename_i sz rs ho
      split at h
      · rename_i row hrow
        rw [Option.map_eq_some_iff] at h
        obtain ⟨l, hl, rfl⟩ := h
        cases hr with
        | ref _ _ _ hi =>
          have hob := R.ob i hi
          rw [ho] at hob
          obtain ⟨hk, hz, c, fr, hw, hf, hsz, hle, hrr⟩ := hob.at hrow
          obtain ⟨p1, p2⟩ := hrr r row hrow
          obtain ⟨h1, h2⟩ := optL_get hl
          have hcell : ∀ (j : Nat) x, l[j]? = some x → ∃ v, c[r * g.sz i + j]? = some v ∧ RepD (allImm w).imm w x v := by
            intro j x hx
            obtain ⟨a, ha⟩ := getElem?_of_lt (l := row) (j := j) (by rw [← h1]; exact lt_of_some hx)
            obtain ⟨y, q1, q2⟩ := h2 j a ha
            rw [hx] at q1; cases q1
            obtain ⟨v, hv, hra, _⟩ := p2 j a ha
            exact ⟨v, hv, seeD_ok R n q2 hra⟩
          refine .ip l 0 (g.blk i) (r * g.sz i + 0) (fun j => c.getD (r * g.sz i + j) undef) (allImm_imm R (by rw [hk]; intro e; cases e)) (fun j x hx => ?_) (fun j x hx => ?_)
          · obtain ⟨v, hv, _⟩ := hcell j x hx
            rw [Nat.add_zero, cell_at hw, hv, Array.getD_eq_getD_getElem?, hv]; rfl
          · obtain ⟨v, hv, hd⟩ := hcell j x hx
            rw [Array.getD_eq_getD_getElem?, hv]; exact hd
      · cases h
    · cases h
  · cases h; cases hr; exact .nilp
  · cases h
    cases hr with
    | fn f0 first captured vf vc hf hc rf rc => exact .fn _ [] [] vf vc hf hc (by simp) (by simp)
  · rw [Option.map_eq_some_iff] at h
    obtain ⟨x, hx, rfl⟩ := h
    exact .d (seeD_ok R n hx hr)

/-- Values that name no block at all. -/
def flatD : D → Bool
  | .sl _ => false
  | _ => true
mutual
def AV.flat : AV → Bool
  | .d x => flatD x
  | .tt => true
  | .ff => true
  | .nil => true
  | .nilp => true
  | .nili => true
  | .tup vs => flatL vs
  | .agg vs => flatL vs
  | _ => false
def flatL : List AV → Bool
  | [] => true
  | a :: r => a.flat && flatL r
end
theorem flatL_get : ∀ {l : List AV} {i : Nat} {a : AV}, flatL l = true → l[i]? = some a → a.flat = true
  | x :: l, 0, a, h, hi => by simp [flatL] at h hi; subst hi; exact h.1
  | x :: l, i + 1, a, h, hi => by simp [flatL] at h hi; exact flatL_get h.2 hi
theorem flat_rep {g g' : Ghost} {w w' : World} {a : AV} {v : Value} (hr : RepA g w a v) : a.flat = true → RepA g' w' a v := by
  induction hr with
  | tt => exact fun _ => .tt
  | ff => exact fun _ => .ff
  | d h =>
    intro hf
    cases h with
    | bool b => exact .d (.bool b)
    | int k n => exact .d (.int k n)
    | str s => exact .d (.str s)
    | sl0 => cases hf
    | sl => cases hf
  | nil => exact fun _ => .nil
  | nilp => exact fun _ => .nilp
  | nili => exact fun _ => .nili
  | agg vs cs hl h ih => exact fun hf => .agg vs cs hl (fun i a v ha hv => ih i a v ha hv (flatL_get hf ha))
  | tup vs cs hl h ih => exact fun hf => .tup vs cs hl (fun i a v ha hv => ih i a v ha hv (flatL_get hf ha))
  | _ => exact fun hf => absurd hf (by simp [AV.flat])

theorem allImm_after {g g1 : Ghost} {σ σ1 : Store} {w w1 : World} (R : StoreRel P g σ w) (hE : Ext (allImm w) ⟨0, []⟩ w g1 σ1 w1) : Ext g σ w g σ w1 ∧ StoreRel P g σ w1 := by
  have hh : ∀ b, b < w.heap.size → w1.heap[b]? = w.heap[b]? := fun b hb => (hE.keep b hb (fun i hi => by simp only [allImm] at hi; split at hi <;> cases hi)).2
  have hk : Keeps g w g w1 := ⟨Nat.le_refl _, fun _ _ => ⟨rfl, rfl, rfl⟩, fun b hb => ⟨hb, hh b (R.lt b (by have hb' : g.kind b = .imm := hb; rw [hb']; intro e; cases e))⟩⟩
  refine ⟨⟨Nat.le_refl _, fun _ _ => ⟨rfl, rfl, rfl⟩, fun _ _ h => h, hE.size, fun b hb _ => ⟨rfl, hh b hb⟩, hE.os, hE.tape, hE.output⟩, ⟨R.n, fun b hb => Nat.lt_of_lt_of_le (R.lt b hb) hE.size, R.owner, R.dead, fun i hi => ?_, glob_keep hk R.glob⟩⟩
  exact (R.ob i hi).mono hk hi fun b hb => ⟨hb, hh b (R.lt b (by rw [hb]; intro e; cases e))⟩

/-- A PURE FUNCTION ON WHAT IS MUTABLE: it only reads. -/
theorem PureC.borrow {f : FuncId} {args args' : List AV} {r : AV} {σ : Store} (n : Nat) (h : PureC P f args' r) (hf : r.flat = true) (hs : optL (seeV σ n) args = some args') : CallsAbs P f args σ fun r' σ' => r' = r ∧ σ' = σ := by
  obtain ⟨h1, h2⟩ := optL_get hs
  have hargs : ∀ {g : Ghost} {w : World} {vs : List Value}, StoreRel P g σ w → RepL g w args vs → RepL (allImm w) w args' vs := by
    intro g w vs R hL
    refine ⟨h1.trans hL.1, fun i a v ha hv => ?_⟩
    obtain ⟨c, hc⟩ := getElem?_of_lt (l := args) (j := i) (by rw [← h1]; exact lt_of_some ha)
    obtain ⟨y, q1, q2⟩ := h2 i c hc
    rw [ha] at q1; cases q1
    exact seeV_ok R q2 (hL.2 i c v hc hv)
  rcases h ⟨0, []⟩ with h | ⟨fn, e, k1, k2, k3, k4, k5, k6⟩
  · refine .inl ⟨h.1, fun g w vs R hL => (h.2 (allImm w) w vs (allImm_rel w fun x hx => (R.glob x hx).2) (hargs R hL)).mono fun e w1 ⟨v, g1, σ1, r1, he, hE, hR, hr, h1, h2⟩ => ?_⟩
    subst h1
    obtain ⟨q1, q2⟩ := allImm_after R hE
    exact ⟨v, g, σ, r1, he, q1, q2, flat_rep hr hf, rfl, rfl⟩
  · refine .inr ⟨fn, e, k1, k2, k3, k4, k5, fun g w vs R hL => ?_⟩
    have := k6 (allImm w) w vs (allImm_rel w fun x hx => (R.glob x hx).2) (hargs R hL)
    cases hx : (e vs.toArray).run P w with
    | ok v w1 =>
      rw [hx] at this
      obtain ⟨g1, σ1, r1, hE, hR, hr, h1, h2⟩ := this
      subst h1
      obtain ⟨q1, q2⟩ := allImm_after R hE
      exact ⟨g, σ, r1, q1, q2, flat_rep hr hf, rfl, rfl⟩
    | halt x w1 => rw [hx] at this; exact this.elim

end
end Go.Aw
