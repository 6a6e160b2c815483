/- The abstract walk, twelfth part: frozen objects, plainer tellings, functions over a table. -/
import Derived.Test.YtcmkiancbgmmhaaAwB
namespace Go.Aw
set_option linter.unusedVariables false
set_option linter.unusedSimpArgs false
section
variable {P : Program} {N B : Nat}

/-- The value that stands for an object's slice once the object is frozen. -/
def frz1 (i : Nat) (ds : List (List D)) : AV → AV
  | .own j lo len => match Nat.beq i j with
    | true => .d (.sl ((ds.drop lo).take len))
    | false => .own j lo len
  | v => v
mutual
def frz (i : Nat) (ds : List (List D)) : AV → AV
  | .own j lo len => frz1 i ds (.own j lo len)
  | .agg vs => .agg (frzL i ds vs)
  | .tup vs => .tup (frzL i ds vs)
  | v => v
def frzL (i : Nat) (ds : List (List D)) : List AV → List AV
  | [] => []
  | a :: r => frz i ds a :: frzL i ds r
end
def rowsD : List (List AV) → Option (List (List D))
  | [] => some []
  | r :: rs => match toDs r, rowsD rs with
    | some x, some xs => some (x :: xs)
    | _, _ => none

theorem rowsD_get : ∀ {rs : List (List AV)} {ds : List (List D)}, rowsD rs = some ds → ds.length = rs.length ∧ ∀ (i : Nat) row, rs[i]? = some row → ∃ d, ds[i]? = some d ∧ toDs row = some d
  | [], ds, h => by cases h; exact ⟨rfl, by simp⟩
  | r :: rs, ds, h => by
    simp only [rowsD] at h
    split at h
    · rename_i x xs hx hxs
      cases h
      obtain ⟨h1, h2⟩ := rowsD_get hxs
      refine ⟨by simp [h1], fun i row hi => ?_⟩
      cases i with
      | zero => simp at hi; subst hi; exact ⟨x, by simp, hx⟩
      | succ i => simp at hi; obtain ⟨d, q1, q2⟩ := h2 i row hi; exact ⟨d, by simpa using q1, q2⟩
    · cases h
theorem toDs_length : ∀ {row : List AV} {d : List D}, toDs row = some d → d.length = row.length
  | [], d, h => by cases h; rfl
  | a :: row, d, h => by
    cases a with
    | d x => simp only [toDs, Option.map_eq_some_iff] at h; obtain ⟨e, he, rfl⟩ := h; simp [toDs_length he]
    | nil => simp only [toDs, Option.map_eq_some_iff] at h; obtain ⟨e, he, rfl⟩ := h; simp [toDs_length he]
    | _ => simp [toDs] at h

/-- Rows that lie in an immutable block. -/
theorem frozen_rows {g : Ghost} {w : World} {i : Nat} {sz : Nat × Nat} {rs : List (List AV)} {ds : List (List D)} (hob : ObRel g w i (.rows sz rs)) (hds : rowsD rs = some ds) {g' : Ghost} (hg : ∀ b, g.imm b → g'.imm b) (hb : g'.imm (g.blk i)) (lo len cap : Nat) (hcap : len ≤ cap) (hlen : lo + len ≤ rs.length) :
    RepD g'.imm w (.sl ((ds.drop lo).take len)) (.slice (some ⟨g.blk i, lo * g.sz i, none⟩) len cap) := by
  rcases hob with ⟨rfl, _, _⟩ | hob
  · have h0 : len = 0 := by simp at hlen; omega
    subst h0
    rw [List.take_zero]; exact .sl0 _ _
  obtain ⟨hk, hz, c, fr, hw, hf, hsz, hl, hrr⟩ := hob
  obtain ⟨hd1, hd2⟩ := rowsD_get hds
  have hll : ((ds.drop lo).take len).length = len := by simp; omega
  -- the value of each cell
  have hval : ∀ (r j : Nat) row d x, rs[r]? = some row → toDs row = some d → d[j]? = some x → ∃ v, c[r * g.sz i + j]? = some v ∧ RepD g'.imm w x v := by
    intro r j row d x hr hd hx
    obtain ⟨q1, q2⟩ := hrr r row hr
    obtain ⟨vs, hvl, hvs⟩ := pick_list (R := fun j a v => c[r * g.sz i + j]? = some v ∧ RepA g w a v) row (fun j a ha => by
      obtain ⟨v, hv, hra, _⟩ := q2 j a ha; exact ⟨v, hv, hra⟩)
    obtain ⟨_, hdr⟩ := toDs_ok hd (g := g) (w := w) (vs := vs) ⟨hvl.symm, fun j a u ha hu => (hvs j a u ha hu).2⟩
    have hj := lt_of_some hx
    rw [toDs_length hd] at hj
    obtain ⟨a, ha⟩ := getElem?_of_lt hj
    obtain ⟨u, hu⟩ := getElem?_of_lt (l := vs) (j := j) (by rw [hvl]; exact hj)
    exact ⟨u, (hvs j a u ha hu).1, (hdr j x u hx hu).mono fun b hb => ⟨hg b hb, rfl⟩⟩
  have hrow : ∀ (r : Nat) d, ((ds.drop lo).take len)[r]? = some d → ∃ row, rs[lo + r]? = some row ∧ toDs row = some d := by
    intro r d hr
    rw [List.getElem?_take] at hr
    split at hr
    · rw [List.getElem?_drop] at hr
      have hlt := lt_of_some hr
      rw [hd1] at hlt
      obtain ⟨row, hrow⟩ := getElem?_of_lt hlt
      obtain ⟨d', q1, q2⟩ := hd2 _ row hrow
      rw [hr] at q1
      cases q1
      exact ⟨row, hrow, q2⟩
    · cases hr
  have hgoal : RepD g'.imm w (.sl ((ds.drop lo).take len)) (.slice (some ⟨g.blk i, lo * g.sz i, none⟩) ((ds.drop lo).take len).length cap) := by
    refine .sl _ (g.blk i) (lo * g.sz i) cap (g.sz i) (fun r j => c.getD ((lo + r) * g.sz i + j) undef) hb (by omega) (fun r d hr => ?_) (fun r j d x hr hx => ?_) (fun r j d x hr hx => ?_)
    · obtain ⟨row, q1, q2⟩ := hrow r d hr
      rw [toDs_length q2]; exact (hrr _ row q1).1
    · obtain ⟨row, q1, q2⟩ := hrow r d hr
      obtain ⟨v, hv, _⟩ := hval _ j row d x q1 q2 hx
      rw [cell_at hw, show lo * g.sz i + (r * g.sz i + j) = (lo + r) * g.sz i + j by rw [Nat.add_mul]; omega, hv]
      rw [Array.getD_eq_getD_getElem?, hv]; rfl
    · obtain ⟨row, q1, q2⟩ := hrow r d hr
      obtain ⟨v, hv, hrep⟩ := hval _ j row d x q1 q2 hx
      rw [Array.getD_eq_getD_getElem?, hv]
      exact hrep
  rw [hll] at hgoal
  exact hgoal

mutual
/-- Slices of an object do not reach beyond its rows. -/
def frzOk (i n : Nat) : AV → Prop
  | .own j lo len => Nat.beq i j = true → lo + len ≤ n
  | .agg vs => frzOkL i n vs
  | .tup vs => frzOkL i n vs
  | _ => True
def frzOkL (i n : Nat) : List AV → Prop
  | [] => True
  | a :: r => frzOk i n a ∧ frzOkL i n r
end
theorem frzOkL_get {i n : Nat} : ∀ {l : List AV} {k : Nat} {a : AV}, frzOkL i n l → l[k]? = some a → frzOk i n a
  | x :: l, 0, a, h, hi => by simp at hi; subst hi; exact h.1
  | x :: l, k + 1, a, h, hi => by simp at hi; exact frzOkL_get h.2 hi
  | [], k, a, h, hi => by simp at hi
theorem frzL_get {i : Nat} {ds : List (List D)} : ∀ {l : List AV} {k : Nat} {a : AV}, (frzL i ds l)[k]? = some a → ∃ b, l[k]? = some b ∧ a = frz i ds b
  | x :: l, 0, a, h => by simp [frzL] at h; exact ⟨x, by simp, h.symm⟩
  | x :: l, k + 1, a, h => by simp [frzL] at h; obtain ⟨b, h1, h2⟩ := frzL_get h; exact ⟨b, by simpa using h1, h2⟩
  | [], k, a, h => by simp [frzL] at h
theorem frzL_length {i : Nat} {ds : List (List D)} : ∀ {l : List AV}, (frzL i ds l).length = l.length
  | [] => rfl
  | a :: l => by simp [frzL, frzL_length]

theorem frz_rep {g g' : Ghost} {w : World} {i n : Nat} {ds : List (List D)} {a : AV} {v : Value}
    (hk : Keeps g w g' w) (hz : ∀ lo len cap, len ≤ cap → lo + len ≤ n → RepD g'.imm w (.sl ((ds.drop lo).take len)) (.slice (some ⟨g.blk i, lo * g.sz i, none⟩) len cap)) (hr : RepA g w a v) : frzOk i n a → RepA g' w (frz i ds a) v := by
  induction hr with
  | own j lo len cap h hc hl =>
    intro hle
    simp only [frz, frz1]
    split
    · rename_i hij
      have e := Nat.eq_of_beq_eq_true hij
      subst e
      exact .d (hz lo len cap hl (hle hij))
    · exact (RepA.own j lo len cap h hc hl).mono hk
  | own0 j lo h =>
    intro hle
    simp only [frz, frz1]
    split
    · rw [List.take_zero]; exact .d (.sl0 _ _)
    · exact (RepA.own0 j lo h).mono hk
  | agg vs cs hl h ih =>
    intro hle
    refine .agg _ cs (by rw [frzL_length]; exact hl) (fun k a v ha hv => ?_)
    obtain ⟨b, hb, rfl⟩ := frzL_get ha
    exact ih k b v hb hv (frzOkL_get hle hb)
  | tup vs cs hl h ih =>
    intro hle
    refine .tup _ cs (by rw [frzL_length]; exact hl) (fun k a v ha hv => ?_)
    obtain ⟨b, hb, rfl⟩ := frzL_get ha
    exact ih k b v hb hv (frzOkL_get hle hb)
  | top v => exact fun _ => .top v
  | tt => exact fun _ => .tt
  | ff => exact fun _ => .ff
  | d h => exact fun _ => (RepA.d h).mono hk
  | nil => exact fun _ => .nil
  | ref i r c h => exact fun _ => (RepA.ref i r c h).mono hk
  | nilp => exact fun _ => .nilp
  | ip row c b o f hI hc hr => exact fun _ => (RepA.ip row c b o f hI hc hr).mono hk
  | tight i lo len h => exact fun _ => (RepA.tight i lo len h).mono hk
  | tight0 i lo h => exact fun _ => (RepA.tight0 i lo h).mono hk
  | dt rows a h => exact fun _ => (RepA.dt rows a h).mono hk
  | mp i h => exact fun _ => (RepA.mp i h).mono hk
  | fn f first captured vf vc hf hc rf rc ihf ihc => exact fun _ => (RepA.fn f first captured vf vc hf hc rf rc).mono hk
  | nilf => exact fun _ => .nilf
  | ifc t a v h ih => exact fun _ => (RepA.ifc t a v h).mono hk
  | nili => exact fun _ => .nili

/-- An object is frozen: its rows are data from then on. -/
theorem fin_freeze {σ0 σ : Store} {r : AV} (i : Nat) {sz : Nat × Nat} {rs : List (List AV)} {ds : List (List D)} (ho : σ.get i = .rows sz rs) (hds : rowsD rs = some ds) (hle : frzOk i rs.length r) : FinMove σ0 r σ (frz i ds r) (σ.set i .dead) := fun _ g0 g w0 w v R0 hE R hrep => by
  have hi : i < g.n := by
    rcases Nat.lt_or_ge i g.n with h | h
    · exact h
    · have := R.dead i h; rw [ho] at this; cases this
  have hob := R.ob i hi
  rw [ho] at hob
  have hob' := hob
  rcases hob' with ⟨rfl, _, _⟩ | hat
  · have hR := kill_ok R i hi
    have hX : Ext g σ w g (σ.set i .dead) w := (Ext.refl g (σ.set i .dead) w).of_kill
    refine ⟨g, hE.trans R0 hX, hR.1, frz_rep (n := 0) (Ext.refl g σ w |>.keeps R) (fun lo len cap h1 h2 => ?_) hrep hle⟩
    have : len = 0 := by omega
    subst this
    rw [List.take_zero]; exact .sl0 _ _
  · have hR := freeze_ok R i hi hat.1 (by rw [ho]; intro q; cases q)
    exact ⟨_, hE.trans R0 hR.1, hR.2, frz_rep (hR.1.keeps R) (fun lo len cap h1 h2 => frozen_rows hob hds (fun b hb => ((hR.1.keeps R).imm b hb).1) (by simp [Ghost.imm]) lo len cap h1 h2) hrep hle⟩

/-- What may stand for whatever another value stands for. -/
def Sub (a b : AV) : Prop := ∀ (g : Ghost) (w : World) (v : Value), RepA g w a v → RepA g w b v
theorem Sub.refl (a : AV) : Sub a a := fun _ _ _ h => h
theorem Sub.top (a : AV) : Sub a .top := fun _ _ v _ => .top v
theorem Sub.tt : Sub .tt (.d (.bool true)) := fun _ _ v h => by cases h; exact .d (.bool true)
theorem Sub.ff : Sub .ff (.d (.bool false)) := fun _ _ v h => by cases h; exact .d (.bool false)
theorem Sub.nil : Sub .nil (.d (.sl [])) := fun _ _ v h => by cases h; exact .d (.sl0 _ _)
theorem Sub.agg {as bs : List AV} (hl : as.length = bs.length) (h : ∀ (i : Nat) a b, as[i]? = some a → bs[i]? = some b → Sub a b) : Sub (.agg as) (.agg bs) := fun g w v hr => by
  cases hr with
  | agg _ cs hcl hcs =>
  refine .agg bs cs (by rw [← hl]; exact hcl) (fun i b u hb hu => ?_)
  obtain ⟨a, ha⟩ := getElem?_of_lt (l := as) (j := i) (by rw [hl]; exact lt_of_some hb)
  exact h i a b ha hb g w u (hcs i a u ha hu)
theorem Sub.tup {as bs : List AV} (hl : as.length = bs.length) (h : ∀ (i : Nat) a b, as[i]? = some a → bs[i]? = some b → Sub a b) : Sub (.tup as) (.tup bs) := fun g w v hr => by
  cases hr with
  | tup _ cs hcl hcs =>
  refine .tup bs cs (by rw [← hl]; exact hcl) (fun i b u hb hu => ?_)
  obtain ⟨a, ha⟩ := getElem?_of_lt (l := as) (j := i) (by rw [hl]; exact lt_of_some hb)
  exact h i a b ha hb g w u (hcs i a u ha hu)
theorem fin_sub {σ0 σ : Store} {r r' : AV} (h : Sub r r') : FinMove σ0 r σ r' σ := fun _ g0 g w0 w v R0 hE R hr => ⟨g, hE, R, h _ _ _ hr⟩


theorem bytesA_pure (s : List UInt8) : ∀ row ∈ bytesA s, pureL row = true := by
  intro row h
  simp only [bytesA, List.mem_map] at h
  obtain ⟨b, _, rfl⟩ := h
  rfl
theorem pureL_d : ∀ r : List D, pureL (r.map .d) = true
  | [] => rfl
  | x :: r => by simp [pureL, AV.pure, pureL_d r]
theorem dataA_pure (rows : List (List D)) : ∀ row ∈ rows.map (fun r => r.map AV.d), pureL row = true := by
  intro row h
  simp only [List.mem_map] at h
  obtain ⟨r, _, rfl⟩ := h
  exact pureL_d r
theorem bytesA_append (a b : List UInt8) : bytesA (a ++ b) = bytesA a ++ bytesA b := by simp [bytesA]
theorem toDs_d : ∀ r : List D, toDs (r.map .d) = some r
  | [] => rfl
  | x :: r => by simp [toDs, toDs_d r]
theorem rowsD_d : ∀ rows : List (List D), rowsD (rows.map fun r => r.map .d) = some rows
  | [] => rfl
  | r :: rows => by simp [rowsD, toDs_d, rowsD_d rows]

theorem rowsOne {n : Nat} {row : List AV} (h : row.length = n) (h1 : row.all AV.one = true) : ∀ r ∈ [row], r.length = n ∧ ∀ a ∈ r, a.one = true := by
  intro r hr
  simp only [List.mem_singleton] at hr
  subst hr
  exact ⟨h, fun a ha => List.all_eq_true.1 h1 a ha⟩
theorem rowsNone {n : Nat} : ∀ r ∈ ([] : List (List AV)), r.length = n ∧ ∀ a ∈ r, a.one = true := by
  intro r hr; cases hr
theorem bytesRows (s : List UInt8) : ∀ r ∈ bytesA s, r.length = 1 ∧ ∀ a ∈ r, a.one = true := by
  intro r h
  simp only [bytesA, List.mem_map] at h
  obtain ⟨b, _, rfl⟩ := h
  exact ⟨rfl, by intro a ha; simp at ha; subst ha; rfl⟩
theorem dataRows {n : Nat} {rows : List (List D)} (h : ∀ r ∈ rows, r.length = n) : ∀ r ∈ rows.map (fun r => r.map AV.d), r.length = n ∧ ∀ a ∈ r, a.one = true := by
  intro r hr
  simp only [List.mem_map] at hr
  obtain ⟨x, hx, rfl⟩ := hr
  refine ⟨by simp [h x hx], fun a ha => ?_⟩
  simp only [List.mem_map] at ha
  obtain ⟨y, _, rfl⟩ := ha
  rfl
theorem takeAll {α : Type} {l : List α} {n : Nat} (h : l.length = n) : (l.drop 0).take n = l := by subst h; simp
theorem bytesA_len (s : List UInt8) : (bytesA s).length = s.length := by simp [bytesA]

/-- A FUNCTION, walked, over a table that is written out. -/
theorem fn_okT (hw : wfP P = true) {T : List TI} (hT : tabOf P = T) {f : FuncId} {fn : Func} {c : Code} {args : List AV} {σ : Store} {R : AV → Store → Prop} (hf : P.funcs[f]? = some fn) (hn : (fn.name == "runtime.NumGoroutine") = false) (hb : fn.body = some c) (hN : Nat.ble args.length fn.ntmps = true)
    (h : awp T P fn.ntmps σ.n c (aret T fn fun r σ1 => ∃ r' σ', FinMove σ r σ1 r' σ' ∧ R r' σ') (initS 0 args) σ) : CallsAbs P f args σ R := by
  subst hT; exact .inl (Enters.fin (fn_ok hw hf hn hb (Nat.le_of_ble_eq_true hN) h))
theorem fn_okTE (hw : wfP P = true) {T : List TI} (hT : tabOf P = T) {f : FuncId} {fn : Func} {c : Code} {args : List AV} {σ : Store} {R : AV → Store → Prop} (hf : P.funcs[f]? = some fn) (hn : (fn.name == "runtime.NumGoroutine") = false) (hb : fn.body = some c) (hN : Nat.ble args.length fn.ntmps = true)
    (h : E P fn.ntmps σ.n c (aret T fn fun r σ1 => ∃ r' σ', FinMove σ r σ1 r' σ' ∧ R r' σ') (initS 0 args) σ) : CallsAbs P f args σ R := by
  subst hT; exact .inl (Enters.fin (fn_okE hw hf hn hb (Nat.le_of_ble_eq_true hN) h))
/-- A PURE FUNCTION, walked: its own objects are forgotten. -/
theorem pure_okT (hw : wfP P = true) {T : List TI} (hT : tabOf P = T) {f : FuncId} {fn : Func} {c : Code} {args : List AV} {r : AV} (hf : P.funcs[f]? = some fn) (hn : (fn.name == "runtime.NumGoroutine") = false) (hb : fn.body = some c) (hN : Nat.ble args.length fn.ntmps = true) (ha : pureL args = true) (hr : r.pure = true)
    (h : awp T P fn.ntmps 0 c (aret T fn fun r1 σ1 => ∃ r2 σ2, FinMove ⟨0, []⟩ r1 σ1 r2 σ2 ∧ r2 = r) (initS 0 args) ⟨0, []⟩) : PureC P f args r := by
  subst hT
  refine PureC.of ha hr (.inl (Enters.fin ((fn_ok hw hf hn hb (Nat.le_of_ble_eq_true hN) h).mono fun r1 σ1 ⟨r2, σ2, hm, he⟩ => ?_)))
  subst he
  exact ⟨r2, ⟨0, []⟩, hm.trans (fin_view (σ0 := ⟨0, []⟩) [] ⟨Nat.zero_le _, rfl, rfl, trivial⟩ (vrel_self r2 hr)), rfl, rfl⟩

end
end Go.Aw
