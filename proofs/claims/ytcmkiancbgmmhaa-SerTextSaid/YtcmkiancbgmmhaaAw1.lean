/- The abstract walk, first part: values by content, a small store of mutable objects, and what of the machine's memory they stand for. -/
import Derived.Calls
import Derived.KernelRfl
import Derived.Laws.Sem
import Derived.Laws.World
import Derived.Laws.Cells
import Derived.Below
namespace Go.Aw
set_option linter.unusedVariables false
set_option linter.unusedSimpArgs false

/-- Pure data: one cell, a slice by its content. -/
inductive D where
  | bool (b : Bool)
  | int (k : IntKind) (n : Int)
  | str (s : List UInt8)
  | sl (rows : List (List D))
  deriving Inhabited

/-- A value of the abstract walk. -/
inductive AV where
  | top
  | tt
  | ff
  | d (x : D)
  | nil
  | ref (i r c : Nat)
  | nilp
  | ip (row : List D) (c : Nat)
  | own (i lo len : Nat)
  | tight (i lo len : Nat)
  | dt (rows : List (List D))
  | mp (i : Nat)
  | fn (f : Fn) (first captured : List AV)
  | nilf
  | ifc (t : TypeId) (v : AV)
  | nili
  | agg (vs : List AV)
  | tup (vs : List AV)
  deriving Inhabited

/-- A mutable object. -/
inductive Ob where
  | dead
  | rows (sz : Nat × Nat) (rs : List (List AV))
  | map (es : List (AV × AV))
  | iter (s : List UInt8) (pos : Nat)
  | bld (T U : TypeId) (s : List UInt8)
  | two (T : TypeId) (a b : AV)
  deriving Inhabited

structure Store where
  n : Nat
  objs : List (Nat × Ob)

/-- The newest entry of a key. -/
def look {α : Type} (dflt : α) : List (Nat × α) → Nat → α
  | [], _ => dflt
  | (j, v) :: r, t => match Nat.beq j t with
    | true => v
    | false => look dflt r t

abbrev Store.get (σ : Store) (i : Nat) : Ob := look .dead σ.objs i
abbrev Store.set (σ : Store) (i : Nat) (o : Ob) : Store := ⟨σ.n, (i, o) :: σ.objs⟩
abbrev Store.add (σ : Store) (o : Ob) : Store := ⟨σ.n + 1, (σ.n, o) :: σ.objs⟩

theorem look_cons_same {α : Type} (d : α) (j : Nat) (v : α) (r : List (Nat × α)) : look d ((j, v) :: r) j = v := by
  simp [look, Nat.beq_refl]
theorem look_cons_ne {α : Type} (d : α) {j t : Nat} (v : α) (r : List (Nat × α)) (h : j ≠ t) : look d ((j, v) :: r) t = look d r t := by
  have : Nat.beq j t = false := by
    cases hb : Nat.beq j t with
    | false => rfl
    | true => exact absurd (Nat.eq_of_beq_eq_true hb) h
  simp [look, this]
theorem look_cons {α : Type} (d : α) (j t : Nat) (v : α) (r : List (Nat × α)) : look d ((j, v) :: r) t = if j = t then v else look d r t := by
  by_cases h : j = t
  · subst h; simp [look_cons_same]
  · rw [if_neg h, look_cons_ne _ _ _ h]

inductive Kind where
  | free
  | imm
  | own (i : Nat)

/-- Where the objects lie, and what each block is. -/
structure Ghost where
  n : Nat
  blk : Nat → Nat
  sz : Nat → Nat
  cap : Nat → Nat
  kind : Nat → Kind

abbrev Ghost.imm (g : Ghost) (b : Nat) : Prop := g.kind b = .imm

inductive RepD (I : Nat → Prop) (w : World) : D → Value → Prop
  | bool (b : Bool) : RepD I w (.bool b) (.bool b)
  | int (k : IntKind) (n : Int) : RepD I w (.int k n) (.int k n)
  | str (s : List UInt8) : RepD I w (.str s) (.string ⟨s.toArray⟩)
  | sl0 (a : Option Addr) (cap : Nat) : RepD I w (.sl []) (.slice a 0 cap)
  | sl (rows : List (List D)) (b o cap sz : Nat) (f : Nat → Nat → Value) (hI : I b) (hcap : rows.length ≤ cap)
      (hsz : ∀ (i : Nat) row, rows[i]? = some row → row.length = sz)
      (hc : ∀ (i j : Nat) row x, rows[i]? = some row → row[j]? = some x → w.cell? ⟨b, o + (i * sz + j), none⟩ = some (f i j))
      (hr : ∀ (i j : Nat) row x, rows[i]? = some row → row[j]? = some x → RepD I w x (f i j)) :
      RepD I w (.sl rows) (.slice (some ⟨b, o, none⟩) rows.length cap)

inductive RepA (g : Ghost) (w : World) : AV → Value → Prop
  | top (v : Value) : RepA g w .top v
  | tt : RepA g w .tt (.bool true)
  | ff : RepA g w .ff (.bool false)
  | d {x : D} {v : Value} (h : RepD g.imm w x v) : RepA g w (.d x) v
  | nil : RepA g w .nil (.slice none 0 0)
  | ref (i r c : Nat) (h : i < g.n) : RepA g w (.ref i r c) (.pointer (some ⟨g.blk i, r * g.sz i + c, none⟩))
  | nilp : RepA g w .nilp (.pointer none)
  | ip (row : List D) (c b o : Nat) (f : Nat → Value) (hI : g.imm b) (hc : ∀ (j : Nat) x, row[j]? = some x → w.cell? ⟨b, o + j, none⟩ = some (f j))
      (hr : ∀ (j : Nat) x, row[j]? = some x → RepD g.imm w x (f j)) : RepA g w (.ip row c) (.pointer (some ⟨b, o + c, none⟩))
  | own (i lo len cap : Nat) (h : i < g.n) (hc : lo + cap = g.cap i) (hl : len ≤ cap) : RepA g w (.own i lo len) (.slice (some ⟨g.blk i, lo * g.sz i, none⟩) len cap)
  | own0 (i lo : Nat) (h : i < g.n) : RepA g w (.own i lo 0) (.slice none 0 0)
  | tight (i lo len : Nat) (h : i < g.n) : RepA g w (.tight i lo len) (.slice (some ⟨g.blk i, lo * g.sz i, none⟩) len len)
  | tight0 (i lo : Nat) (h : i < g.n) : RepA g w (.tight i lo 0) (.slice none 0 0)
  | dt (rows : List (List D)) (a : Option Addr) (h : RepD g.imm w (.sl rows) (.slice a rows.length rows.length)) : RepA g w (.dt rows) (.slice a rows.length rows.length)
  | mp (i : Nat) (h : i < g.n) : RepA g w (.mp i) (.map (some (g.blk i)))
  | fn (f : Fn) (first captured : List AV) (vf vc : Array Value) (hf : first.length = vf.size) (hc : captured.length = vc.size)
      (rf : ∀ (i : Nat) a v, first[i]? = some a → vf[i]? = some v → RepA g w a v) (rc : ∀ (i : Nat) a v, captured[i]? = some a → vc[i]? = some v → RepA g w a v) :
      RepA g w (.fn f first captured) (.func f vf vc)
  | nilf : RepA g w .nilf .nilFunc
  | ifc (t : TypeId) (a : AV) (v : Value) (h : RepA g w a v) : RepA g w (.ifc t a) (.iface t v)
  | nili : RepA g w .nili .nilIface
  | agg (vs : List AV) (cs : Array Value) (hl : vs.length = cs.size) (h : ∀ (i : Nat) a v, vs[i]? = some a → cs[i]? = some v → RepA g w a v) : RepA g w (.agg vs) (.agg cs)
  | tup (vs : List AV) (cs : Array Value) (hl : vs.length = cs.size) (h : ∀ (i : Nat) a v, vs[i]? = some a → cs[i]? = some v → RepA g w a v) : RepA g w (.tup vs) (.tuple cs)

/-- Values side by side. -/
def RepL (g : Ghost) (w : World) (as : List AV) (vs : List Value) : Prop :=
  as.length = vs.length ∧ ∀ (i : Nat) a v, as[i]? = some a → vs[i]? = some v → RepA g w a v

theorem RepL.nil {g : Ghost} {w : World} : RepL g w [] [] := ⟨rfl, by simp⟩
theorem RepL.cons {g : Ghost} {w : World} {a : AV} {v : Value} {as : List AV} {vs : List Value} (h : RepA g w a v) (hs : RepL g w as vs) : RepL g w (a :: as) (v :: vs) := by
  refine ⟨by simp [hs.1], fun i b u hb hu => ?_⟩
  cases i with
  | zero => simp at hb hu; subst hb; subst hu; exact h
  | succ i => simp at hb hu; exact hs.2 i b u hb hu
theorem RepL.uncons {g : Ghost} {w : World} {a : AV} {as : List AV} {vs : List Value} (h : RepL g w (a :: as) vs) : ∃ v r, vs = v :: r ∧ RepA g w a v ∧ RepL g w as r := by
  cases vs with
  | nil => have := h.1; simp at this
  | cons v r =>
    refine ⟨v, r, rfl, h.2 0 a v (by simp) (by simp), by have := h.1; simpa using this, fun i b u hb hu => h.2 (i + 1) b u (by simpa using hb) (by simpa using hu)⟩
theorem RepL.unnil {g : Ghost} {w : World} {vs : List Value} (h : RepL g w [] vs) : vs = [] := by
  have := h.1; cases vs <;> simp_all
theorem RepL.append {g : Ghost} {w : World} {as bs : List AV} {vs us : List Value} (h : RepL g w as vs) (k : RepL g w bs us) : RepL g w (as ++ bs) (vs ++ us) := by
  induction as generalizing vs with
  | nil => rw [h.unnil]; simpa using k
  | cons a as ih => obtain ⟨v, r, rfl, ha, hr⟩ := h.uncons; exact RepL.cons ha (ih hr)
theorem RepL.len {g : Ghost} {w : World} {as : List AV} {vs : List Value} (h : RepL g w as vs) : as.length = vs.length := h.1

/-- Rows in a block of their own. -/
def RowsAt (g : Ghost) (w : World) (i : Nat) (sz : Nat × Nat) (rs : List (List AV)) : Prop :=
  g.kind (g.blk i) = .own i ∧ g.sz i = sz.1 ∧ ∃ c fr, w.heap[g.blk i]? = some (.cells c sz.2 fr) ∧ (∀ o, o < c.size → ¬ (fr.1 ≤ o ∧ o < fr.2)) ∧ c.size = g.cap i * g.sz i ∧ rs.length ≤ g.cap i ∧
      ∀ (r : Nat) row, rs[r]? = some row → row.length = g.sz i ∧ ∀ (j : Nat) a, row[j]? = some a → ∃ v, c[r * g.sz i + j]? = some v ∧ RepA g w a v ∧ v.oneCell' = true

/-- A strings.Builder and its buffer. -/
def BldAt (g : Ghost) (w : World) (i : Nat) (T U : TypeId) (s : List UInt8) : Prop :=
  g.kind (g.blk i) = .own i ∧ g.sz i = 2 ∧ g.cap i = 1 ∧ ∃ p v, w.heap[g.blk i]? = some (.cells #[p, v] T (0, 0)) ∧ (p = .pointer none ∨ p = .pointer (some ⟨g.blk i, 0, none⟩)) ∧
    ((s = [] ∧ v = .slice none 0 0) ∨
     ∃ b cap c fr, v = .slice (some ⟨b, 0, none⟩) s.length cap ∧ b ≠ g.blk i ∧ g.kind b = .own i ∧ w.heap[b]? = some (.cells c U fr) ∧ (∀ o, o < c.size → ¬ (fr.1 ≤ o ∧ o < fr.2)) ∧ c.size = cap ∧ s.length ≤ cap ∧ s ≠ [] ∧
       ∀ (j : Nat) x, s[j]? = some x → c[j]? = some (.int .u8 x.toNat))

/-- What the machine's memory holds of one object; no rows at all may lie nowhere. -/
def ObRel (g : Ghost) (w : World) (i : Nat) : Ob → Prop
  | .dead => True
  | .rows sz rs => (rs = [] ∧ g.sz i = sz.1 ∧ g.cap i = 0) ∨ RowsAt g w i sz rs
  | .map es => g.kind (g.blk i) = .own i ∧ ∃ entries clock, w.heap[g.blk i]? = some (.map entries clock) ∧ entries.size = es.length ∧
      ∀ (j : Nat) x e, es[j]? = some x → entries[j]? = some e → RepA g w x.1 e.key ∧ RepA g w x.2 e.val
  | .iter s pos => g.kind (g.blk i) = .own i ∧ w.heap[g.blk i]? = some (.stringIter ⟨s.toArray⟩ pos)
  | .bld T U s => BldAt g w i T U s
  | .two T a b => g.kind (g.blk i) = .own i ∧ g.sz i = 2 ∧ g.cap i = 1 ∧ ∃ x y, w.heap[g.blk i]? = some (.cells #[x, y] T (0, 0)) ∧ RepA g w a x ∧ RepA g w b y ∧ x.oneCell' = true ∧ y.oneCell' = true

theorem ObRel.at {g : Ghost} {w : World} {i r : Nat} {sz : Nat × Nat} {rs : List (List AV)} {row : List AV} (h : ObRel g w i (.rows sz rs)) (hr : rs[r]? = some row) : RowsAt g w i sz rs := by
  rcases h with ⟨rfl, _⟩ | h
  · simp at hr
  · exact h
theorem ObRel.rows_sz {g : Ghost} {w : World} {i : Nat} {sz : Nat × Nat} {rs : List (List AV)} (h : ObRel g w i (.rows sz rs)) : g.sz i = sz.1 := by
  rcases h with ⟨_, h, _⟩ | h
  · exact h
  · exact h.2.1

/-- The variables of the library's own that hold some number. -/
def Gl (P : Program) (h : Nat) : Prop := P.globalNamed "internal/bytealg.MaxLen" = some h

structure StoreRel (P : Program) (g : Ghost) (σ : Store) (w : World) : Prop where
  n : σ.n = g.n
  lt : ∀ b, g.kind b ≠ .free → b < w.heap.size
  owner : ∀ b i, g.kind b = .own i → i < g.n
  dead : ∀ i, g.n ≤ i → σ.get i = .dead
  ob : ∀ i, i < g.n → ObRel g w i (σ.get i)
  glob : ∀ h, Gl P h → g.imm h ∧ ∃ m, w.cell? ⟨h, 0, none⟩ = some (.int .i64 m)

section
variable {P : Program}

/-- Whatever is no live object's own stays as it was. -/
structure Ext (g : Ghost) (σ : Store) (w : World) (g' : Ghost) (σ' : Store) (w' : World) : Prop where
  n : g.n ≤ g'.n
  place : ∀ i, i < g.n → g'.blk i = g.blk i ∧ g'.sz i = g.sz i ∧ g'.cap i = g.cap i
  dead : ∀ i, i < g.n → σ.get i = .dead → σ'.get i = .dead
  size : w.heap.size ≤ w'.heap.size
  keep : ∀ b, b < w.heap.size → (∀ i, g.kind b = .own i → σ.get i = .dead) → g'.kind b = g.kind b ∧ w'.heap[b]? = w.heap[b]?
  os : w'.os = w.os
  tape : w'.tape = w.tape
  output : w'.output = w.output

theorem Ext.refl (g : Ghost) (σ : Store) (w : World) : Ext g σ w g σ w :=
  ⟨Nat.le_refl _, fun _ _ => ⟨rfl, rfl, rfl⟩, fun _ _ h => h, Nat.le_refl _, fun _ _ _ => ⟨rfl, rfl⟩, rfl, rfl, rfl⟩

theorem Ext.trans {g0 g1 g2 : Ghost} {σ0 σ1 σ2 : Store} {w0 w1 w2 : World} (R : StoreRel P g0 σ0 w0) (h : Ext g0 σ0 w0 g1 σ1 w1) (k : Ext g1 σ1 w1 g2 σ2 w2) : Ext g0 σ0 w0 g2 σ2 w2 := by
  refine ⟨Nat.le_trans h.n k.n, fun i hi => ?_, fun i hi hd => ?_, Nat.le_trans h.size k.size, fun b hb ho => ?_, k.os.trans h.os, k.tape.trans h.tape, k.output.trans h.output⟩
  · obtain ⟨a, b, c⟩ := h.place i hi
    obtain ⟨a', b', c'⟩ := k.place i (Nat.lt_of_lt_of_le hi h.n)
    exact ⟨a'.trans a, b'.trans b, c'.trans c⟩
  · exact k.dead i (Nat.lt_of_lt_of_le hi h.n) (h.dead i hi hd)
  · obtain ⟨hk, hw⟩ := h.keep b hb ho
    obtain ⟨hk', hw'⟩ := k.keep b (Nat.lt_of_lt_of_le hb h.size) (fun i hi => h.dead i (R.owner b i (hk ▸ hi)) (ho i (hk ▸ hi)))
    exact ⟨hk'.trans hk, hw'.trans hw⟩

theorem cell_of_heap {w w' : World} {a : Addr} (h : w'.heap[a.block]? = w.heap[a.block]?) : w'.cell? a = w.cell? a := by
  simp only [World.cell?, h]

theorem RepD.mono {I I' : Nat → Prop} {w w' : World} (h : ∀ b, I b → I' b ∧ w'.heap[b]? = w.heap[b]?) {x : D} {v : Value} (r : RepD I w x v) : RepD I' w' x v := by
  induction r with
  | bool b => exact .bool b
  | int k n => exact .int k n
  | str s => exact .str s
  | sl0 a cap => exact .sl0 a cap
  | sl rows b o cap sz f hI hcap hsz hc hr ih =>
    refine .sl rows b o cap sz f (h b hI).1 hcap hsz (fun i j row x hi hj => ?_) ih
    rw [cell_of_heap (w := w) (w' := w') (a := ⟨b, o + (i * sz + j), none⟩) (h b hI).2]
    exact hc i j row x hi hj

theorem Ext.imm {g g' : Ghost} {σ σ' : Store} {w w' : World} (R : StoreRel P g σ w) (h : Ext g σ w g' σ' w') (b : Nat) (hb : g.imm b) : g'.imm b ∧ w'.heap[b]? = w.heap[b]? := by
  have hb' : g.kind b = .imm := hb
  obtain ⟨hk, hw⟩ := h.keep b (R.lt b (by rw [hb']; intro e; cases e)) (fun i hi => by rw [hb'] at hi; cases hi)
  exact ⟨hk.trans hb', hw⟩

/-- What a change of memory must keep, so that values stand for what they did. -/
structure Keeps (g : Ghost) (w : World) (g' : Ghost) (w' : World) : Prop where
  n : g.n ≤ g'.n
  place : ∀ i, i < g.n → g'.blk i = g.blk i ∧ g'.sz i = g.sz i ∧ g'.cap i = g.cap i
  imm : ∀ b, g.imm b → g'.imm b ∧ w'.heap[b]? = w.heap[b]?

theorem Ext.keeps {g g' : Ghost} {σ σ' : Store} {w w' : World} (R : StoreRel P g σ w) (h : Ext g σ w g' σ' w') : Keeps g w g' w' := ⟨h.n, h.place, h.imm R⟩

theorem RepA.mono {g g' : Ghost} {w w' : World} (k : Keeps g w g' w') {a : AV} {v : Value} (r : RepA g w a v) : RepA g' w' a v := by
  induction r with
  | top v => exact .top v
  | tt => exact .tt
  | ff => exact .ff
  | d h => exact .d (h.mono k.imm)
  | nil => exact .nil
  | ref i r c h =>
    obtain ⟨e1, e2, e3⟩ := k.place i h
    rw [← e1, ← e2]; exact .ref i r c (Nat.lt_of_lt_of_le h k.n)
  | nilp => exact .nilp
  | ip row c b o f hI hc hr =>
    refine .ip row c b o f (k.imm b hI).1 (fun j x hj => ?_) (fun j x hj => (hr j x hj).mono k.imm)
    rw [cell_of_heap (w := w) (w' := w') (a := ⟨b, o + j, none⟩) (k.imm b hI).2]
    exact hc j x hj
  | own i lo len cap h hc hl =>
    obtain ⟨e1, e2, e3⟩ := k.place i h
    rw [← e1, ← e2]; exact .own i lo len cap (Nat.lt_of_lt_of_le h k.n) (by omega) hl
  | own0 i lo h => exact .own0 i lo (Nat.lt_of_lt_of_le h k.n)
  | tight i lo len h =>
    obtain ⟨e1, e2, e3⟩ := k.place i h
    rw [← e1, ← e2]; exact .tight i lo len (Nat.lt_of_lt_of_le h k.n)
  | tight0 i lo h => exact .tight0 i lo (Nat.lt_of_lt_of_le h k.n)
  | dt rows a h => exact .dt rows a (h.mono k.imm)
  | mp i h =>
    obtain ⟨e1, e2, e3⟩ := k.place i h
    rw [← e1]; exact .mp i (Nat.lt_of_lt_of_le h k.n)
  | fn f first captured vf vc hf hc rf rc ihf ihc => exact .fn f first captured vf vc hf hc ihf ihc
  | nilf => exact .nilf
  | ifc t a v h ih => exact .ifc t a v ih
  | nili => exact .nili
  | agg vs cs hl h ih => exact .agg vs cs hl ih
  | tup vs cs hl h ih => exact .tup vs cs hl ih

theorem RepL.mono {g g' : Ghost} {w w' : World} (k : Keeps g w g' w') {as : List AV} {vs : List Value} (r : RepL g w as vs) : RepL g' w' as vs :=
  ⟨r.1, fun i a v ha hv => (r.2 i a v ha hv).mono k⟩

/-- An object stays what it is while its own blocks stay. -/
theorem ObRel.mono {g g' : Ghost} {w w' : World} (k : Keeps g w g' w') {i : Nat} {o : Ob} (hi : i < g.n) (hb : ∀ b, g.kind b = .own i → g'.kind b = .own i ∧ w'.heap[b]? = w.heap[b]?) (h : ObRel g w i o) : ObRel g' w' i o := by
  obtain ⟨e1, e2, e3⟩ := k.place i hi
  cases o with
  | dead => trivial
  | rows sz rs =>
    rcases h with ⟨hn, hz, hc⟩ | h
    · exact .inl ⟨hn, by rw [e2]; exact hz, by rw [e3]; exact hc⟩
    obtain ⟨hk, hz, c, fr, hw, hf, hs, hl, hr⟩ := h
    obtain ⟨hk', hw'⟩ := hb _ hk
    refine .inr ⟨by rw [e1]; exact hk', by rw [e2]; exact hz, c, fr, by rw [e1, hw', hw], hf, by rw [e3, e2, hs], by rw [e3]; exact hl, fun r row hrow => ?_⟩
    obtain ⟨hlen, hc⟩ := hr r row hrow
    refine ⟨by rw [e2]; exact hlen, fun j a ha => ?_⟩
    obtain ⟨v, hv, hra, ho⟩ := hc j a ha
    exact ⟨v, by rw [e2]; exact hv, hra.mono k, ho⟩
  | map es =>
    obtain ⟨hk, entries, clock, hw, hs, hr⟩ := h
    obtain ⟨hk', hw'⟩ := hb _ hk
    exact ⟨by rw [e1]; exact hk', entries, clock, by rw [e1, hw', hw], hs, fun j x e hx he => ⟨(hr j x e hx he).1.mono k, (hr j x e hx he).2.mono k⟩⟩
  | iter s pos =>
    obtain ⟨hk, hw⟩ := h
    obtain ⟨hk', hw'⟩ := hb _ hk
    exact ⟨by rw [e1]; exact hk', by rw [e1, hw', hw]⟩
  | bld T U s =>
    obtain ⟨hk, hz, hc, p, v, hw, hp, h⟩ := h
    obtain ⟨hk', hw'⟩ := hb _ hk
    refine ⟨by rw [e1]; exact hk', by rw [e2]; exact hz, by rw [e3]; exact hc, p, v, by rw [e1, hw', hw], by rw [e1]; exact hp, ?_⟩
    rcases h with h | ⟨b, cap, c, fr, hv, hne, hkb, hwb, r⟩
    · exact .inl h
    · obtain ⟨hkb', hwb'⟩ := hb b hkb
      exact .inr ⟨b, cap, c, fr, hv, by rw [e1]; exact hne, hkb', by rw [hwb', hwb], r⟩
  | two T a b =>
    obtain ⟨hk, hz, hc, x, y, hw, h1, h2, h3⟩ := h
    obtain ⟨hk', hw'⟩ := hb _ hk
    exact ⟨by rw [e1]; exact hk', by rw [e2]; exact hz, by rw [e3]; exact hc, x, y, by rw [e1, hw', hw], h1.mono k, h2.mono k, h3⟩

theorem glob_keep {g g' : Ghost} {w w' : World} (k : Keeps g w g' w') (h : ∀ h, Gl P h → g.imm h ∧ ∃ m, w.cell? ⟨h, 0, none⟩ = some (.int .i64 m)) : ∀ h, Gl P h → g'.imm h ∧ ∃ m, w'.cell? ⟨h, 0, none⟩ = some (.int .i64 m) := fun x hx => by
  obtain ⟨hi, m, hm⟩ := h x hx
  obtain ⟨h1, h2⟩ := k.imm x hi
  exact ⟨h1, m, by rw [cell_of_heap (w := w) (w' := w') (a := ⟨x, 0, none⟩) h2]; exact hm⟩

/-- A step that changes at most the objects of a set 'T' (each told anew), and may make new blocks that are nobody's. -/
theorem StoreRel.step {g g' : Ghost} {σ σ' : Store} {w w' : World} (R : StoreRel P g σ w) (hn : σ'.n = g'.n) (k : Keeps g w g' w')
    (lt : ∀ b, g'.kind b ≠ .free → b < w'.heap.size) (owner : ∀ b i, g'.kind b = .own i → i < g'.n) (dead : ∀ i, g'.n ≤ i → σ'.get i = .dead)
    (T : Nat → Prop) (same : ∀ i, i < g.n → ¬ T i → σ'.get i = σ.get i ∧ (σ.get i = .dead ∨ ∀ b, g.kind b = .own i → g'.kind b = .own i ∧ w'.heap[b]? = w.heap[b]?))
    (new : ∀ i, i < g'.n → (T i ∨ g.n ≤ i) → ObRel g' w' i (σ'.get i)) : StoreRel P g' σ' w' := by
  refine ⟨hn, lt, owner, dead, fun i hi => ?_, glob_keep k R.glob⟩
  by_cases hT : T i
  · exact new i hi (.inl hT)
  · by_cases hlt : i < g.n
    · obtain ⟨e, h⟩ := same i hlt hT
      rw [e]
      rcases h with h | h
      · rw [h]; trivial
      · exact (R.ob i hlt).mono k hlt h
    · exact new i hi (.inr (by omega))

end
end Go.Aw
