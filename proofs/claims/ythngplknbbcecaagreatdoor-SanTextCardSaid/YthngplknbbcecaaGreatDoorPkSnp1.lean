/- What is proved here serves the claim: the walk over the code and the plain laws, part 1 of 18. -/
import Derived.Calls
import Derived.KernelRfl
import Derived.Laws.Sem
import Derived.Laws.World
import Derived.Laws.Cells
import Derived.Below
namespace Go.Aw
set_option linter.unusedVariables false
set_option linter.unusedSimpArgs false
inductive D where
 | bool (b : Bool)
 | int (k : IntKind) (n : Int)
 | str (s : List UInt8)
 | sl (rows : List (List D))
 deriving Inhabited
inductive AV where
 | top
 | tt
 | ff
 | d (x : D)
 | nil
 | ref (i r c : Nat)
 | nilp
 | ip (row : List D) (c : Nat)
 | own (i lo len : Nat)
 | tight (i lo len : Nat)
 | dt (rows : List (List D))
 | mp (i : Nat)
 | fn (f : Fn) (first captured : List AV)
 | nilf
 | ifc (t : TypeId) (v : AV)
 | nili
 | agg (vs : List AV)
 | tup (vs : List AV)
 | lit (v : Value)
 deriving Inhabited
inductive Ob where
 | dead
 | rows (sz : Nat × Nat) (rs : List (List AV))
 | map (es : List (AV × AV))
 | iter (s : List UInt8) (pos : Nat)
 | bld (T U : TypeId) (s : List UInt8)
 | two (T : TypeId) (a b : AV)
 | kin (sz : Nat × Nat) (l : List (Value × List (List D)))
 deriving Inhabited
structure Store where
 n : Nat
 objs : List (Nat × Ob)
def look {α : Type} (dflt : α) : List (Nat × α) → Nat → α
 | [], _ => dflt
 | (j, v) :: r, t => match Nat.beq j t with
  | true => v
  | false => look dflt r t
abbrev Store.get (σ : Store) (i : Nat) : Ob := look .dead σ.objs i
abbrev Store.set (σ : Store) (i : Nat) (o : Ob) : Store := ⟨σ.n, (i, o) :: σ.objs⟩
abbrev Store.add (σ : Store) (o : Ob) : Store := ⟨σ.n + 1, (σ.n, o) :: σ.objs⟩
theorem look_cons_same {α : Type} (d : α) (j : Nat) (v : α) (r : List (Nat × α)) : look d ((j, v) :: r) j = v := by
 simp [look, Nat.beq_refl]
theorem look_cons_ne {α : Type} (d : α) {j t : Nat} (v : α) (r : List (Nat × α)) (h : j ≠ t) : look d ((j, v) :: r) t = look d r t := by
 have : Nat.beq j t = false := by
  cases hb : Nat.beq j t with
  | false => rfl
  | true => exact absurd (Nat.eq_of_beq_eq_true hb) h
 simp [look, this]
theorem look_cons {α : Type} (d : α) (j t : Nat) (v : α) (r : List (Nat × α)) : look d ((j, v) :: r) t = if j = t then v else look d r t := by
 by_cases h : j = t
 ·subst h; simp [look_cons_same]
 ·rw [if_neg h, look_cons_ne _ _ _ h]
inductive Kind where
 | free
 | imm
 | own (i : Nat)
structure Ghost where
 n : Nat
 blk : Nat → Nat
 sz : Nat → Nat
 cap : Nat → Nat
 kind : Nat → Kind
abbrev Ghost.imm (g : Ghost) (b : Nat) : Prop := g.kind b = .imm
inductive RepD (I : Nat → Prop) (w : World) : D → Value → Prop
 | bool (b : Bool) : RepD I w (.bool b) (.bool b)
 | int (k : IntKind) (n : Int) : RepD I w (.int k n) (.int k n)
 | str (s : List UInt8) : RepD I w (.str s) (.string ⟨s.toArray⟩)
 | sl0 (a : Option Addr) (cap : Nat) : RepD I w (.sl []) (.slice a 0 cap)
 | sl (rows : List (List D)) (b o cap sz : Nat) (f : Nat → Nat → Value) (hI : I b) (hcap : rows.length ≤ cap)
   (hsz : ∀ (i : Nat) row, rows[i]? = some row → row.length = sz)
   (hc : ∀ (i j : Nat) row x, rows[i]? = some row → row[j]? = some x → w.cell? ⟨b, o + (i * sz + j), none⟩ = some (f i j))
   (hr : ∀ (i j : Nat) row x, rows[i]? = some row → row[j]? = some x → RepD I w x (f i j)) :
   RepD I w (.sl rows) (.slice (some ⟨b, o, none⟩) rows.length cap)
inductive RepA (g : Ghost) (w : World) : AV → Value → Prop
 | top (v : Value) : RepA g w .top v
 | tt : RepA g w .tt (.bool true)
 | ff : RepA g w .ff (.bool false)
 | d {x : D} {v : Value} (h : RepD g.imm w x v) : RepA g w (.d x) v
 | nil : RepA g w .nil (.slice none 0 0)
 | ref (i r c : Nat) (h : i < g.n) : RepA g w (.ref i r c) (.pointer (some ⟨g.blk i, r * g.sz i + c, none⟩))
 | nilp : RepA g w .nilp (.pointer none)
 | ip (row : List D) (c b o : Nat) (f : Nat → Value) (hI : g.imm b) (hc : ∀ (j : Nat) x, row[j]? = some x → w.cell? ⟨b, o + j, none⟩ = some (f j))
   (hr : ∀ (j : Nat) x, row[j]? = some x → RepD g.imm w x (f j)) : RepA g w (.ip row c) (.pointer (some ⟨b, o + c, none⟩))
 | own (i lo len cap : Nat) (h : i < g.n) (hc : lo + cap = g.cap i) (hl : len ≤ cap) : RepA g w (.own i lo len) (.slice (some ⟨g.blk i, lo * g.sz i, none⟩) len cap)
 | own0 (i lo : Nat) (h : i < g.n) : RepA g w (.own i lo 0) (.slice none 0 0)
 | tight (i lo len : Nat) (h : i < g.n) : RepA g w (.tight i lo len) (.slice (some ⟨g.blk i, lo * g.sz i, none⟩) len len)
 | tight0 (i lo : Nat) (h : i < g.n) : RepA g w (.tight i lo 0) (.slice none 0 0)
 | dt (rows : List (List D)) (a : Option Addr) (h : RepD g.imm w (.sl rows) (.slice a rows.length rows.length)) : RepA g w (.dt rows) (.slice a rows.length rows.length)
 | mp (i : Nat) (h : i < g.n) : RepA g w (.mp i) (.map (some (g.blk i)))
 | fn (f : Fn) (first captured : List AV) (vf vc : Array Value) (hf : first.length = vf.size) (hc : captured.length = vc.size)
   (rf : ∀ (i : Nat) a v, first[i]? = some a → vf[i]? = some v → RepA g w a v) (rc : ∀ (i : Nat) a v, captured[i]? = some a → vc[i]? = some v → RepA g w a v) :
   RepA g w (.fn f first captured) (.func f vf vc)
 | nilf : RepA g w .nilf .nilFunc
 | ifc (t : TypeId) (a : AV) (v : Value) (h : RepA g w a v) : RepA g w (.ifc t a) (.iface t v)
 | nili : RepA g w .nili .nilIface
 | lit (v : Value) : RepA g w (.lit v) v
 | agg (vs : List AV) (cs : Array Value) (hl : vs.length = cs.size) (h : ∀ (i : Nat) a v, vs[i]? = some a → cs[i]? = some v → RepA g w a v) : RepA g w (.agg vs) (.agg cs)
 | tup (vs : List AV) (cs : Array Value) (hl : vs.length = cs.size) (h : ∀ (i : Nat) a v, vs[i]? = some a → cs[i]? = some v → RepA g w a v) : RepA g w (.tup vs) (.tuple cs)
def RepL (g : Ghost) (w : World) (as : List AV) (vs : List Value) : Prop :=
 as.length = vs.length ∧ ∀ (i : Nat) a v, as[i]? = some a → vs[i]? = some v → RepA g w a v
theorem RepL.nil {g : Ghost} {w : World} : RepL g w [] [] := ⟨rfl, by simp⟩
theorem RepL.cons {g : Ghost} {w : World} {a : AV} {v : Value} {as : List AV} {vs : List Value} (h : RepA g w a v) (hs : RepL g w as vs) : RepL g w (a :: as) (v :: vs) := by
 refine ⟨by simp [hs.1], fun i b u hb hu => ?_⟩
 cases i with
 | zero => simp at hb hu; subst hb; subst hu; exact h
 | succ i => simp at hb hu; exact hs.2 i b u hb hu
theorem RepL.uncons {g : Ghost} {w : World} {a : AV} {as : List AV} {vs : List Value} (h : RepL g w (a :: as) vs) : ∃ v r, vs = v :: r ∧ RepA g w a v ∧ RepL g w as r := by
 cases vs with
 | nil => have := h.1; simp at this
 | cons v r =>
  refine ⟨v, r, rfl, h.2 0 a v (by simp) (by simp), by have := h.1; simpa using this, fun i b u hb hu => h.2 (i + 1) b u (by simpa using hb) (by simpa using hu)⟩
theorem RepL.unnil {g : Ghost} {w : World} {vs : List Value} (h : RepL g w [] vs) : vs = [] := by
 have := h.1; cases vs <;> simp_all
theorem RepL.append {g : Ghost} {w : World} {as bs : List AV} {vs us : List Value} (h : RepL g w as vs) (k : RepL g w bs us) : RepL g w (as ++ bs) (vs ++ us) := by
 induction as generalizing vs with
 | nil => rw [h.unnil]; simpa using k
 | cons a as ih => obtain ⟨v, r, rfl, ha, hr⟩ := h.uncons; exact RepL.cons ha (ih hr)
theorem RepL.len {g : Ghost} {w : World} {as : List AV} {vs : List Value} (h : RepL g w as vs) : as.length = vs.length := h.1
def RowsAt (g : Ghost) (w : World) (i : Nat) (sz : Nat × Nat) (rs : List (List AV)) : Prop :=
 g.kind (g.blk i) = .own i ∧ g.sz i = sz.1 ∧ ∃ c fr, w.heap[g.blk i]? = some (.cells c sz.2 fr) ∧ (∀ o, o < c.size → ¬ (fr.1 ≤ o ∧ o < fr.2)) ∧ c.size = g.cap i * g.sz i ∧ rs.length ≤ g.cap i ∧
   ∀ (r : Nat) row, rs[r]? = some row → row.length = g.sz i ∧ ∀ (j : Nat) a, row[j]? = some a → ∃ v, c[r * g.sz i + j]? = some v ∧ RepA g w a v ∧ v.oneCell' = true
def BldAt (g : Ghost) (w : World) (i : Nat) (T U : TypeId) (s : List UInt8) : Prop :=
  g.kind (g.blk i) = .own i ∧ g.sz i = 2 ∧ g.cap i = 1 ∧ ∃ p v, w.heap[g.blk i]? = some (.cells #[p, v] T (0, 0)) ∧ (p = .pointer none ∨ p = .pointer (some ⟨g.blk i, 0, none⟩)) ∧
    ((s = [] ∧ v = .slice none 0 0) ∨
     ∃ b cap c fr, v = .slice (some ⟨b, 0, none⟩) s.length cap ∧ b ≠ g.blk i ∧ g.kind b = .own i ∧ w.heap[b]? = some (.cells c U fr) ∧ (∀ o, o < c.size → ¬ (fr.1 ≤ o ∧ o < fr.2)) ∧ c.size = cap ∧ s.length ≤ cap ∧ s ≠ [] ∧
       ∀ (j : Nat) x, s[j]? = some x → c[j]? = some (.int .u8 x.toNat))
def KinAt (g : Ghost) (w : World) (i : Nat) (sz : Nat × Nat) (b : Nat) (v : Value) (rows : List (List D)) : Prop :=
 ∃ cap c fr, v = .slice (some ⟨b, 0, none⟩) rows.length cap ∧ g.kind b = .own i ∧ w.heap[b]? = some (.cells c sz.2 fr) ∧ (∀ o, o < c.size → ¬ (fr.1 ≤ o ∧ o < fr.2)) ∧ c.size = cap * sz.1 ∧ rows.length ≤ cap ∧
  ∀ (r : Nat) row, rows[r]? = some row → row.length = sz.1 ∧ ∀ (j : Nat) x, row[j]? = some x → ∃ u, c[r * sz.1 + j]? = some u ∧ RepD g.imm w x u ∧ u.oneCell' = true
inductive KinRel (g : Ghost) (w : World) (i : Nat) (sz : Nat × Nat) : List Nat → List (Value × List (List D)) → Prop
 | nil : KinRel g w i sz [] []
 | none {bs : List Nat} {l : List (Value × List (List D))} {v : Value} (hv : v = .slice none 0 0 ∨ ∃ b, v = .slice (some ⟨b, 0, none⟩) 0 0) (h : KinRel g w i sz bs l) : KinRel g w i sz bs ((v, []) :: l)
 | some {b : Nat} {bs : List Nat} {l : List (Value × List (List D))} {v : Value} {rows : List (List D)} (hb : b ∉ bs) (hk : KinAt g w i sz b v rows) (h : KinRel g w i sz bs l) : KinRel g w i sz (b :: bs) ((v, rows) :: l)
def ObRel (g : Ghost) (w : World) (i : Nat) : Ob → Prop
 | .dead => True
 | .rows sz rs => (rs = [] ∧ g.sz i = sz.1 ∧ g.cap i = 0) ∨ RowsAt g w i sz rs
 | .map es => g.kind (g.blk i) = .own i ∧ ∃ entries clock, w.heap[g.blk i]? = some (.map entries clock) ∧ entries.size = es.length ∧
   ∀ (j : Nat) x e, es[j]? = some x → entries[j]? = some e → RepA g w x.1 e.key ∧ RepA g w x.2 e.val
 | .iter s pos => g.kind (g.blk i) = .own i ∧ w.heap[g.blk i]? = some (.stringIter ⟨s.toArray⟩ pos)
 | .bld T U s => BldAt g w i T U s
 | .two T a b => g.kind (g.blk i) = .own i ∧ g.sz i = 2 ∧ g.cap i = 1 ∧ ∃ x y, w.heap[g.blk i]? = some (.cells #[x, y] T (0, 0)) ∧ RepA g w a x ∧ RepA g w b y ∧ x.oneCell' = true ∧ y.oneCell' = true
 | .kin sz l => ∃ bs, KinRel g w i sz bs l
theorem ObRel.at {g : Ghost} {w : World} {i r : Nat} {sz : Nat × Nat} {rs : List (List AV)} {row : List AV} (h : ObRel g w i (.rows sz rs)) (hr : rs[r]? = some row) : RowsAt g w i sz rs := by
 rcases h with ⟨rfl, _⟩ | h
 ·simp at hr
 ·exact h
theorem ObRel.rows_sz {g : Ghost} {w : World} {i : Nat} {sz : Nat × Nat} {rs : List (List AV)} (h : ObRel g w i (.rows sz rs)) : g.sz i = sz.1 := by
 rcases h with ⟨_, h, _⟩ | h
 ·exact h
 ·exact h.2.1
def Gl (P : Program) (h : Nat) : Prop := P.globalNamed "internal/bytealg.MaxLen" = some h
structure StoreRel (P : Program) (g : Ghost) (σ : Store) (w : World) : Prop where
 n : σ.n = g.n
 lt : ∀ b, g.kind b ≠ .free → b < w.heap.size
 owner : ∀ b i, g.kind b = .own i → i < g.n
 dead : ∀ i, g.n ≤ i → σ.get i = .dead
 ob : ∀ i, i < g.n → ObRel g w i (σ.get i)
 glob : ∀ h, Gl P h → g.imm h ∧ ∃ m, w.cell? ⟨h, 0, none⟩ = some (.int .i64 m)
section
variable {P : Program}
structure Ext (g : Ghost) (σ : Store) (w : World) (g' : Ghost) (σ' : Store) (w' : World) : Prop where
 n : g.n ≤ g'.n
 place : ∀ i, i < g.n → g'.blk i = g.blk i ∧ g'.sz i = g.sz i ∧ g'.cap i = g.cap i
 dead : ∀ i, i < g.n → σ.get i = .dead → σ'.get i = .dead
 size : w.heap.size ≤ w'.heap.size
 keep : ∀ b, b < w.heap.size → (∀ i, g.kind b = .own i → σ.get i = .dead) → g'.kind b = g.kind b ∧ w'.heap[b]? = w.heap[b]?
 os : w'.os = w.os
 tape : w'.tape = w.tape
 output : w'.output = w.output
theorem Ext.refl (g : Ghost) (σ : Store) (w : World) : Ext g σ w g σ w :=
 ⟨Nat.le_refl _, fun _ _ => ⟨rfl, rfl, rfl⟩, fun _ _ h => h, Nat.le_refl _, fun _ _ _ => ⟨rfl, rfl⟩, rfl, rfl, rfl⟩
theorem Ext.trans {g0 g1 g2 : Ghost} {σ0 σ1 σ2 : Store} {w0 w1 w2 : World} (R : StoreRel P g0 σ0 w0) (h : Ext g0 σ0 w0 g1 σ1 w1) (k : Ext g1 σ1 w1 g2 σ2 w2) : Ext g0 σ0 w0 g2 σ2 w2 := by
 refine ⟨Nat.le_trans h.n k.n, fun i hi => ?_, fun i hi hd => ?_, Nat.le_trans h.size k.size, fun b hb ho => ?_, k.os.trans h.os, k.tape.trans h.tape, k.output.trans h.output⟩
 ·obtain ⟨a, b, c⟩ := h.place i hi
  obtain ⟨a', b', c'⟩ := k.place i (Nat.lt_of_lt_of_le hi h.n)
  exact ⟨a'.trans a, b'.trans b, c'.trans c⟩
 ·exact k.dead i (Nat.lt_of_lt_of_le hi h.n) (h.dead i hi hd)
 ·obtain ⟨hk, hw⟩ := h.keep b hb ho
  obtain ⟨hk', hw'⟩ := k.keep b (Nat.lt_of_lt_of_le hb h.size) (fun i hi => h.dead i (R.owner b i (hk ▸ hi)) (ho i (hk ▸ hi)))
  exact ⟨hk'.trans hk, hw'.trans hw⟩
theorem cell_of_heap {w w' : World} {a : Addr} (h : w'.heap[a.block]? = w.heap[a.block]?) : w'.cell? a = w.cell? a := by
 simp only [World.cell?, h]
theorem RepD.mono {I I' : Nat → Prop} {w w' : World} (h : ∀ b, I b → I' b ∧ w'.heap[b]? = w.heap[b]?) {x : D} {v : Value} (r : RepD I w x v) : RepD I' w' x v := by
 induction r with
 | bool b => exact .bool b
 | int k n => exact .int k n
 | str s => exact .str s
 | sl0 a cap => exact .sl0 a cap
 | sl rows b o cap sz f hI hcap hsz hc hr ih =>
  refine .sl rows b o cap sz f (h b hI).1 hcap hsz (fun i j row x hi hj => ?_) ih
  rw [cell_of_heap (w := w) (w' := w') (a := ⟨b, o + (i * sz + j), none⟩) (h b hI).2]
  exact hc i j row x hi hj
theorem Ext.imm {g g' : Ghost} {σ σ' : Store} {w w' : World} (R : StoreRel P g σ w) (h : Ext g σ w g' σ' w') (b : Nat) (hb : g.imm b) : g'.imm b ∧ w'.heap[b]? = w.heap[b]? := by
 have hb' : g.kind b = .imm := hb
 obtain ⟨hk, hw⟩ := h.keep b (R.lt b (by rw [hb']; intro e; cases e)) (fun i hi => by rw [hb'] at hi; cases hi)
 exact ⟨hk.trans hb', hw⟩
structure Keeps (g : Ghost) (w : World) (g' : Ghost) (w' : World) : Prop where
 n : g.n ≤ g'.n
 place : ∀ i, i < g.n → g'.blk i = g.blk i ∧ g'.sz i = g.sz i ∧ g'.cap i = g.cap i
 imm : ∀ b, g.imm b → g'.imm b ∧ w'.heap[b]? = w.heap[b]?
theorem Ext.keeps {g g' : Ghost} {σ σ' : Store} {w w' : World} (R : StoreRel P g σ w) (h : Ext g σ w g' σ' w') : Keeps g w g' w' := ⟨h.n, h.place, h.imm R⟩
theorem RepA.mono {g g' : Ghost} {w w' : World} (k : Keeps g w g' w') {a : AV} {v : Value} (r : RepA g w a v) : RepA g' w' a v := by
 induction r with
 | top v => exact .top v
 | tt => exact .tt
 | ff => exact .ff
 | d h => exact .d (h.mono k.imm)
 | nil => exact .nil
 | ref i r c h =>
  obtain ⟨e1, e2, e3⟩ := k.place i h
  rw [← e1, ← e2]; exact .ref i r c (Nat.lt_of_lt_of_le h k.n)
 | nilp => exact .nilp
 | ip row c b o f hI hc hr =>
  refine .ip row c b o f (k.imm b hI).1 (fun j x hj => ?_) (fun j x hj => (hr j x hj).mono k.imm)
  rw [cell_of_heap (w := w) (w' := w') (a := ⟨b, o + j, none⟩) (k.imm b hI).2]
  exact hc j x hj
 | own i lo len cap h hc hl =>
  obtain ⟨e1, e2, e3⟩ := k.place i h
  rw [← e1, ← e2]; exact .own i lo len cap (Nat.lt_of_lt_of_le h k.n) (by omega) hl
 | own0 i lo h => exact .own0 i lo (Nat.lt_of_lt_of_le h k.n)
 | tight i lo len h =>
  obtain ⟨e1, e2, e3⟩ := k.place i h
  rw [← e1, ← e2]; exact .tight i lo len (Nat.lt_of_lt_of_le h k.n)
 | tight0 i lo h => exact .tight0 i lo (Nat.lt_of_lt_of_le h k.n)
 | dt rows a h => exact .dt rows a (h.mono k.imm)
 | mp i h =>
  obtain ⟨e1, e2, e3⟩ := k.place i h
  rw [← e1]; exact .mp i (Nat.lt_of_lt_of_le h k.n)
 | fn f first captured vf vc hf hc rf rc ihf ihc => exact .fn f first captured vf vc hf hc ihf ihc
 | nilf => exact .nilf
 | ifc t a v h ih => exact .ifc t a v ih
 | nili => exact .nili
 | lit v => exact .lit v
 | agg vs cs hl h ih => exact .agg vs cs hl ih
 | tup vs cs hl h ih => exact .tup vs cs hl ih
theorem RepL.mono {g g' : Ghost} {w w' : World} (k : Keeps g w g' w') {as : List AV} {vs : List Value} (r : RepL g w as vs) : RepL g' w' as vs :=
 ⟨r.1, fun i a v ha hv => (r.2 i a v ha hv).mono k⟩
theorem KinAt.mono {g g' : Ghost} {w w' : World} {i i' b : Nat} (k : ∀ b, g.imm b → g'.imm b ∧ w'.heap[b]? = w.heap[b]?) (hb : g.kind b = .own i → g'.kind b = .own i' ∧ w'.heap[b]? = w.heap[b]?) {sz : Nat × Nat} {v : Value} {rows : List (List D)} (h : KinAt g w i sz b v rows) : KinAt g' w' i' sz b v rows := by
 obtain ⟨cap, c, fr, h1, h2, h3, h4, h5, h6, h7⟩ := h
 obtain ⟨q1, q2⟩ := hb h2
 refine ⟨cap, c, fr, h1, q1, by rw [q2]; exact h3, h4, h5, h6, fun r row hr => ?_⟩
 obtain ⟨p1, p2⟩ := h7 r row hr
 refine ⟨p1, fun j x hx => ?_⟩
 obtain ⟨u, u1, u2, u3⟩ := p2 j x hx
 exact ⟨u, u1, u2.mono k, u3⟩
theorem KinRel.mono {g g' : Ghost} {w w' : World} {i i' : Nat} (k : ∀ b, g.imm b → g'.imm b ∧ w'.heap[b]? = w.heap[b]?) {sz : Nat × Nat} {bs : List Nat} {l : List (Value × List (List D))} (h : KinRel g w i sz bs l) (hb : ∀ b, b ∈ bs → g.kind b = .own i → g'.kind b = .own i' ∧ w'.heap[b]? = w.heap[b]?) : KinRel g' w' i' sz bs l := by
 induction h with
 | nil => exact .nil
 | none hv h ih => exact .none hv (ih hb)
 | some hn hk h ih => exact .some hn (hk.mono k (hb _ (by simp))) (ih fun b hm => hb b (by simp [hm]))
theorem KinRel.own {g : Ghost} {w : World} {i : Nat} {sz : Nat × Nat} {bs : List Nat} {l : List (Value × List (List D))} (h : KinRel g w i sz bs l) : ∀ b ∈ bs, g.kind b = .own i := by
 induction h with
 | nil => intro b hb; simp at hb
 | none hv h ih => exact ih
 | some hn hk h ih =>
  intro b hb
  rcases List.mem_cons.1 hb with rfl | hb
  ·obtain ⟨_, _, _, _, h2, _⟩ := hk; exact h2
  ·exact ih b hb
theorem ObRel.mono {g g' : Ghost} {w w' : World} (k : Keeps g w g' w') {i : Nat} {o : Ob} (hi : i < g.n) (hb : ∀ b, g.kind b = .own i → g'.kind b = .own i ∧ w'.heap[b]? = w.heap[b]?) (h : ObRel g w i o) : ObRel g' w' i o := by
 obtain ⟨e1, e2, e3⟩ := k.place i hi
 cases o with
 | dead => trivial
 | rows sz rs =>
  rcases h with ⟨hn, hz, hc⟩ | h
  ·exact .inl ⟨hn, by rw [e2]; exact hz, by rw [e3]; exact hc⟩
  obtain ⟨hk, hz, c, fr, hw, hf, hs, hl, hr⟩ := h
  obtain ⟨hk', hw'⟩ := hb _ hk
  refine .inr ⟨by rw [e1]; exact hk', by rw [e2]; exact hz, c, fr, by rw [e1, hw', hw], hf, by rw [e3, e2, hs], by rw [e3]; exact hl, fun r row hrow => ?_⟩
  obtain ⟨hlen, hc⟩ := hr r row hrow
  refine ⟨by rw [e2]; exact hlen, fun j a ha => ?_⟩
  obtain ⟨v, hv, hra, ho⟩ := hc j a ha
  exact ⟨v, by rw [e2]; exact hv, hra.mono k, ho⟩
 | map es =>
  obtain ⟨hk, entries, clock, hw, hs, hr⟩ := h
  obtain ⟨hk', hw'⟩ := hb _ hk
  exact ⟨by rw [e1]; exact hk', entries, clock, by rw [e1, hw', hw], hs, fun j x e hx he => ⟨(hr j x e hx he).1.mono k, (hr j x e hx he).2.mono k⟩⟩
 | iter s pos =>
  obtain ⟨hk, hw⟩ := h
  obtain ⟨hk', hw'⟩ := hb _ hk
  exact ⟨by rw [e1]; exact hk', by rw [e1, hw', hw]⟩
 | bld T U s =>
  obtain ⟨hk, hz, hc, p, v, hw, hp, h⟩ := h
  obtain ⟨hk', hw'⟩ := hb _ hk
  refine ⟨by rw [e1]; exact hk', by rw [e2]; exact hz, by rw [e3]; exact hc, p, v, by rw [e1, hw', hw], by rw [e1]; exact hp, ?_⟩
  rcases h with h | ⟨b, cap, c, fr, hv, hne, hkb, hwb, r⟩
  ·exact .inl h
  ·obtain ⟨hkb', hwb'⟩ := hb b hkb
   exact .inr ⟨b, cap, c, fr, hv, by rw [e1]; exact hne, hkb', by rw [hwb', hwb], r⟩
 | two T a b =>
  obtain ⟨hk, hz, hc, x, y, hw, h1, h2, h3⟩ := h
  obtain ⟨hk', hw'⟩ := hb _ hk
  exact ⟨by rw [e1]; exact hk', by rw [e2]; exact hz, by rw [e3]; exact hc, x, y, by rw [e1, hw', hw], h1.mono k, h2.mono k, h3⟩
 | kin sz l =>
  obtain ⟨bs, h⟩ := h
  exact ⟨bs, h.mono k.imm fun b _ => hb b⟩
theorem glob_keep {g g' : Ghost} {w w' : World} (k : Keeps g w g' w') (h : ∀ h, Gl P h → g.imm h ∧ ∃ m, w.cell? ⟨h, 0, none⟩ = some (.int .i64 m)) : ∀ h, Gl P h → g'.imm h ∧ ∃ m, w'.cell? ⟨h, 0, none⟩ = some (.int .i64 m) := fun x hx => by
 obtain ⟨hi, m, hm⟩ := h x hx
 obtain ⟨h1, h2⟩ := k.imm x hi
 exact ⟨h1, m, by rw [cell_of_heap (w := w) (w' := w') (a := ⟨x, 0, none⟩) h2]; exact hm⟩
theorem StoreRel.step {g g' : Ghost} {σ σ' : Store} {w w' : World} (R : StoreRel P g σ w) (hn : σ'.n = g'.n) (k : Keeps g w g' w')
  (lt : ∀ b, g'.kind b ≠ .free → b < w'.heap.size) (owner : ∀ b i, g'.kind b = .own i → i < g'.n) (dead : ∀ i, g'.n ≤ i → σ'.get i = .dead)
  (T : Nat → Prop) (same : ∀ i, i < g.n → ¬ T i → σ'.get i = σ.get i ∧ (σ.get i = .dead ∨ ∀ b, g.kind b = .own i → g'.kind b = .own i ∧ w'.heap[b]? = w.heap[b]?))
  (new : ∀ i, i < g'.n → (T i ∨ g.n ≤ i) → ObRel g' w' i (σ'.get i)) : StoreRel P g' σ' w' := by
 refine ⟨hn, lt, owner, dead, fun i hi => ?_, glob_keep k R.glob⟩
 by_cases hT : T i
 ·exact new i hi (.inl hT)
 ·by_cases hlt : i < g.n
  ·obtain ⟨e, h⟩ := same i hlt hT
   rw [e]
   rcases h with h | h
   ·rw [h]; trivial
   ·exact (R.ob i hlt).mono k hlt h
  ·exact new i hi (.inr (by omega))
end
end Go.Aw

namespace Go.Aw
set_option linter.unusedVariables false
set_option linter.unusedSimpArgs false
inductive TD where
 | bool | int (k : IntKind) | str | slice (e : TypeId) | arr (n : Nat) (e : TypeId)
 | struct (fs : List (Nat × Nat × Bool × Bool))     -- offset, size, an aggregate?, has it a name?
 | ptr (e : TypeId) | map (k e : TypeId) | func | iface | uptr | tuple | other
 deriving Inhabited, DecidableEq
structure TI where
 d : TD
 size : Nat
 bytes : Nat
 zero : Option (List AV)
 bld : Option TypeId
 eqc : Option (List Nat)
 deriving Inhabited
def AV.one : AV → Bool
 | .top | .agg _ | .tup _ => false
 | .lit v => v.oneCell'
 | _ => true
def absC : Value → AV
 | .bool b => .d (.bool b)
 | .int k n => .d (.int k n)
 | .string s => .d (.str s.data.toList)
 | .slice none 0 0 => .nil
 | .pointer none => .nilp
 | .nilFunc => .nilf
 | .nilIface => .nili
 | .map none => .lit (.map none)
 | _ => .top
def absV : Value → AV
 | .agg cs => .agg (cs.toList.map absC)
 | .tuple cs => .tup (cs.toList.map absC)
 | .bool true => .tt
 | .bool false => .ff
 | v => absC v
def nrm : AV → AV
 | .tt => .d (.bool true)
 | .ff => .d (.bool false)
 | v => v
def isAggB (P : Program) (t : TypeId) : Bool := match P.underlying t with | some (.struct _) | some (.array _ _) => true | _ => false
def tdOf (P : Program) (t : TypeId) : TD :=
 match P.underlying t with
 | some .bool => .bool
 | some (.int k) => .int k
 | some .string => .str
 | some (.slice e) => .slice e
 | some (.array n e) => .arr n e
 | some (.struct fs) => .struct (fs.toList.map fun f => (f.offset, P.cellsOf f.type, isAggB P f.type, f.name != "_"))
 | some (.pointer e) => .ptr e
 | some (.map k e) => .map k e
 | some (.func ..) => .func
 | some (.interface _) => .iface
 | some .unsafePointer => .uptr
 | some (.tuple _) => .tuple
 | _ => .other
def isAggV : Value → Bool
 | .agg _ => true
 | _ => false
def zgood (P : Program) (t : TypeId) (size : Nat) (v : Value) : Bool := v.cells.size == size && (v.cells.toList.map absC).all AV.one && (isAggB P t == isAggV v)
def zeroOf (P : Program) (t : TypeId) : Option (List AV) :=
 match P.info? t with
 | some i => match i.zero with
  | some v => match zgood P t i.size v with
   | true => some (v.cells.toList.map absC)
   | false => none
  | none => none
 | none => none
def bufOf (P : Program) (t : TypeId) : TypeId := match P.underlying t with
 | some (.struct fs) => (match fs[1]? with
  | some f => (match P.underlying f.type with | some (.slice e) => e | _ => 0)
  | none => 0)
 | _ => 0
def isBld (P : Program) (t : TypeId) : Option TypeId := match P.info? t with
 | some i => match i.str == "strings.Builder", i.zero with
  | true, some v => (match v.cells.toList with | [.pointer none, .slice none 0 0] => some (bufOf P t) | _ => none)
  | _, _ => none
 | none => none
def leafK (P : Program) (t : TypeId) : Option Nat := match P.underlying t with
 | some .bool => some 0
 | some (.int _) => some 1
 | some .string => some 2
 | _ => none
def leafFs (P : Program) : List Field → Nat → Option (List Nat)
 | [], _ => some []
 | f :: r, i => match leafK P f.type, f.name != "_" && Nat.beq f.offset i, leafFs P r (i + 1) with
  | some k, true, some l => some (k :: l)
  | _, _, _ => none
def eqKinds (P : Program) (t : TypeId) : Option (List Nat) := match P.underlying t with
 | some (.struct fs) => (match P.stoodInHeld t, P.eqGuardType P.depth t with
  | false, false => leafFs P fs.toList 0
  | _, _ => none)
 | some (.array n e) => (match P.eqGuardType P.depth t, leafK P e, Nat.beq (P.cellsOf e) 1, Nat.ble n 64, (P.info? e).isSome with
  | false, some k, true, true, true => some (List.replicate n k)
  | _, _, _, _, _ => none)
 | _ => none
def tiOf (P : Program) (t : TypeId) : TI := ⟨tdOf P t, P.cellsOf t, P.bytesOf t, zeroOf P t, isBld P t, eqKinds P t⟩
def tabOf (P : Program) : List TI := (List.range P.types.size).map (tiOf P)
def TI.none : TI := ⟨.other, 0, 0, .none, .none, .none⟩
def nth : List TI → Nat → TI
 | [], _ => TI.none
 | a :: _, 0 => a
 | _ :: r, n + 1 => nth r n
def known (ti : TI) : Bool := match ti.d with
 | .other => false
 | _ => true
def AV.cells? : AV → Option (List AV)
 | .agg vs => match vs.all AV.one with | true => some vs | false => none
 | .top => none
 | .tup _ => none
 | .tt => some [.d (.bool true)]
 | .ff => some [.d (.bool false)]
 | .lit u => (match u.oneCell' with | true => some [.lit u] | false => none)
 | v => some [v]
def cbr (b : Bool) (A B : Prop) : Prop := (b = true → A) ∧ (b = false → B)
def inK : IntKind → Int → Prop
 | .i8, n => -128 ≤ n ∧ n ≤ 127
 | .i16, n => -32768 ≤ n ∧ n ≤ 32767
 | .i32, n => -2147483648 ≤ n ∧ n ≤ 2147483647
 | .i64, n => -9223372036854775808 ≤ n ∧ n ≤ 9223372036854775807
 | .u8, n => 0 ≤ n ∧ n ≤ 255
 | .u16, n => 0 ≤ n ∧ n ≤ 65535
 | .u32, n => 0 ≤ n ∧ n ≤ 4294967295
 | .u64, n => 0 ≤ n ∧ n ≤ 18446744073709551615
abbrev St := List (Nat × AV)
abbrev St.at (s : St) (t : Nat) : AV := look .top s t
def ev (s : St) : Operand → AV
 | .tmp t => look .top s t
 | .const v => absV v
 | .global _ => .top
 | .func f => .fn (.func f) [] []
def force (v : AV) (K : AV → Prop) : Prop :=
 match v with
 | .top => K .top
 | .tt => K .tt
 | .ff => K .ff
 | .d x => K (.d x)
 | .nil => K .nil
 | .ref i r c => K (.ref i r c)
 | .nilp => K .nilp
 | .ip row c => K (.ip row c)
 | .own i lo len => K (.own i lo len)
 | .tight i lo len => K (.tight i lo len)
 | .dt rows => K (.dt rows)
 | .mp i => K (.mp i)
 | .fn f a b => K (.fn f a b)
 | .nilf => K .nilf
 | .ifc t v => K (.ifc t v)
 | .nili => K .nili
 | .agg vs => K (.agg vs)
 | .tup vs => K (.tup vs)
 | .lit v => K (.lit v)
theorem force_eq (v : AV) (K : AV → Prop) : force v K = K v := by cases v <;> rfl
def forceL : List AV → (List AV → Prop) → Prop
 | [], K => K []
 | a :: r, K => force a fun v => forceL r fun l => K (v :: l)
theorem forceL_eq : ∀ (l : List AV) (K : List AV → Prop), forceL l K = K l
 | [], K => rfl
 | a :: r, K => by simp only [forceL, force_eq, forceL_eq r]
def addK (σ : Store) (o : Ob) (K : Nat → Store → Prop) : Prop := match σ with | ⟨n, objs⟩ => K n ⟨n + 1, (n, o) :: objs⟩
def setK (σ : Store) (i : Nat) (o : Ob) (K : Store → Prop) : Prop := match σ with | ⟨n, objs⟩ => K ⟨n, (i, o) :: objs⟩
theorem addK_eq (σ : Store) (o : Ob) (K : Nat → Store → Prop) : addK σ o K = K σ.n (σ.add o) := by cases σ; rfl
theorem setK_eq (σ : Store) (i : Nat) (o : Ob) (K : Store → Prop) : setK σ i o K = K (σ.set i o) := by cases σ; rfl
def num (k : IntKind) (n : Int) (K : AV → Prop) : Prop := (inK k n ∧ K (.d (.int k n))) ∨ K (.d (.int k (k.wrap n)))
def aint (op : BinOp) (k : IntKind) (a b : Int) (K : AV → Prop) : Prop :=
 match op with
 | .add => num k (a + b) K
 | .sub => num k (a - b) K
 | .mul => num k (a * b) K
 | .quo => b ≠ 0 ∧ num k (a.tdiv b) K
 | .rem => b ≠ 0 ∧ K (.d (.int k (a.tmod b)))
 | .eql => K (.d (.bool (decide (a = b))))
 | .neq => K (.d (.bool (!decide (a = b))))
 | .lss => K (.d (.bool (decide (a < b))))
 | .leq => K (.d (.bool (decide (a ≤ b))))
 | .gtr => K (.d (.bool (decide (b < a))))
 | .geq => K (.d (.bool (decide (b ≤ a))))
 | .and => K (.d (.int k (k.wrap (BitVec.ofInt k.bits a &&& BitVec.ofInt k.bits b).toNat)))
 | .or => K (.d (.int k (k.wrap (BitVec.ofInt k.bits a ||| BitVec.ofInt k.bits b).toNat)))
 | .xor => K (.d (.int k (k.wrap (BitVec.ofInt k.bits a ^^^ BitVec.ofInt k.bits b).toNat)))
 | _ => False
def ashift (op : BinOp) (k : IntKind) (a b : Int) (K : AV → Prop) : Prop :=
 match op with
 | .shl => 0 ≤ b ∧ num k (a * 2 ^ (min b.toNat k.bits)) K
 | .shr => 0 ≤ b ∧ K (.d (.int k (a.fdiv (2 ^ (min b.toNat k.bits)))))
 | _ => False
def astr (op : BinOp) (a b : List UInt8) (K : AV → Prop) : Prop :=
 match op with
 | .add => a.length + b.length ≤ 9223372036854775807 ∧ K (.d (.str (a ++ b)))
 | .eql => K (.d (.bool (decide (a = b))))
 | .neq => K (.d (.bool (!decide (a = b))))
 | .lss => K (.d (.bool (Op.bytesLess a b)))
 | .leq => K (.d (.bool (Op.bytesLess a b || decide (a = b))))
 | .gtr => K (.d (.bool (!(Op.bytesLess a b || decide (a = b)))))
 | .geq => K (.d (.bool (!Op.bytesLess a b)))
 | _ => False
def kEq : IntKind → IntKind → Bool
 | .i8, .i8 => true | .i16, .i16 => true | .i32, .i32 => true | .i64, .i64 => true
 | .u8, .u8 => true | .u16, .u16 => true | .u32, .u32 => true | .u64, .u64 => true
 | _, _ => false
theorem kEq_eq : ∀ {k k' : IntKind}, kEq k k' = true → k = k' := by intro k k' h; cases k <;> cases k' <;> first | rfl | cases h
def isBoolTD : TD → Bool
 | .bool => true
 | _ => false
def isPtrTD : TD → Bool
 | .ptr _ => true
 | _ => false
def isSliceTD : TD → Bool
 | .slice _ => true
 | _ => false
theorem isSliceTD_eq {d : TD} (h : isSliceTD d = true) : ∃ e, d = .slice e := by cases d <;> first | exact ⟨_, rfl⟩ | cases h
def nilTest {α : Type} (rows : List α) (K : Bool → Prop) : Prop := match rows with
 | [] => K true ∧ K false
 | _ :: _ => K false
def isU8TD : TD → Bool
 | .int .u8 => true
 | _ => false
theorem isBoolTD_eq {d : TD} (h : isBoolTD d = true) : d = .bool := by cases d <;> first | rfl | cases h
theorem isPtrTD_eq {d : TD} (h : isPtrTD d = true) : ∃ e, d = .ptr e := by cases d <;> first | exact ⟨_, rfl⟩ | cases h
theorem isU8TD_eq {d : TD} (h : isU8TD d = true) : d = .int .u8 := by
 cases d with
 | int k => cases k <;> first | rfl | cases h
 | _ => cases h
def chk (b : Bool) (A : Prop) : Prop := match b with
 | true => A
 | false => False
theorem chk_eq {b : Bool} {A : Prop} (h : chk b A) : b = true ∧ A := by cases b <;> first | exact h.elim | exact ⟨rfl, h⟩
def dEq : Nat → AV → AV → Option Bool
 | 0, .d (.bool a), .d (.bool b) => some (a == b)
 | 1, .d (.int k a), .d (.int k' b) => match kEq k k' with | true => some (decide (a = b)) | false => none
 | 2, .d (.str a), .d (.str b) => some (decide (a = b))
 | _, _, _ => none
def aggEq : List Nat → List AV → List AV → Option Bool
 | [], [], [] => some true
 | k :: l, a :: r, b :: q => match dEq k a b, aggEq l r q with
  | some x, some y => some (x && y)
  | _, _ => none
 | _, _, _ => none
def aeq (T : List TI) (t : TypeId) (xs ys : List AV) (K : Bool → Prop) : Prop := match (nth T t).eqc with
 | some l => (match aggEq l xs ys with | some b => K b | none => False)
 | none => False
def abin (T : List TI) (op : BinOp) (t : TypeId) (x y : AV) (K : AV → Prop) : Prop :=
 match op, x, y with
 | .shl, .d (.int k a), .d (.int _ b) => ashift .shl k a b K
 | .shr, .d (.int k a), .d (.int _ b) => ashift .shr k a b K
 | op, .d (.int k a), .d (.int k' b) => chk (kEq k k') (aint op k a b K)
 | op, .d (.str a), .d (.str b) => astr op a b K
 | .eql, .d (.bool a), .d (.bool b) => chk (isBoolTD (nth T t).d) (K (.d (.bool (a == b))))
 | .neq, .d (.bool a), .d (.bool b) => chk (isBoolTD (nth T t).d) (K (.d (.bool (!(a == b)))))
 | .eql, .ref _ _ _, .nilp => chk (isPtrTD (nth T t).d) (K (.d (.bool false)))
 | .neq, .ref _ _ _, .nilp => chk (isPtrTD (nth T t).d) (K (.d (.bool true)))
 | .eql, .nilp, .nilp => chk (isPtrTD (nth T t).d) (K (.d (.bool true)))
 | .neq, .nilp, .nilp => chk (isPtrTD (nth T t).d) (K (.d (.bool false)))
 | .eql, .d (.sl rows), .nil => chk (isSliceTD (nth T t).d) (nilTest rows fun b => K (.d (.bool b)))
 | .eql, .own i lo len, .nil => chk (isSliceTD (nth T t).d) ((len = 0 → K (.d (.bool true))) ∧ K (.d (.bool false)))
 | .neq, .d (.sl rows), .nil => chk (isSliceTD (nth T t).d) (nilTest rows fun b => K (.d (.bool (!b))))
 | .eql, .agg xs, .agg ys => aeq T t xs ys fun b => K (.d (.bool b))
 | .neq, .agg xs, .agg ys => aeq T t xs ys fun b => K (.d (.bool (!b)))
 | _, _, _ => False
def aun (op : UnOp) (x : AV) (K : AV → Prop) : Prop :=
 match op, x with
 | .not, .d (.bool b) => K (.d (.bool (!b)))
 | .not, .tt => K .ff
 | .not, .ff => K .tt
 | .neg, .d (.int k n) => num k (0 - n) K
 | _, _ => False
def bytesD (s : List UInt8) : List (List D) := s.map fun b => [.int .u8 b.toNat]
def bytesA (s : List UInt8) : List (List AV) := s.map fun b => [.d (.int .u8 b.toNat)]
def toDs : List AV → Option (List D)
 | [] => some []
 | .d x :: r => (toDs r).map (x :: ·)
 | .nil :: r => (toDs r).map (.sl [] :: ·)
 | _ => none
def ownText (o : Ob) (lo len : Nat) (K : List UInt8 → Prop) : Prop := match o with
 | .rows sz rs => chk (Nat.beq sz.1 1) (∃ s, (rs.drop lo).take len = bytesA s ∧ s.length = len ∧ K s)
 | _ => False
def ownWhole (o : Ob) (lo len : Nat) (K : List UInt8 → Prop) : Prop := match o with
 | .rows sz rs => chk (Nat.beq sz.1 1 && (Nat.beq lo 0 && Nat.ble 1 len)) (∃ s, rs = bytesA s ∧ s.length = len ∧ K s)
 | _ => False
def aconv (T : List TI) (σ : Store) (src dst : TypeId) (x : AV) (K : AV → Store → Prop) : Prop :=
 match (nth T src).d, (nth T dst).d, x with
 | .int _, .int k, .d (.int _ n) => num k n (fun v => K v σ)
 | .int _, .str, .d (.int _ n) => K (.d (.str (Utf8.encode n).data.toList)) σ
 | .str, .str, .d (.str s) => K (.d (.str s)) σ
 | .str, .slice e, .d (.str s) => chk (isU8TD (nth T e).d) (s.length ≤ 9223372036854775807 ∧ addK σ (.rows (1, e) (bytesA s)) fun n σ' => K (.own n 0 s.length) σ')
 | .slice e, .str, .d (.sl rows) => chk (isU8TD (nth T e).d) (∃ s, rows = bytesD s ∧ K (.d (.str s)) σ)
 | .slice e, .str, .nil => chk (isU8TD (nth T e).d) (K (.d (.str [])) σ)
 | .slice e, .str, .own i lo len => chk (isU8TD (nth T e).d) (ownText (σ.get i) lo len fun s => K (.d (.str s)) σ)
 | .slice e, .slice _, .own i lo len => chk (Nat.beq src dst && isU8TD (nth T e).d) (ownWhole (σ.get i) lo len fun s => setK σ i .dead fun σ' => K (.d (.sl (bytesD s))) σ')
 | _, _, _ => False
def afill (place : Nat → Option (Nat × Nat)) (cells : List AV) (ρ : Operand → AV) : List (Nat × Operand) → Option (List AV)
 | [] => some cells
 | (i, x) :: rest => match place i, (ρ x).cells? with
  | some (off, size), some l => match Nat.beq l.length size, Nat.ble (off + size) cells.length with
   | true, true => afill place (cells.take off ++ l ++ cells.drop (off + size)) ρ rest
   | _, _ => none
  | _, _ => none
def rowsOf (sz : Nat) : Nat → List AV → List (List AV)
 | 0, _ => []
 | n + 1, l => l.take sz :: rowsOf sz n (l.drop sz)
def repl (z : List AV) : Nat → List AV
 | 0 => []
 | n + 1 => z ++ repl z n
def isAggTD : TD → Bool
 | .struct _ | .arr _ _ => true
 | _ => false
def ofTwo (r c : Nat) (x y : AV) (K : AV → Prop) : Prop :=
 match r, c with
 | 0, 0 => K x
 | 0, 1 => K y
 | _, _ => False
def aload (T : List TI) (σ : Store) (t : TypeId) (a : AV) (K : AV → Prop) : Prop :=
 match a with
 | .ref i r c => match σ.get i with
  | .rows _ rs => ∃ row, rs[r]? = some row ∧ match (nth T t).d with
   | .struct _ | .arr _ _ => c + (nth T t).size ≤ row.length ∧ K (.agg ((row.drop c).take (nth T t).size))
   | .other => False
   | _ => ∃ v, row[c]? = some v ∧ K v
  | .two _ x y => chk (known (nth T t) && !isAggTD (nth T t).d) (ofTwo r c x y K)
  | _ => False
 | .ip row c => match (nth T t).d with
   | .struct _ | .arr _ _ => c + (nth T t).size ≤ row.length ∧ K (.agg (((row.drop c).take (nth T t).size).map .d))
   | .other => False
   | _ => ∃ x, row[c]? = some x ∧ K (.d x)
 | _ => False
def astore (T : List TI) (σ : Store) (t : TypeId) (a x : AV) (K : Store → Prop) : Prop :=
 match known (nth T t), a, x.cells? with
 | true, .ref i r c, some l => match σ.get i with
  | .rows sz rs => ∃ row, rs[r]? = some row ∧ l.length = (nth T t).size ∧ c + l.length ≤ row.length ∧
    setK σ i (.rows sz (rs.set r (row.take c ++ l ++ row.drop (c + l.length)))) K
  | .two T' x y => (match r, c, l, (nth T t).size with
   | 0, 0, [z], 1 => setK σ i (.two T' z y) K
   | 0, 1, [z], 1 => setK σ i (.two T' x z) K
   | _, _, _, _ => False)
  | _ => False
 | _, _, _ => False
def abound (x : Option AV) (dflt : Int) (K : Int → Prop) : Prop :=
 match x with
 | none => K dflt
 | some (.d (.int _ n)) => K n
 | _ => False
def isRows (n : Nat) : Ob → Bool
 | .rows sz _ => Nat.beq sz.1 n
 | _ => false
def isRowsE (n e : Nat) : Ob → Bool
 | .rows sz _ => Nat.beq sz.1 n && Nat.beq sz.2 e
 | _ => false
theorem isRows_eq {n : Nat} {o : Ob} (h : isRows n o = true) : ∃ sz rs, o = .rows sz rs ∧ sz.1 = n := by
 cases o with
 | rows sz rs => exact ⟨sz, rs, rfl, Nat.eq_of_beq_eq_true h⟩
 | _ => cases h
theorem isRowsE_eq {n e : Nat} {o : Ob} (h : isRowsE n e o = true) : ∃ rs, o = .rows (n, e) rs := by
 cases o with
 | rows sz rs =>
  simp only [isRowsE, Bool.and_eq_true] at h
  have h1 := Nat.eq_of_beq_eq_true h.1
  have h2 := Nat.eq_of_beq_eq_true h.2
  obtain ⟨a, b⟩ := sz
  dsimp only at h1 h2
  subst h1; subst h2
  exact ⟨rs, rfl⟩
 | _ => cases h
def aslice (T : List TI) (σ : Store) (t : TypeId) (x : AV) (lo hi mx : Option AV) (K : AV → Prop) : Prop :=
 match (nth T t).d, x, mx with
 | .str, .d (.str s), none => abound lo 0 fun l => abound hi s.length fun h => (0 ≤ l ∧ l ≤ h ∧ h ≤ s.length) ∧ K (.d (.str ((s.take h.toNat).drop l.toNat)))
 | .slice e, .d (.sl rows), none => chk (known (nth T e)) (abound lo 0 fun l => abound hi rows.length fun h => (0 ≤ l ∧ l ≤ h ∧ h ≤ rows.length) ∧
   (l = 0 ∨ l = h ∨ ∃ row, rows[0]? = some row ∧ row.length = (nth T e).size) ∧ K (.d (.sl ((rows.take h.toNat).drop l.toNat))))
 | .slice e, .d (.sl rows), some m => chk (known (nth T e)) (chk hi.isSome (abound lo 0 fun l => abound hi 0 fun h => abound (some m) 0 fun m => (l = 0 ∧ 0 ≤ h ∧ h ≤ rows.length ∧ m = h) ∧ K (.dt (rows.take h.toNat))))
 | .slice e, .own i olo len, none => chk (known (nth T e)) (abound lo 0 fun l => abound hi len fun h => (0 ≤ l ∧ l ≤ h ∧ h ≤ len) ∧
   ((l = 0 ∧ K (.own i olo h.toNat)) ∨ (l = h ∧ K (.d (.sl []))) ∨ (l < h ∧ chk (isRows (nth T e).size (σ.get i)) (K (.own i (l.toNat + olo) (h - l).toNat)))))
 | .slice e, .own i olo len, some m => chk (known (nth T e)) (chk hi.isSome (abound lo 0 fun l => abound hi 0 fun h => abound (some m) 0 fun m => (l = 0 ∧ 0 ≤ h ∧ h ≤ len ∧ m = h) ∧ K (.tight i olo h.toNat)))
 | .slice e, .nil, none => chk (known (nth T e)) (abound lo 0 fun l => abound hi 0 fun h => (l = 0 ∧ h = 0) ∧ K .nil)
 | .slice e, .nil, some m => chk (known (nth T e)) (chk hi.isSome (abound lo 0 fun l => abound hi 0 fun h => abound (some m) 0 fun m => (l = 0 ∧ h = 0 ∧ m = 0) ∧ K .nil))
 | _, _, _ => False
def asliceArr (T : List TI) (σ : Store) (n e : Nat) (x : AV) (lo hi mx : Option AV) (K : AV → Store → Prop) : Prop :=
 match x, lo, hi, mx with
 | .ref i 0 0, none, none, none => (nth T e).size = 1 ∧ known (nth T e) = true ∧ ∃ row ds e', σ.get i = .rows (n, e') [row] ∧ row.length = n ∧ 0 < n ∧ toDs row = some ds ∧ setK σ i .dead fun σ' => K (.d (.sl (ds.map fun x => [x]))) σ'
 | _, _, _, _ => False
def afieldAddr (T : List TI) (s : TypeId) (x : AV) (f : Nat) (K : AV → Prop) : Prop :=
 match (nth T s).d with
 | .struct fs => match fs[f]? with
  | some (off, size, _, _) => match size, x with
   | _ + 1, .ref i r c => K (.ref i r (c + off))
   | _ + 1, .ip row c => K (.ip row (c + off))
   | _, _ => False
  | none => False
 | _ => False
def apart (agg : Bool) (size off : Nat) (vs : List AV) (K : AV → Prop) : Prop :=
 match agg with
 | true => off + size ≤ vs.length ∧ K (.agg ((vs.drop off).take size))
 | false => match vs[off]? with | some v => force v K | none => False
def afield (T : List TI) (t : TypeId) (x : AV) (f : Nat) (K : AV → Prop) : Prop :=
 match (nth T t).d, x with
 | .struct fs, .agg vs => match fs[f]? with
  | some (off, size, agg, _) => apart agg size off vs K
  | none => False
 | _, _ => False
def aindexAddr (T : List TI) (σ : Store) (t : TypeId) (x ix : AV) (K : AV → Prop) : Prop :=
 match (nth T t).d, x, ix with
 | .slice e, .d (.sl rows), .d (.int _ n) => (0 ≤ n ∧ n < rows.length) ∧ (∃ row, rows[n.toNat]? = some row ∧ row.length = (nth T e).size ∧ K (.ip row 0))
 | .slice e, .own i lo len, .d (.int _ n) => (0 ≤ n ∧ n < len) ∧ chk (isRows (nth T e).size (σ.get i)) (K (.ref i (n.toNat + lo) 0))
 | .slice e, .tight i lo len, .d (.int _ n) => (0 ≤ n ∧ n < len) ∧ chk (isRows (nth T e).size (σ.get i)) (K (.ref i (n.toNat + lo) 0))
 | .arr len e, .ref i r c, .d (.int _ n) => (0 ≤ n ∧ n < len) ∧ K (.ref i r (c + n.toNat * (nth T e).size))
 | .arr len e, .ip row c, .d (.int _ n) => (0 ≤ n ∧ n < len) ∧ K (.ip row (c + n.toNat * (nth T e).size))
 | _, _, _ => False
def aindex (T : List TI) (t : TypeId) (x ix : AV) (K : AV → Prop) : Prop :=
 match (nth T t).d, x, ix with
 | .str, .d (.str s), .d (.int _ n) => (0 ≤ n ∧ n < s.length) ∧ K (.d (.int .u8 (s.getD n.toNat 0).toNat))
 | .arr len e, .agg vs, .d (.int _ n) => (0 ≤ n ∧ n < len) ∧ vs.length = len * (nth T e).size ∧ match isAggTD (nth T e).d with
   | true => K (.agg ((vs.drop (n.toNat * (nth T e).size)).take (nth T e).size))
   | false => ∃ v, vs[n.toNat * (nth T e).size]? = some v ∧ K v
 | _, _, _ => False
def mlook (k : List UInt8) : List (AV × AV) → Option AV
 | [] => none
 | (.d (.str s), v) :: r => if k = s then some v else mlook k r
 | _ :: r => mlook k r
def strKeys (es : List (AV × AV)) : Prop := ∀ e ∈ es, ∃ s, e.1 = .d (.str s)
def mput (k : List UInt8) (v : AV) : List (AV × AV) → List (AV × AV)
 | [] => [(.d (.str k), v)]
 | (.d (.str s), u) :: r => if k = s then (.d (.str k), v) :: r else (.d (.str s), u) :: mput k v r
 | x :: r => x :: mput k v r
def alookup (T : List TI) (σ : Store) (t : TypeId) (m k : AV) (ok : Bool) (K : AV → Prop) : Prop :=
 match (nth T t).d, m, k with
 | .map kt e, .mp i, .d (.str s) => (nth T kt).d = .str ∧ ∃ es z, σ.get i = .map es ∧ strKeys es ∧ (nth T e).zero = some [z] ∧ isAggTD (nth T e).d = false ∧
   match ok with
   | false => K ((mlook s es).getD z)
   | true => K (.tup [(mlook s es).getD z, .d (.bool (mlook s es).isSome)])
 | _, _, _ => False
def amapUpdate (T : List TI) (σ : Store) (t : TypeId) (m k v : AV) (K : Store → Prop) : Prop :=
 match (nth T t).d, m, k with
 | .map kt e, .mp i, .d (.str s) => (nth T kt).d = .str ∧ ∃ es, σ.get i = .map es ∧ strKeys es ∧ setK σ i (.map (mput s v es)) K
 | _, _, _ => False
def anext (σ : Store) (it : AV) (K : AV → Store → Prop) : Prop :=
 match it with
 | .ref i 0 0 => match σ.get i with
  | .iter s pos =>
   (pos < s.length → setK σ i (.iter s (pos + (Utf8.decode ⟨s.toArray⟩ pos).2)) fun σ' => K (.tup [.d (.bool true), .d (.int .i64 pos), .d (.int .i32 (Utf8.decode ⟨s.toArray⟩ pos).1)]) σ') ∧
   (s.length ≤ pos → K (.tup [.d (.bool false)]) σ)
  | _ => False
 | _ => False
def arange (T : List TI) (σ : Store) (t : TypeId) (x : AV) (K : AV → Store → Prop) : Prop :=
 match (nth T t).d, x with
 | .str, .d (.str s) => addK σ (.iter s 0) fun n σ' => K (.ref n 0 0) σ'
 | _, _ => False
def afillK (place : Nat → Option (Nat × Nat)) (ρ : Operand → AV) : List (Nat × Operand) → List AV → (List AV → Prop) → Prop
 | [], cells, K => K cells
 | (i, x) :: rest, cells, K => match place i, (ρ x).cells? with
  | some (off, size), some l => match Nat.beq l.length size, Nat.ble (off + size) cells.length with
   | true, true => forceL (cells.take off ++ l ++ cells.drop (off + size)) fun c => afillK place ρ rest c K
   | _, _ => False
  | _, _ => False
theorem afillK_eq {place : Nat → Option (Nat × Nat)} {ρ : Operand → AV} : ∀ {parts : List (Nat × Operand)} {cells : List AV} {K : List AV → Prop}, afillK place ρ parts cells K = match afill place cells ρ parts with | some l => K l | none => False
 | [], _, _ => rfl
 | (i, x) :: rest, cells, K => by
  unfold afillK afill
  cases place i with
  | none => rfl
  | some p =>
   obtain ⟨off, size⟩ := p
   cases (ρ x).cells? with
   | none => rfl
   | some l =>
    dsimp only
    cases Nat.beq l.length size <;> cases Nat.ble (off + size) cells.length <;> simp only [forceL_eq]
    exact afillK_eq
def abuild (T : List TI) (t : TypeId) (ρ : Operand → AV) (parts : List (Nat × Operand)) (K : AV → Prop) : Prop :=
 match (nth T t).d, (nth T t).zero with
 | .struct fs, some z => afillK (fun i => (fs[i]?).map fun f => (f.1, f.2.1)) ρ parts z fun l => K (.agg l)
 | .arr _ e, some z => afillK (fun i => some (i * (nth T e).size, (nth T e).size)) ρ parts z fun l => K (.agg l)
 | _, _ => False
def abuildSlice (T : List TI) (σ : Store) (t : TypeId) (len : Nat) (ρ : Operand → AV) (parts : List (Nat × Operand)) (K : AV → Store → Prop) : Prop :=
 match (nth T t).d with
 | .slice e => match (nth T e).zero with
  | some z => match Nat.ble (len * (nth T e).size) 100000, Nat.ble 1 (nth T e).size, Nat.beq z.length (nth T e).size with
   | true, true, true => afillK (fun i => some (i * (nth T e).size, (nth T e).size)) ρ parts (repl z len) fun l => addK σ (.rows ((nth T e).size, e) (rowsOf (nth T e).size len l)) fun n σ' => K (.own n 0 len) σ'
   | _, _, _ => False
  | none => False
 | _ => False
def amakeSlice (T : List TI) (σ : Store) (t : TypeId) (l c : AV) (K : AV → Store → Prop) : Prop :=
 match (nth T t).d, l, c with
 | .slice e, .d (.int .i64 n), .d (.int .i64 m) => match (nth T e).zero with
  | some z => (0 ≤ n ∧ n = m ∧ n * (nth T e).bytes ≤ 140737488355328 ∧ n ≤ 1000000000000) ∧ chk (Nat.ble 1 (nth T e).size && Nat.beq z.length (nth T e).size) (addK σ (.rows ((nth T e).size, e) (List.replicate n.toNat z)) fun k σ' => K (.own k 0 n.toNat) σ')
  | none => False
 | _, _, _ => False
def srcRows (σ : Store) : AV → Option (List (List AV))
 | .nil => some []
 | .d (.sl rows) => some (rows.map fun r => r.map .d)
 | .dt rows => some (rows.map fun r => r.map .d)
 | .d (.str s) => some (bytesA s)
 | .own i lo len => match σ.get i with | .rows _ rs => some ((rs.drop lo).take len) | _ => none
 | .tight i lo len => match σ.get i with | .rows _ rs => some ((rs.drop lo).take len) | _ => none
 | _ => none
def srcLen : AV → Nat → Prop
 | .own _ _ len, n => n = len
 | .tight _ _ len, n => n = len
 | _, _ => True
def srcTD : TD → Bool
 | .slice _ => true
 | .str => true
 | _ => false
def onNil {α : Type} (l : List α) (A B : Prop) : Prop := match l with
 | [] => A
 | _ :: _ => B
theorem onNil_nil {α : Type} {l : List α} {A B : Prop} (h : onNil l A B) (hl : l = []) : A := by subst hl; exact h
theorem onNil_cons {α : Type} {l : List α} {A B : Prop} (h : onNil l A B) (hl : l ≠ []) : B := by
 cases l with
 | nil => exact absurd rfl hl
 | cons a r => exact h
def aappend (T : List TI) (σ : Store) (argTypes : List TypeId) (x y : AV) (K : AV → Store → Prop) : Prop :=
 match argTypes with
 | [t, u] => match (nth T t).d with
  | .slice e => ∃ old new, srcRows σ x = some old ∧ srcRows σ y = some new ∧ srcLen x old.length ∧ srcLen y new.length ∧
    (old.length + new.length) * (nth T e).bytes ≤ 140737488355328 ∧ 1 ≤ (nth T e).size ∧ 1 ≤ (nth T e).bytes ∧ (nth T e).zero.isSome = true ∧ srcTD (nth T u).d = true ∧
    (∀ row ∈ old, row.length = (nth T e).size ∧ ∀ a ∈ row, a.one = true) ∧ (∀ row ∈ new, row.length = (nth T e).size ∧ ∀ a ∈ row, a.one = true) ∧
    match x with
    | .own i 0 len => chk (isRowsE (nth T e).size e (σ.get i)) (setK σ i .dead fun σ' => addK σ' (.rows ((nth T e).size, e) (old ++ new)) fun n σ'' => K (.own n 0 (old.length + new.length)) σ'')
    | .nil => (new = [] ∧ K .nil σ) ∨ addK σ (.rows ((nth T e).size, e) (old ++ new)) fun n σ'' => K (.own n 0 (old.length + new.length)) σ''
    | .tight i lo len => onNil new (K (.tight i lo len) σ) (addK σ (.rows ((nth T e).size, e) (old ++ new)) fun n σ'' => K (.own n 0 (old.length + new.length)) σ'')
    | .dt rows => onNil new (K (.dt rows) σ) (addK σ (.rows ((nth T e).size, e) (old ++ new)) fun n σ'' => K (.own n 0 (old.length + new.length)) σ'')
    | _ => False
  | _ => False
 | _ => False
def alen (T : List TI) (σ : Store) (t : TypeId) (x : AV) (K : AV → Prop) : Prop :=
 match (nth T t).d, x with
 | .str, .d (.str s) => K (.d (.int .i64 s.length))
 | .slice _, .d (.sl rows) => K (.d (.int .i64 rows.length))
 | .slice _, .dt rows => K (.d (.int .i64 rows.length))
 | .slice _, .nil => K (.d (.int .i64 0))
 | .slice _, .own _ _ len => K (.d (.int .i64 len))
 | .slice _, .tight _ _ len => K (.d (.int .i64 len))
 | .map _ _, .mp i => match σ.get i with | .map es => K (.d (.int .i64 es.length)) | _ => False
 | .arr n _, _ => K (.d (.int .i64 n))
 | _, _ => False
def amin2 : AV → AV → Option AV
 | .d (.int k x), .d (.int _ y) => some (.d (.int k (if y < x then y else x)))
 | _, _ => none
def amax2 : AV → AV → Option AV
 | .d (.int k x), .d (.int _ y) => some (.d (.int k (if y > x then y else x)))
 | _, _ => none
def afold (f : AV → AV → Option AV) : AV → List AV → Option AV
 | x, [] => some x
 | x, y :: r => match f x y with | some z => afold f z r | none => none
def abuiltin (T : List TI) (σ : Store) (b : Builtin) (argTypes : List TypeId) (args : List AV) (K : AV → Store → Prop) : Prop :=
 match b, args with
 | .len, [x] => match argTypes with | t :: _ => alen T σ t x (fun v => K v σ) | [] => False
 | .append, [x, y] => aappend T σ argTypes x y K
 | .min, x :: r => match afold amin2 x r with | some v => K v σ | none => False
 | .max, x :: r => match afold amax2 x r with | some v => K v σ | none => False
 | _, _ => False
def dtd : AV → AV
 | .dt rows => .d (.sl rows)
 | v => v
def aop (T : List TI) (ρ : Operand → AV) (σ : Store) (op : Op) (K : AV → Store → Prop) : Prop :=
 match op with
 | .move x => force (ρ x) fun v => K v σ
 | .assign x => force (ρ x) fun v => K v σ
 | .pick c a b => match ρ c with | .tt => force (ρ a) fun v => K v σ | .ff => force (ρ b) fun v => K v σ | .d (.bool t) => cbr t (force (ρ a) fun v => K v σ) (force (ρ b) fun v => K v σ) | _ => False
 | .alloc e => match (nth T e).bld with
  | some U => addK σ (.bld e U []) fun n σ' => K (.ref n 0 0) σ'
  | none => match (nth T e).zero with | some z => addK σ (.rows (z.length, e) [z]) fun n σ' => K (.ref n 0 0) σ' | none => False
 | .box t x => match (ρ x).cells? with | some l => addK σ (.rows (l.length, t) [l]) fun n σ' => K (.ref n 0 0) σ' | none => False
 | .build t parts => abuild T t ρ parts.toList (fun v => K v σ)
 | .buildSlice t len parts => abuildSlice T σ t len ρ parts.toList K
 | .makeSlice t l c => amakeSlice T σ t (ρ l) (ρ c) K
 | .load t a => aload T σ t (ρ a) (fun v => K v σ)
 | .store t a x => astore T σ t (ρ a) (ρ x) (fun σ' => K .top σ')
 | .nilCheck x => match ρ x with | .ref i r c => K (.ref i r c) σ | .ip row c => K (.ip row c) σ | .fn (.func f) a b => K (.fn (.func f) a b) σ | .ifc t v => K (.ifc t v) σ | _ => False
 | .binOp op t x y _ => abin T op t (nrm (ρ x)) (nrm (ρ y)) (fun v => K v σ)
 | .unOp op _ x => aun op (ρ x) (fun v => K v σ)
 | .convert src dst x => aconv T σ src dst (ρ x) K
 | .makeInterface t x => match (nth T t).d with | .iface => False | .other => False | _ => force (ρ x) fun v => K (.ifc t v) σ
 | .makeFunc fn first captured => forceL (first.toList.map ρ) fun a => forceL (captured.toList.map ρ) fun b => K (.fn fn a b) σ
 | .makeMap _ none => addK σ (.map []) fun n σ' => K (.mp n) σ'
 | .slice t x lo hi mx => match (nth T t).d with
  | .arr n e => asliceArr T σ n e (ρ x) (lo.map ρ) (hi.map ρ) (mx.map ρ) K
  | _ => aslice T σ t (dtd (ρ x)) (lo.map ρ) (hi.map ρ) (mx.map ρ) (fun v => K v σ)
 | .fieldAddr s x f => afieldAddr T s (ρ x) f (fun v => K v σ)
 | .field t x f => afield T t (ρ x) f (fun v => K v σ)
 | .indexAddr t x i => aindexAddr T σ t (dtd (ρ x)) (ρ i) (fun v => K v σ)
 | .index t x i => aindex T t (ρ x) (ρ i) (fun v => K v σ)
 | .lookup t m k ok => alookup T σ t (ρ m) (ρ k) ok (fun v => K v σ)
 | .mapUpdate t m k v => amapUpdate T σ t (ρ m) (ρ k) (nrm (ρ v)) (fun σ' => K .top σ')
 | .insert t m k v => amapUpdate T σ t (ρ m) (ρ k) (nrm (ρ v)) (fun σ' => K .top σ')
 | .range t x => arange T σ t (ρ x) K
 | .next it true => anext σ (ρ it) K
 | .extract t ix => match ρ t with | .tup vs => (match vs[ix]? with | some v => force v fun v => K v σ | none => False) | _ => False
 | _ => False
end Go.Aw
