/- What is proved here serves the claim: the walk over the code and the plain laws, part 2 of 18. -/
import Derived.Test.YthngplknbbcecaaGreatDoorPkSnp1
import Derived.Laws.StructEq
import Derived.ChangeKeysEq
import Derived.WalkKit
import Derived.Lib.SmallJoins
namespace Go.Aw
set_option linter.unusedVariables false
set_option linter.unusedSimpArgs false
section
variable {P : Program}
theorem nth_none (T : List TI) (t : Nat) (h : T.length ≤ t) : nth T t = TI.none := by
 induction T generalizing t with
 | nil => cases t <;> rfl
 | cons a r ih => cases t with
  | zero => simp at h
  | succ t => simp only [nth]; exact ih t (by simpa using h)
theorem nth_some (T : List TI) (t : Nat) (x : TI) (h : T[t]? = some x) : nth T t = x := by
 induction T generalizing t with
 | nil => simp at h
 | cons a r ih => cases t with
  | zero => simpa [nth] using h
  | succ t => simp only [nth]; exact ih t (by simpa using h)
theorem nth_tab (t : Nat) : nth (tabOf P) t = tiOf P t ∧ t < P.types.size ∨ nth (tabOf P) t = TI.none := by
 by_cases h : t < P.types.size
 ·left
  exact ⟨nth_some _ _ _ (by simp [tabOf, h]), h⟩
 ·right
  exact nth_none _ _ (by simp [tabOf]; omega)
theorem nth_of_d {t : Nat} (h : (nth (tabOf P) t).d ≠ .other) : nth (tabOf P) t = tiOf P t := by
 rcases nth_tab (P := P) t with ⟨h1, _⟩ | h1
 ·exact h1
 ·rw [h1] at h; exact absurd rfl h
theorem und_of_td {t : Nat} {d : TD} (h : (nth (tabOf P) t).d = d) (hd : d ≠ .other) : tdOf P t = d := by
 have := nth_of_d (P := P) (t := t) (by rw [h]; exact hd)
 rw [this] at h; exact h
theorem und_slice {t e : Nat} (h : (nth (tabOf P) t).d = .slice e) : P.underlying t = some (.slice e) := by
 have := und_of_td h (by simp)
 unfold tdOf at this
 split at this <;> first | (injection this with this; subst this; assumption) | cases this
theorem und_str {t : Nat} (h : (nth (tabOf P) t).d = .str) : P.underlying t = some .string := by
 have := und_of_td h (by simp)
 unfold tdOf at this
 split at this <;> first | assumption | cases this
theorem und_bool {t : Nat} (h : (nth (tabOf P) t).d = .bool) : P.underlying t = some .bool := by
 have := und_of_td h (by simp)
 unfold tdOf at this
 split at this <;> first | assumption | cases this
theorem und_int {t : Nat} {k : IntKind} (h : (nth (tabOf P) t).d = .int k) : P.underlying t = some (.int k) := by
 have := und_of_td h (by simp)
 unfold tdOf at this
 split at this <;> first | (injection this with this; subst this; assumption) | cases this
theorem und_arr {t n e : Nat} (h : (nth (tabOf P) t).d = .arr n e) : P.underlying t = some (.array n e) := by
 have := und_of_td h (by simp)
 unfold tdOf at this
 split at this <;> first | (injection this with h1 h2; subst h1; subst h2; assumption) | cases this
theorem und_ptr {t e : Nat} (h : (nth (tabOf P) t).d = .ptr e) : P.underlying t = some (.pointer e) := by
 have := und_of_td h (by simp)
 unfold tdOf at this
 split at this <;> first | (injection this with this; subst this; assumption) | cases this
theorem und_map {t k e : Nat} (h : (nth (tabOf P) t).d = .map k e) : P.underlying t = some (.map k e) := by
 have := und_of_td h (by simp)
 unfold tdOf at this
 split at this <;> first | (injection this with h1 h2; subst h1; subst h2; assumption) | cases this
theorem und_struct {t : Nat} {fs : List (Nat × Nat × Bool × Bool)} (h : (nth (tabOf P) t).d = .struct fs) :
  ∃ Fs, P.underlying t = some (.struct Fs) ∧ fs = Fs.toList.map fun f => (f.offset, P.cellsOf f.type, isAggB P f.type, f.name != "_") := by
 have := und_of_td h (by simp)
 unfold tdOf at this
 split at this <;> first | (injection this with this; exact ⟨_, by assumption, this.symm⟩) | cases this
theorem info_of_und {t : Nat} {d : TypeDesc} (h : P.underlying t = some d) : ∃ i, P.info? t = some i := by
 unfold Program.underlying at h
 split at h <;> first | exact ⟨_, by assumption⟩ | cases h
theorem run_sizeOf {t : Nat} {i : TypeInfo} (h : P.info? t = some i) (w : World) : (sizeOf t).run P w = .ok (P.cellsOf t) w := by
 simp [sizeOf, typeInfo, h, Program.cellsOf]
theorem size_eq {t : Nat} (h : (nth (tabOf P) t).d ≠ .other) : (nth (tabOf P) t).size = P.cellsOf t := by
 rw [nth_of_d h]; rfl
theorem isAgg_td {t : Nat} (h : (nth (tabOf P) t).d ≠ .other) : isAggB P t = isAggTD (nth (tabOf P) t).d := by
 have e := nth_of_d h
 rw [e]
 show isAggB P t = isAggTD (tdOf P t)
 unfold isAggB tdOf isAggTD
 cases P.underlying t with
 | none => rfl
 | some d => cases d <;> rfl
theorem und_some {t : Nat} (h : (nth (tabOf P) t).d ≠ .other) : ∃ d, P.underlying t = some d := by
 have e := nth_of_d h
 rw [e] at h
 have h' : tdOf P t ≠ .other := h
 unfold tdOf at h'
 split at h' <;> first | exact ⟨_, by assumption⟩ | exact absurd rfl h'
theorem run_isAgg {t : Nat} (h : ∃ d, P.underlying t = some d) (w : World) : (isAgg t).run P w = .ok (isAggB P t) w := by
 obtain ⟨d, h⟩ := h
 simp only [isAgg, Sem.run_bind, run_underlying h, Result.andThen, isAggB, h]
 cases d <;> rfl
theorem cell_at {w : World} {b : Nat} {c : Array Value} {e : TypeId} {fr : Nat × Nat} (h : w.heap[b]? = some (.cells c e fr)) (o : Nat) : w.cell? ⟨b, o, none⟩ = c[o]? := by
 simp [World.cell?, h]
theorem Addr.add_none (b o n : Nat) : Addr.add ⟨b, o, none⟩ n = ⟨b, o + n, none⟩ := by
 unfold Addr.add; split <;> simp_all
theorem run_loadVar_agg {t : Nat} {w : World} {b o : Nat} (cs : List Value) (hu : ∃ d, P.underlying t = some d) (hagg : isAggB P t = true) (hs : P.cellsOf t = cs.length)
  (h : ∀ (j : Nat) v, cs[j]? = some v → w.cell? ⟨b, o + j, none⟩ = some v) : (loadVar t ⟨b, o, none⟩).run P w = .ok (.agg cs.toArray) w := by
 obtain ⟨i, hi⟩ := info_of_und hu.choose_spec
 simp only [loadVar, Sem.run_bind, run_isAgg hu, Result.andThen, hagg, if_true, run_sizeOf hi, hs]
 rw [run_loadCells_list (P := P) w ⟨b, o, none⟩ cs (fun j v hj => by rw [Addr.add_none]; exact h j v hj)]
 rfl
theorem run_loadVar_one {t : Nat} {w : World} {b o : Nat} {v : Value} (hu : ∃ d, P.underlying t = some d) (hagg : isAggB P t = false)
  (h : w.cell? ⟨b, o, none⟩ = some v) : (loadVar t ⟨b, o, none⟩).run P w = .ok v w := by
 simp only [loadVar, Sem.run_bind, run_isAgg hu, Result.andThen, hagg, if_false, Bool.false_eq_true]
 simp [load, Sem.run, h]
theorem pick_list {α : Type} {R : Nat → α → Value → Prop} (l : List α) (h : ∀ (j : Nat) a, l[j]? = some a → ∃ v, R j a v) : ∃ vs : List Value, vs.length = l.length ∧ ∀ (j : Nat) a v, l[j]? = some a → vs[j]? = some v → R j a v := by
 induction l generalizing R with
 | nil => exact ⟨[], rfl, by simp⟩
 | cons a r ih =>
  obtain ⟨v, hv⟩ := h 0 a (by simp)
  obtain ⟨vs, hl, hvs⟩ := ih (R := fun j => R (j + 1)) (fun j b hb => h (j + 1) b (by simpa using hb))
  refine ⟨v :: vs, by simp [hl], fun j b u hb hu => ?_⟩
  cases j with
  | zero => simp at hb hu; subst hb; subst hu; exact hv
  | succ j => simp at hb hu; exact hvs j b u hb hu
theorem getElem?_of_lt {α : Type} {l : List α} {j : Nat} (h : j < l.length) : ∃ a, l[j]? = some a := ⟨l[j], by simp [h]⟩
theorem lt_of_some {α : Type} {l : List α} {j : Nat} {a : α} (h : l[j]? = some a) : j < l.length := by
 rcases Nat.lt_or_ge j l.length with h' | h'
 ·exact h'
 ·simp [List.getElem?_eq_none h'] at h
theorem load_sound {g : Ghost} {σ : Store} {w : World} {t : Nat} {av : AV} {v : Value} {K : AV → Prop} (h : aload (tabOf P) σ t av K) (R : StoreRel P g σ w) (ha : RepA g w av v) :
  ∃ u r, (Instr.loadAt t v).run P w = .ok u w ∧ RepA g w r u ∧ K r := by
 unfold aload at h
 cases av with
 | ref i r c =>
  cases ha with
  | ref _ _ _ hi =>
  dsimp only at h
  cases ho : σ.get i with
  | rows sz rs =>
   rw [ho] at h
   dsimp only at h
   obtain ⟨row, hrow, h⟩ := h
   have hob := R.ob i hi
   rw [ho] at hob
   obtain ⟨hk, hz, cc, fr, hw, hf, hs, hl, hr⟩ := hob.at hrow
   obtain ⟨hlen, hcell⟩ := hr r row hrow
   have hd : (nth (tabOf P) t).d ≠ .other := by intro hd; rw [hd] at h; exact h
   have hu := und_some hd
   simp only [Instr.loadAt, Instr.sureAddr, Sem.run_bind, Sem.run_pure, Result.andThen]
   by_cases hagg : isAggTD (nth (tabOf P) t).d = true
   ·have h' : c + (nth (tabOf P) t).size ≤ row.length ∧ K (.agg ((row.drop c).take (nth (tabOf P) t).size)) := by
     revert h hagg; cases (nth (tabOf P) t).d <;> simp [isAggTD]
    rw [size_eq hd] at h'
    obtain ⟨hle, hK⟩ := h'
    obtain ⟨vs, hvl, hvs⟩ := pick_list (R := fun j a v => cc[r * g.sz i + (c + j)]? = some v ∧ RepA g w a v) ((row.drop c).take (P.cellsOf t)) (fun j a hj => by
     rw [List.getElem?_take] at hj
     split at hj
     ·rw [List.getElem?_drop] at hj
      obtain ⟨v, hv, hra, _⟩ := hcell (c + j) a hj
      exact ⟨v, hv, hra⟩
     ·cases hj)
    have hvl' : P.cellsOf t = vs.length := by rw [hvl]; simp; omega
    refine ⟨.agg vs.toArray, .agg ((row.drop c).take (P.cellsOf t)), ?_, .agg _ _ (by simp [hvl]) (fun j a v hj hv => (hvs j a v hj (by simpa using hv)).2), hK⟩
    refine run_loadVar_agg vs hu (by rw [isAgg_td hd]; exact hagg) hvl' (fun j v hj => ?_)
    obtain ⟨a, haj⟩ := getElem?_of_lt (l := (row.drop c).take (P.cellsOf t)) (j := j) (by rw [← hvl]; exact lt_of_some hj)
    rw [cell_at hw, Nat.add_assoc]
    exact (hvs j a v haj hj).1
   ·have h' : ∃ v, row[c]? = some v ∧ K v := by
     revert h hagg hd; cases (nth (tabOf P) t).d <;> simp [isAggTD]
    obtain ⟨a, hra, hK⟩ := h'
    obtain ⟨u, hu', hrep, _⟩ := hcell c a hra
    refine ⟨u, a, run_loadVar_one hu (by rw [isAgg_td hd]; simpa using hagg) ?_, hrep, hK⟩
    rw [cell_at hw]; exact hu'
  | two T x y =>
   rw [ho] at h
   obtain ⟨hkn, h⟩ := chk_eq h
   simp only [Bool.and_eq_true, Bool.not_eq_true'] at hkn
   have hd : (nth (tabOf P) t).d ≠ .other := by intro hd; unfold known at hkn; rw [hd] at hkn; exact absurd hkn.1 (by simp)
   have hu := und_some hd
   have hob := R.ob i hi
   rw [ho] at hob
   obtain ⟨hk, hz, hc, p, q, hw, h1, h2, _⟩ := hob
   simp only [Instr.loadAt, Instr.sureAddr, Sem.run_bind, Sem.run_pure, Result.andThen]
   unfold ofTwo at h
   split at h
   ·exact ⟨p, x, run_loadVar_one hu (by rw [isAgg_td hd]; exact hkn.2) (by rw [cell_at hw]; simp), h1, h⟩
   ·exact ⟨q, y, run_loadVar_one hu (by rw [isAgg_td hd]; exact hkn.2) (by rw [cell_at hw]; simp), h2, h⟩
   ·exact h.elim
  | _ => rw [ho] at h; exact h.elim
 | ip row c =>
  cases ha with
  | ip _ _ b o f hI hc hr =>
  dsimp only at h
  have hd : (nth (tabOf P) t).d ≠ .other := by intro hd; rw [hd] at h; exact h
  have hu := und_some hd
  simp only [Instr.loadAt, Instr.sureAddr, Sem.run_bind, Sem.run_pure, Result.andThen]
  by_cases hagg : isAggTD (nth (tabOf P) t).d = true
  ·have h' : c + (nth (tabOf P) t).size ≤ row.length ∧ K (.agg (((row.drop c).take (nth (tabOf P) t).size).map .d)) := by
    revert h hagg; cases (nth (tabOf P) t).d <;> simp [isAggTD]
   rw [size_eq hd] at h'
   obtain ⟨hle, hK⟩ := h'
   obtain ⟨vs, hvl, hvs⟩ := pick_list (R := fun j a v => w.cell? ⟨b, o + (c + j), none⟩ = some v ∧ RepD g.imm w a v) ((row.drop c).take (P.cellsOf t)) (fun j a hj => by
    rw [List.getElem?_take] at hj
    split at hj
    ·rw [List.getElem?_drop] at hj
     exact ⟨_, hc (c + j) a hj, hr (c + j) a hj⟩
    ·cases hj)
   have hvl' : P.cellsOf t = vs.length := by rw [hvl]; simp; omega
   refine ⟨.agg vs.toArray, .agg (((row.drop c).take (P.cellsOf t)).map .d), ?_, .agg _ _ (by simp [hvl]) (fun j a v hj hv => ?_), hK⟩
   ·refine run_loadVar_agg vs hu (by rw [isAgg_td hd]; exact hagg) hvl' (fun j v hj => ?_)
    obtain ⟨a, haj⟩ := getElem?_of_lt (l := (row.drop c).take (P.cellsOf t)) (j := j) (by rw [← hvl]; exact lt_of_some hj)
    rw [Nat.add_assoc]
    exact (hvs j a v haj hj).1
   ·rw [List.getElem?_map] at hj
    cases hx : ((row.drop c).take (P.cellsOf t))[j]? with
    | none => rw [hx] at hj; cases hj
    | some x =>
     rw [hx] at hj
     simp only [Option.map_some, Option.some.injEq] at hj
     subst hj
     exact .d (hvs j x v hx (by simpa using hv)).2
  ·have h' : ∃ x, row[c]? = some x ∧ K (.d x) := by
    revert h hagg hd; cases (nth (tabOf P) t).d <;> simp [isAggTD]
   obtain ⟨x, hx, hK⟩ := h'
   exact ⟨f c, .d x, run_loadVar_one hu (by rw [isAgg_td hd]; simpa using hagg) (hc c x hx), .d (hr c x hx), hK⟩
 | _ => exact h.elim
theorem inK_wrap {k : IntKind} {n : Int} (h : inK k n) : k.wrap n = n := by
 cases k <;> simp only [inK] at h <;> simp [IntKind.wrap, IntKind.bits, IntKind.signed] <;> omega
theorem num_sound {g : Ghost} {w : World} {k : IntKind} {n : Int} {K : AV → Prop} (h : num k n K) : ∃ r, RepA g w r (.int k (k.wrap n)) ∧ K r := by
 rcases h with ⟨h, hK⟩ | hK
 ·refine ⟨_, ?_, hK⟩; rw [inK_wrap h]; exact .d (.int k n)
 ·exact ⟨_, .d (.int _ _), hK⟩
theorem repD_int {I : Nat → Prop} {w : World} {k : IntKind} {n : Int} {v : Value} (h : RepD I w (.int k n) v) : v = .int k n := by cases h; rfl
theorem dtd_ok {g : Ghost} {w : World} {a : AV} {v : Value} (h : RepA g w a v) : RepA g w (dtd a) v := by
 cases h with
 | dt rows a h => exact .d h
 | top v => exact .top v
 | tt => exact .tt
 | ff => exact .ff
 | d h => exact .d h
 | nil => exact .nil
 | ref i r c h => exact .ref i r c h
 | nilp => exact .nilp
 | ip row c b o f hI hc hr => exact .ip row c b o f hI hc hr
 | own i lo len cap h hc hl => exact .own i lo len cap h hc hl
 | own0 i lo h => exact .own0 i lo h
 | tight i lo len h => exact .tight i lo len h
 | tight0 i lo h => exact .tight0 i lo h
 | mp i h => exact .mp i h
 | fn f first captured vf vc hf hc rf rc => exact .fn f first captured vf vc hf hc rf rc
 | nilf => exact .nilf
 | ifc t a v h => exact .ifc t a v h
 | nili => exact .nili
 | agg vs cs hl h => exact .agg vs cs hl h
 | tup vs cs hl h => exact .tup vs cs hl h
 | lit v => exact .lit v
theorem repA_int {g : Ghost} {w : World} {k : IntKind} {n : Int} {v : Value} (h : RepA g w (.d (.int k n)) v) : v = .int k n := by cases h with | d h => exact repD_int h
theorem repA_str {g : Ghost} {w : World} {s : List UInt8} {v : Value} (h : RepA g w (.d (.str s)) v) : v = .string ⟨s.toArray⟩ := by cases h with | d h => cases h; rfl
theorem repA_bool {g : Ghost} {w : World} {b : Bool} {v : Value} (h : RepA g w (.d (.bool b)) v) : v = .bool b := by cases h with | d h => cases h; rfl
theorem aint_sound {g : Ghost} {w : World} {op : BinOp} {k : IntKind} {a b : Int} {K : AV → Prop} {t : TypeId} (h : aint op k a b K) :
  ∃ u r, (binOp op t (.int k a) (.int k b)).run P w = .ok u w ∧ RepA g w r u ∧ K r := by
 cases op <;> simp only [aint] at h
 case add => obtain ⟨r, hr, hK⟩ := num_sound (g := g) (w := w) h; exact ⟨_, r, by simp [binOp, Op.intArith], hr, hK⟩
 case sub => obtain ⟨r, hr, hK⟩ := num_sound (g := g) (w := w) h; exact ⟨_, r, by simp [binOp, Op.intArith], hr, hK⟩
 case mul => obtain ⟨r, hr, hK⟩ := num_sound (g := g) (w := w) h; exact ⟨_, r, by simp [binOp, Op.intArith], hr, hK⟩
 case quo => obtain ⟨hb, h⟩ := h; obtain ⟨r, hr, hK⟩ := num_sound (g := g) (w := w) h; exact ⟨_, r, by simp [binOp, Op.intDiv, hb], hr, hK⟩
 case rem => obtain ⟨hb, h⟩ := h; exact ⟨_, _, by simp [binOp, Op.intDiv, hb], .d (.int _ _), h⟩
 case eql => exact ⟨.bool (decide (a = b)), _, by simp [binOp, Op.intCmp]; rfl, .d (.bool _), h⟩
 case neq => exact ⟨.bool (!decide (a = b)), _, by simp [binOp, Op.intCmp]; rfl, .d (.bool _), h⟩
 case lss => exact ⟨_, _, by simp [binOp, Op.intCmp], .d (.bool _), h⟩
 case leq => exact ⟨_, _, by simp [binOp, Op.intCmp], .d (.bool _), h⟩
 case gtr => exact ⟨_, _, by simp [binOp, Op.intCmp], .d (.bool _), h⟩
 case geq => exact ⟨_, _, by simp [binOp, Op.intCmp], .d (.bool _), h⟩
 case and => exact ⟨_, _, by simp [binOp, Op.intBits], .d (.int _ _), h⟩
 case or => exact ⟨_, _, by simp [binOp, Op.intBits], .d (.int _ _), h⟩
 case xor => exact ⟨_, _, by simp [binOp, Op.intBits], .d (.int _ _), h⟩
theorem ashift_sound {g : Ghost} {w : World} {op : BinOp} {k k' : IntKind} {a b : Int} {K : AV → Prop} {t : TypeId} (h : ashift op k a b K) :
  ∃ u r, (binOp op t (.int k a) (.int k' b)).run P w = .ok u w ∧ RepA g w r u ∧ K r := by
 cases op <;> simp only [ashift] at h
 case shl =>
  obtain ⟨hb, h⟩ := h
  obtain ⟨r, hr, hK⟩ := num_sound (g := g) (w := w) h
  exact ⟨_, r, by simp [binOp, Op.shift, show ¬ b < 0 by omega], hr, hK⟩
 case shr =>
  obtain ⟨hb, h⟩ := h
  exact ⟨_, _, by simp [binOp, Op.shift, show ¬ b < 0 by omega], .d (.int _ _), h⟩
theorem astr_sound {g : Ghost} {w : World} {op : BinOp} {a b : List UInt8} {K : AV → Prop} {t : TypeId} (h : astr op a b K) :
  ∃ u r, (binOp op t (.string ⟨a.toArray⟩) (.string ⟨b.toArray⟩)).run P w = .ok u w ∧ RepA g w r u ∧ K r := by
 have hab : (a == b) = decide (a = b) := by rw [Bool.eq_iff_iff]; simp
 cases op <;> simp only [astr] at h
 case add =>
  obtain ⟨hl, hK⟩ := h
  refine ⟨.string ⟨(a ++ b).toArray⟩, _, ?_, .d (.str _), hK⟩
  have : ¬ (((⟨a.toArray⟩ : ByteArray).size + (⟨b.toArray⟩ : ByteArray).size : Nat) : Int) > IntKind.i64.max := by
   show ¬ ((a.toArray.size + b.toArray.size : Nat) : Int) > _
   simp; omega
  simp only [binOp, Op.stringOp]
  rw [if_neg this]
  simp only [Sem.run_pure]
  congr 2
 case eql => exact ⟨_, _, by simp [binOp, Op.stringOp, ByteArray.toList_mk, hab], .d (.bool _), h⟩
 case neq => exact ⟨_, _, by simp [binOp, Op.stringOp, ByteArray.toList_mk, hab], .d (.bool _), h⟩
 case lss => exact ⟨_, _, by simp [binOp, Op.stringOp, ByteArray.toList_mk, hab], .d (.bool _), h⟩
 case leq => exact ⟨_, _, by simp [binOp, Op.stringOp, ByteArray.toList_mk, hab], .d (.bool _), h⟩
 case gtr => exact ⟨.bool (!(Op.bytesLess a b || decide (a = b))), _, by simp [binOp, Op.stringOp, ByteArray.toList_mk, hab], .d (.bool _), h⟩
 case geq => exact ⟨_, _, by simp [binOp, Op.stringOp, ByteArray.toList_mk, hab], .d (.bool _), h⟩
theorem eqIn_bool (d : Nat) {t : TypeId} {a b : Bool} (h : P.underlying t = some .bool) (w : World) : (Op.equalIn (d + 1) t (.bool a) (.bool b)).run P w = .ok (a == b) w := by
 simp [Op.equalIn, run_underlying h]
theorem eqIn_ptr_nil (d : Nat) {t e : TypeId} {a : Addr} (h : P.underlying t = some (.pointer e)) (w : World) : (Op.equalIn (d + 1) t (.pointer (some a)) (.pointer none)).run P w = .ok false w := by
 simp [Op.equalIn, run_underlying h]
theorem eqIn_nil_nil (d : Nat) {t e : TypeId} (h : P.underlying t = some (.pointer e)) (w : World) : (Op.equalIn (d + 1) t (.pointer none) (.pointer none)).run P w = .ok true w := by
 simp [Op.equalIn, run_underlying h]
theorem run_equal_bool {t : TypeId} {a b : Bool} (h : P.underlying t = some .bool) (w : World) : (Op.equal t (.bool a) (.bool b)).run P w = .ok (a == b) w := eqIn_bool 9999 h w
theorem run_equal_ptr_nil {t e : TypeId} {a : Addr} (h : P.underlying t = some (.pointer e)) (w : World) : (Op.equal t (.pointer (some a)) (.pointer none)).run P w = .ok false w := eqIn_ptr_nil 9999 h w
theorem run_equal_nil_nil {t e : TypeId} (h : P.underlying t = some (.pointer e)) (w : World) : (Op.equal t (.pointer none) (.pointer none)).run P w = .ok true w := eqIn_nil_nil 9999 h w
theorem eqIn_slice_none (d : Nat) {t e : TypeId} (h : P.underlying t = some (.slice e)) (n c : Nat) (w : World) : (Op.equalIn (d + 1) t (.slice none n c) (.slice none 0 0)).run P w = .ok true w := by
 simp [Op.equalIn, run_underlying h]
theorem eqIn_slice_some (d : Nat) {t e : TypeId} {a : Addr} (h : P.underlying t = some (.slice e)) (n c : Nat) (w : World) : (Op.equalIn (d + 1) t (.slice (some a) n c) (.slice none 0 0)).run P w = .ok false w := by
 simp [Op.equalIn, run_underlying h]
theorem slice_nil {g : Ghost} {w : World} {t e : TypeId} {rows : List (List D)} {v : Value} {K : Bool → Prop} (h : P.underlying t = some (.slice e)) (hr : RepA g w (.d (.sl rows)) v) (hK : nilTest rows K) :
  ∃ b, (Op.equal t v (.slice none 0 0)).run P w = .ok b w ∧ K b ∧ (∀ vs, v ≠ .agg vs) ∧ v ≠ .nilIface := by
 cases hr with
 | d hx =>
  cases hx with
  | sl0 a cap =>
   cases a with
   | none => exact ⟨true, eqIn_slice_none 9999 h 0 cap w, hK.1, by simp, by simp⟩
   | some a => exact ⟨false, eqIn_slice_some 9999 h 0 cap w, hK.2, by simp, by simp⟩
  | sl rows b o cap sz f hI hcap hsz hc hr =>
   refine ⟨false, eqIn_slice_some 9999 h _ cap w, ?_, by simp, by simp⟩
   cases rows with
   | nil => exact hK.2
   | cons r rs => exact hK
theorem guard_ok (op : BinOp) (t : TypeId) (x y : Operand) (a b : Value) (ha : (∀ v, a ≠ .agg v) ∧ a ≠ .nilIface) : eqGuard op t x y a b = pure () := by
 cases op <;> cases a <;> first | rfl | exact absurd rfl ha.2 | exact absurd rfl (ha.1 _)
theorem leaf_part {t : TypeId} {k : Nat} (h : leafK P t = some k) (xs : Array Value) (i : Nat) (v : Value) (hv : xs[i]? = some v) (w : World) : (part t xs i).run P w = .ok v w := by
 have hagg : (isAgg t).run P w = .ok false w := by
  unfold leafK at h
  cases hu : P.underlying t with
  | none => rw [hu] at h; cases h
  | some U =>
   rw [hu] at h
   cases U <;> first | (simp [isAgg, run_underlying hu]; done) | cases h
 simp [part, hagg, hv]
theorem dEq_sound {g : Ghost} {w : World} {t : TypeId} {k : Nat} {a b : AV} {x : Bool} {v u : Value} (hk : leafK P t = some k) (h : dEq k a b = some x) (hv : RepA g w a v) (hu : RepA g w b u) (d : Nat) : (Op.equalIn (d + 1) t v u).run P w = .ok x w := by
 unfold leafK at hk
 unfold dEq at h
 split at h
 ·cases repA_bool hv; cases repA_bool hu
  cases hU : P.underlying t with
  | none => rw [hU] at hk; cases hk
  | some U =>
   rw [hU] at hk
   cases U <;> first | (cases hk; done) | skip
   cases h
   simp [Op.equalIn, run_underlying hU]
 ·cases repA_int hv; cases repA_int hu
  split at h
  ·rename_i hkk
   cases kEq_eq hkk
   cases hU : P.underlying t with
   | none => rw [hU] at hk; cases hk
   | some U =>
    rw [hU] at hk
    cases U <;> first | (cases hk; done) | skip
    cases h
    simp [Op.equalIn, run_underlying hU]
    rfl
  ·cases h
 ·cases repA_str hv; cases repA_str hu
  rename_i a b
  have hab : (a == b) = decide (a = b) := by rw [Bool.eq_iff_iff]; simp
  cases hU : P.underlying t with
  | none => rw [hU] at hk; cases hk
  | some U =>
   rw [hU] at hk
   cases U <;> first | (cases hk; done) | skip
   cases h
   simp [Op.equalIn, run_underlying hU, beq_toListBytes, ByteArray.toList_mk, hab]
 ·cases h
theorem eqFields_sound {g : Ghost} {w : World} (d : Nat) {xs ys : Array Value} : ∀ (fs : List Field) (i : Nat) (l : List Nat) (as bs : List AV) (x : Bool), leafFs P fs i = some l → aggEq l as bs = some x →
  (∀ (j : Nat) a, as[j]? = some a → ∃ v, xs[i + j]? = some v ∧ RepA g w a v) → (∀ (j : Nat) a, bs[j]? = some a → ∃ v, ys[i + j]? = some v ∧ RepA g w a v) → (Op.eqFields (d + 1) xs ys fs).run P w = .ok x w
 | [], i, l, as, bs, x, hl, h, _, _ => by
  simp [leafFs] at hl
  subst hl
  cases as <;> cases bs <;> simp [aggEq] at h
  subst h; simp [Op.eqFields]
 | f :: fs, i, l, as, bs, x, hl, h, hx, hy => by
  unfold leafFs at hl
  split at hl
  ·rename_i k l' hk hn hl'
   cases hl
   rw [Bool.and_eq_true] at hn
   have ho := Nat.eq_of_beq_eq_true hn.2
   have hname : f.name ≠ "_" := by simpa using hn.1
   match as, bs, h with
   | a :: as, b :: bs, h =>
    unfold aggEq at h
    split at h
    ·rename_i p q hp hq
     cases h
     obtain ⟨v, hv1, hv2⟩ := hx 0 a rfl
     obtain ⟨u, hu1, hu2⟩ := hy 0 b rfl
     have ih := eqFields_sound d fs (i + 1) l' as bs q hl' hq (fun j a ha => by rw [show i + 1 + j = i + (j + 1) by omega]; exact hx (j + 1) a (by simpa using ha)) (fun j a ha => by rw [show i + 1 + j = i + (j + 1) by omega]; exact hy (j + 1) a (by simpa using ha))
     unfold Op.eqFields
     rw [if_pos hname, ho]
     simp only [Sem.run_bind, leaf_part hk xs i v hv1, leaf_part hk ys i u hu1, Result.andThen_ok, dEq_sound hk hp hv2 hu2 d]
     cases p with
     | true => simpa using ih
     | false => simp
    ·cases h
   | [], [], h => simp [aggEq] at h
   | [], _ :: _, h => simp [aggEq] at h
   | _ :: _, [], h => simp [aggEq] at h
  ·cases hl
theorem eqItems_sound {g : Ghost} {w : World} (d : Nat) {xs ys : Array Value} {e : TypeId} {k : Nat} (hk : leafK P e = some k) : ∀ (n i : Nat) (as bs : List AV) (x : Bool), aggEq (List.replicate n k) as bs = some x →
  (∀ (j : Nat) a, as[j]? = some a → ∃ v, xs[i + j]? = some v ∧ RepA g w a v) → (∀ (j : Nat) a, bs[j]? = some a → ∃ v, ys[i + j]? = some v ∧ RepA g w a v) → (Op.eqItems (d + 1) e 1 xs ys (List.range' i n)).run P w = .ok x w
 | 0, i, as, bs, x, h, _, _ => by
  cases as <;> cases bs <;> simp [aggEq] at h
  subst h; simp [Op.eqItems]
 | n + 1, i, as, bs, x, h, hx, hy => by
  rw [List.replicate_succ] at h
  match as, bs, h with
  | a :: as, b :: bs, h =>
   unfold aggEq at h
   split at h
   ·rename_i p q hp hq
    cases h
    obtain ⟨v, hv1, hv2⟩ := hx 0 a rfl
    obtain ⟨u, hu1, hu2⟩ := hy 0 b rfl
    have ih := eqItems_sound d hk n (i + 1) as bs q hq (fun j a ha => by rw [show i + 1 + j = i + (j + 1) by omega]; exact hx (j + 1) a (by simpa using ha)) (fun j a ha => by rw [show i + 1 + j = i + (j + 1) by omega]; exact hy (j + 1) a (by simpa using ha))
    rw [List.range'_succ]
    unfold Op.eqItems
    simp only [Nat.mul_one, Sem.run_bind, leaf_part hk xs i v hv1, leaf_part hk ys i u hu1, Result.andThen_ok, dEq_sound hk hp hv2 hu2 d]
    cases p with
    | true => simpa using ih
    | false => simp
   ·cases h
  | [], [], h => simp [aggEq] at h
  | [], _ :: _, h => simp [aggEq] at h
  | _ :: _, [], h => simp [aggEq] at h
theorem agg_get {g : Ghost} {w : World} {vs : List AV} {cs : Array Value} (h : RepA g w (.agg vs) (.agg cs)) (j : Nat) (a : AV) (ha : vs[j]? = some a) : ∃ v, cs[0 + j]? = some v ∧ RepA g w a v := by
 cases h with
 | agg _ _ hl hr =>
  have hlt : j < cs.size := by rw [← hl]; exact (List.getElem?_eq_some_iff.1 ha).1
  exact ⟨cs[j], by rw [Nat.zero_add, Array.getElem?_eq_getElem hlt], hr j a _ ha (Array.getElem?_eq_getElem hlt)⟩
theorem aeq_sound {g : Ghost} {w : World} {t : TypeId} {xs ys : List AV} {K : Bool → Prop} {cx cy : Array Value} (h : aeq (tabOf P) t xs ys K) (hx : RepA g w (.agg xs) (.agg cx)) (hy : RepA g w (.agg ys) (.agg cy)) :
  ∃ b, (Op.equalIn 10000 t (.agg cx) (.agg cy)).run P w = .ok b w ∧ K b ∧ ∀ (op : BinOp) (X Y : Operand), (eqGuard op t X Y (.agg cx) (.agg cy)).run P w = .ok () w := by
 unfold aeq at h
 have ht : nth (tabOf P) t = tiOf P t := by
  rcases nth_tab (P := P) t with h' | h'
  ·exact h'.1
  ·rw [h'] at h; exact h.elim
 rw [ht] at h
 split at h
 ·rename_i l hl
  split at h
  ·rename_i b hb
   have hl' : eqKinds P t = some l := hl
   unfold eqKinds at hl'
   split at hl'
   ·rename_i fs hu
    split at hl'
    ·rename_i hs hgd
     have hfs : P.fieldsOf t = fs := by simp [Program.fieldsOf, hu]
     refine ⟨b, ?_, h, fun op X Y => run_eqGuard_agg w op t X Y cx cy hgd⟩
     rw [run_equalIn_struct w 9999 t cx cy (by rw [hfs]; exact hu) hs, hfs]
     exact eqFields_sound 9998 fs.toList 0 l xs ys b hl' hb (agg_get hx) (agg_get hy)
    ·cases hl'
   ·rename_i n e hu
    split at hl'
    ·rename_i k hgd hk hc hn hi
     cases hl'
     obtain ⟨i, hi⟩ := Option.isSome_iff_exists.1 hi
     refine ⟨b, ?_, h, fun op X Y => run_eqGuard_agg w op t X Y cx cy hgd⟩
     rw [run_equalIn_array w 9999 cx cy hu hi, Nat.eq_of_beq_eq_true hc, List.range_eq_range']
     exact eqItems_sound 9998 hk n 0 xs ys b hb (agg_get hx) (agg_get hy)
    ·cases hl'
   ·cases hl'
  ·exact h.elim
 ·exact h.elim
theorem bin_sound {g : Ghost} {w : World} {op : BinOp} {t : TypeId} {x y : AV} {v u : Value} {X Y : Operand} {K : AV → Prop} (h : abin (tabOf P) op t x y K) (hx : RepA g w x v) (hy : RepA g w y u) :
  ∃ z r, (do eqGuard op t X Y v u; binOp op t v u : Sem Value).run P w = .ok z w ∧ RepA g w r z ∧ K r := by
 unfold abin at h
 split at h
 ·rename_i k1 a1 k2 b1
  cases repA_int hx; cases repA_int hy
  rw [guard_ok _ _ _ _ _ _ ⟨by simp, by simp⟩]
  exact ashift_sound (t := t) (k' := k2) h
 ·rename_i k1 a1 k2 b1
  cases repA_int hx; cases repA_int hy
  rw [guard_ok _ _ _ _ _ _ ⟨by simp, by simp⟩]
  exact ashift_sound (t := t) (k' := k2) h
 ·cases repA_int hx; cases repA_int hy
  rw [guard_ok _ _ _ _ _ _ ⟨by simp, by simp⟩]
  obtain ⟨hk, h1⟩ := chk_eq h
  cases kEq_eq hk
  exact aint_sound h1
 ·cases repA_str hx; cases repA_str hy
  rw [guard_ok _ _ _ _ _ _ ⟨by simp, by simp⟩]
  exact astr_sound h
 ·cases repA_bool hx; cases repA_bool hy
  rw [guard_ok _ _ _ _ _ _ ⟨by simp, by simp⟩]
  obtain ⟨hd, h⟩ := chk_eq h
  exact ⟨_, _, by simp [binOp, run_equal_bool (und_bool (isBoolTD_eq hd))], .d (.bool _), h⟩
 ·cases repA_bool hx; cases repA_bool hy
  rw [guard_ok _ _ _ _ _ _ ⟨by simp, by simp⟩]
  obtain ⟨hd, h⟩ := chk_eq h
  exact ⟨_, _, by simp [binOp, run_equal_bool (und_bool (isBoolTD_eq hd))], .d (.bool _), h⟩
 ·cases hx; cases hy
  rw [guard_ok _ _ _ _ _ _ ⟨by simp, by simp⟩]
  obtain ⟨hd, h⟩ := chk_eq h
  obtain ⟨e, he⟩ := isPtrTD_eq hd
  exact ⟨.bool false, _, by simp [binOp, run_equal_ptr_nil (und_ptr he)], .d (.bool _), h⟩
 ·cases hx; cases hy
  rw [guard_ok _ _ _ _ _ _ ⟨by simp, by simp⟩]
  obtain ⟨hd, h⟩ := chk_eq h
  obtain ⟨e, he⟩ := isPtrTD_eq hd
  exact ⟨.bool true, _, by simp [binOp, run_equal_ptr_nil (und_ptr he)], .d (.bool _), h⟩
 ·cases hx; cases hy
  rw [guard_ok _ _ _ _ _ _ ⟨by simp, by simp⟩]
  obtain ⟨hd, h⟩ := chk_eq h
  obtain ⟨e, he⟩ := isPtrTD_eq hd
  exact ⟨.bool true, _, by simp [binOp, run_equal_nil_nil (und_ptr he)], .d (.bool _), h⟩
 ·cases hx; cases hy
  rw [guard_ok _ _ _ _ _ _ ⟨by simp, by simp⟩]
  obtain ⟨hd, h⟩ := chk_eq h
  obtain ⟨e, he⟩ := isPtrTD_eq hd
  exact ⟨.bool false, _, by simp [binOp, run_equal_nil_nil (und_ptr he)], .d (.bool _), h⟩
 ·obtain ⟨hd, h⟩ := chk_eq h
  obtain ⟨e, he⟩ := isSliceTD_eq hd
  cases hy
  obtain ⟨b, h1, h2, h3, h4⟩ := slice_nil (und_slice he) hx h
  refine ⟨.bool b, _, ?_, .d (.bool _), h2⟩
  rw [guard_ok _ _ _ _ _ _ ⟨h3, h4⟩]
  simp [binOp, h1]
 ·rename_i i lo len
  obtain ⟨hd, h⟩ := chk_eq h
  obtain ⟨e, he⟩ := isSliceTD_eq hd
  cases hy
  cases hx with
  | own _ _ _ cap hi hc hl =>
   refine ⟨.bool false, _, ?_, .d (.bool _), h.2⟩
   rw [guard_ok _ _ _ _ _ _ ⟨by simp, by simp⟩]
   simp [binOp, show (Op.equal t (.slice (some ⟨g.blk i, lo * g.sz i, none⟩) len cap) (.slice none 0 0)).run P w = .ok false w from eqIn_slice_some 9999 (und_slice he) len cap w]
  | own0 _ _ hi =>
   refine ⟨.bool true, _, ?_, .d (.bool _), h.1 rfl⟩
   rw [guard_ok _ _ _ _ _ _ ⟨by simp, by simp⟩]
   simp [binOp, show (Op.equal t (.slice none 0 0) (.slice none 0 0)).run P w = .ok true w from eqIn_slice_none 9999 (und_slice he) 0 0 w]
 ·obtain ⟨hd, h⟩ := chk_eq h
  obtain ⟨e, he⟩ := isSliceTD_eq hd
  cases hy
  obtain ⟨b, h1, h2, h3, h4⟩ := slice_nil (und_slice he) hx h
  refine ⟨.bool (!b), _, ?_, .d (.bool _), h2⟩
  rw [guard_ok _ _ _ _ _ _ ⟨h3, h4⟩]
  simp [binOp, h1]
 ·have hx0 := hx
  have hy0 := hy
  cases hx; cases hy
  obtain ⟨b, h1, h2, h3⟩ := aeq_sound h hx0 hy0
  refine ⟨.bool b, _, ?_, .d (.bool _), h2⟩
  simp only [Sem.run_bind, h3, Result.andThen_ok, run_eql_struct, h1]
 ·have hx0 := hx
  have hy0 := hy
  cases hx; cases hy
  obtain ⟨b, h1, h2, h3⟩ := aeq_sound h hx0 hy0
  refine ⟨.bool (!b), _, ?_, .d (.bool _), h2⟩
  simp only [Sem.run_bind, h3, Result.andThen_ok, run_neq_struct, h1]
 ·exact h.elim
theorem nrm_ok {g : Ghost} {w : World} {a : AV} {v : Value} (h : RepA g w a v) : RepA g w (nrm a) v := by
 unfold nrm
 split
 ·cases h; exact .d (.bool _)
 ·cases h; exact .d (.bool _)
 ·exact h
theorem un_sound {g : Ghost} {w : World} {op : UnOp} {x : AV} {v : Value} {K : AV → Prop} (h : aun op x K) (hx : RepA g w x v) :
  ∃ z r, (Op.unary op v).run P w = .ok z w ∧ RepA g w r z ∧ K r := by
 unfold aun at h
 split at h
 ·cases repA_bool hx
  exact ⟨_, _, by simp [Op.unary], .d (.bool _), h⟩
 ·cases hx; exact ⟨_, _, rfl, .ff, h⟩
 ·cases hx; exact ⟨_, _, rfl, .tt, h⟩
 ·cases repA_int hx
  obtain ⟨r, hr, hK⟩ := num_sound (g := g) (w := w) h
  exact ⟨_, r, rfl, hr, hK⟩
 ·exact h.elim
end
end Go.Aw

namespace Go.Aw
set_option linter.unusedVariables false
set_option linter.unusedSimpArgs false
section
variable {P : Program}
def RepO (g : Ghost) (w : World) : Option AV → Option Value → Prop
 | none, none => True
 | some a, some v => RepA g w a v
 | _, _ => False
theorem abound_sound {g : Ghost} {w : World} {x : Option AV} {x' : Option Value} {dflt : Int} {K : Int → Prop} (h : abound x dflt K) (hr : RepO g w x x') :
  ∃ n, K n ∧ ((x' = none ∧ n = dflt) ∨ ∃ k, x' = some (.int k n)) := by
 cases x with
 | none => cases x' with
  | none => exact ⟨dflt, h, .inl ⟨rfl, rfl⟩⟩
  | some v => exact hr.elim
 | some a => cases x' with
  | none => exact hr.elim
  | some v =>
   cases a with
   | d x => cases x with
    | int k n => cases repA_int hr; exact ⟨n, h, .inr ⟨k, rfl⟩⟩
    | _ => exact h.elim
   | _ => exact h.elim
theorem run_sliceBound (k : IntKind) (n : Int) (y : Nat) (code : BoundsCode) (w : World) (h : 0 ≤ n ∧ n ≤ y) : (Instr.sliceBound (.int k n) y code).run P w = .ok n.toNat w := by
 simp [Instr.sliceBound, asIntOf, h]
theorem run_bounds {isSlice : Bool} {len cap : Nat} {lo hi : Option Value} {l h : Int} {w : World} (hlo : (lo = none ∧ l = 0) ∨ ∃ k, lo = some (.int k l)) (hhi : (hi = none ∧ h = len) ∨ ∃ k, hi = some (.int k h))
  (b : 0 ≤ l ∧ l ≤ h ∧ h ≤ cap) : (Instr.sliceBounds isSlice len cap lo hi none).run P w = .ok (l.toNat, h.toNat, cap) w := by
 have hh : ((h.toNat : Nat) : Int) = h := by omega
 rcases hlo with ⟨rfl, rfl⟩ | ⟨k, rfl⟩ <;> rcases hhi with ⟨rfl, rfl⟩ | ⟨k', rfl⟩
 ·simp [Instr.sliceBounds]
 ·simp [Instr.sliceBounds, run_sliceBound k' h cap _ w (by omega)]
 ·simp [Instr.sliceBounds, run_sliceBound k l len _ w (by omega)]
 ·simp [Instr.sliceBounds, run_sliceBound k' h cap _ w (by omega), run_sliceBound k l h.toNat _ w (by omega)]
theorem run_bounds3 {isSlice : Bool} {len cap : Nat} {lo : Option Value} {k k' : IntKind} {l h m : Int} {w : World} (hlo : (lo = none ∧ l = 0) ∨ ∃ k, lo = some (.int k l))
  (b : 0 ≤ l ∧ l ≤ h ∧ h ≤ m ∧ m ≤ cap) : (Instr.sliceBounds isSlice len cap lo (some (.int k h)) (some (.int k' m))).run P w = .ok (l.toNat, h.toNat, m.toNat) w := by
 rcases hlo with ⟨rfl, rfl⟩ | ⟨k2, rfl⟩
 ·simp [Instr.sliceBounds, run_sliceBound k' m cap _ w (by omega), run_sliceBound k h m.toNat _ w (by omega)]
 ·simp [Instr.sliceBounds, run_sliceBound k' m cap _ w (by omega), run_sliceBound k h m.toNat _ w (by omega), run_sliceBound k2 l h.toNat _ w (by omega)]
theorem run_sliceAt_other {t : TypeId} {d : TypeDesc} (h : P.underlying t = some d) (hd : ∀ n e, d ≠ .array n e) (x : Value) (lo hi mx : Option Value) (w : World) :
  (Instr.sliceAt t x lo hi mx).run P w = (Instr.slice t x lo hi mx).run P w := by
 simp only [Instr.sliceAt, Sem.run_bind, run_underlying h, Result.andThen]
theorem repD_part {I : Nat → Prop} {w : World} {rows : List (List D)} {b o cap sz : Nat} {f : Nat → Nat → Value} (hI : I b) (hcap : rows.length ≤ cap)
  (hsz : ∀ (i : Nat) row, rows[i]? = some row → row.length = sz)
  (hc : ∀ (i j : Nat) row x, rows[i]? = some row → row[j]? = some x → w.cell? ⟨b, o + (i * sz + j), none⟩ = some (f i j))
  (hr : ∀ (i j : Nat) row x, rows[i]? = some row → row[j]? = some x → RepD I w x (f i j)) (l h cap' : Nat) (hlh : l ≤ h) (hh : h ≤ rows.length) (hcap' : h - l ≤ cap') :
  RepD I w (.sl ((rows.take h).drop l)) (.slice (some ⟨b, o + l * sz, none⟩) (h - l) cap') := by
 have hlen : ((rows.take h).drop l).length = h - l := by simp; omega
 have key : ∀ (i : Nat) row, ((rows.take h).drop l)[i]? = some row → rows[l + i]? = some row := by
  intro i row hi
  rw [List.getElem?_drop, List.getElem?_take] at hi
  split at hi
  ·exact hi
  ·cases hi
 rw [← hlen]
 refine .sl _ b _ cap' sz (fun i j => f (l + i) j) hI (by omega) (fun i row hi => hsz _ row (key i row hi)) (fun i j row x hi hj => ?_) (fun i j row x hi hj => hr _ _ row x (key i row hi) hj)
 have := hc (l + i) j row x (key i row hi) hj
 rw [show o + l * sz + (i * sz + j) = o + ((l + i) * sz + j) by rw [Nat.add_mul]; omega]
 exact this
theorem known_info {e : Nat} (h : known (nth (tabOf P) e) = true) : ∃ i, P.info? e = some i ∧ (nth (tabOf P) e).size = P.cellsOf e := by
 have hd : (nth (tabOf P) e).d ≠ .other := by intro hd; unfold known at h; rw [hd] at h; cases h
 obtain ⟨d, hd'⟩ := und_some hd
 obtain ⟨i, hi⟩ := info_of_und hd'
 exact ⟨i, hi, size_eq hd⟩
theorem repO_none {g : Ghost} {w : World} {x : Option Value} (h : RepO g w none x) : x = none := by cases x <;> first | rfl | exact h.elim
theorem toArray_bytes (l : List UInt8) (b : ByteArray) (h : b.data.toList = l) : b = ⟨l.toArray⟩ := by cases b; subst h; simp
theorem run_slice2 {t e : Nat} {a : Option Addr} {len cap : Nat} {lo hi : Option Value} {l h : Int} {i : TypeInfo} {w : World} (hu : P.underlying t = some (.slice e)) (hie : P.info? e = some i)
  (el : (lo = none ∧ l = 0) ∨ ∃ k, lo = some (.int k l)) (eh : (hi = none ∧ h = len) ∨ ∃ k, hi = some (.int k h)) (b : 0 ≤ l ∧ l ≤ h ∧ h ≤ cap) :
  (Instr.sliceAt t (.slice a len cap) lo hi none).run P w = .ok (.slice (if cap = l.toNat then a else a.map (·.add (l.toNat * P.cellsOf e))) (h.toNat - l.toNat) (cap - l.toNat)) w := by
 rw [run_sliceAt_other hu (by simp)]
 simp only [Instr.slice, Sem.run_bind, run_underlying hu, Result.andThen]
 rw [run_bounds el eh b]
 simp [run_sizeOf hie]
theorem run_slice3 {t e : Nat} {a : Option Addr} {len cap : Nat} {lo : Option Value} {k k' : IntKind} {l h m : Int} {i : TypeInfo} {w : World} (hu : P.underlying t = some (.slice e)) (hie : P.info? e = some i)
  (el : (lo = none ∧ l = 0) ∨ ∃ k, lo = some (.int k l)) (b : 0 ≤ l ∧ l ≤ h ∧ h ≤ m ∧ m ≤ cap) :
  (Instr.sliceAt t (.slice a len cap) lo (some (.int k h)) (some (.int k' m))).run P w = .ok (.slice (if m.toNat = l.toNat then a else a.map (·.add (l.toNat * P.cellsOf e))) (h.toNat - l.toNat) (m.toNat - l.toNat)) w := by
 rw [run_sliceAt_other hu (by simp)]
 simp only [Instr.slice, Sem.run_bind, run_underlying hu, Result.andThen]
 rw [run_bounds3 el b]
 simp [run_sizeOf hie]
theorem some_bound {g : Ghost} {w : World} {x : Option AV} {x' : Option Value} {n d : Int} (h : (x' = none ∧ n = d) ∨ ∃ k, x' = some (.int k n)) (hr : RepO g w x x') (hs : x.isSome = true) : ∃ k, x' = some (.int k n) := by
 rcases h with ⟨rfl, _⟩ | h
 ·cases x with
  | none => cases hs
  | some a => exact hr.elim
 ·exact h
theorem slice_sound {g : Ghost} {σ : Store} {w : World} {t : Nat} {x : AV} {v : Value} {lo hi mx : Option AV} {lo' hi' mx' : Option Value} {K : AV → Prop} (h : aslice (tabOf P) σ t x lo hi mx K) (R : StoreRel P g σ w)
  (hx : RepA g w x v) (hlo : RepO g w lo lo') (hhi : RepO g w hi hi') (hmx : RepO g w mx mx') :
  ∃ u r, (Instr.sliceAt t v lo' hi' mx').run P w = .ok u w ∧ RepA g w r u ∧ K r := by
 unfold aslice at h
 split at h
 ·rename_i hd
  obtain rfl := repO_none hmx
  rename_i s
  cases repA_str hx
  have hu := und_str hd
  obtain ⟨l, h, el⟩ := abound_sound h hlo
  obtain ⟨n, ⟨hb, hK⟩, eh⟩ := abound_sound h hhi
  have hsz : (⟨s.toArray⟩ : ByteArray).size = s.length := by show s.toArray.size = _; simp
  refine ⟨.string ⟨((s.take n.toNat).drop l.toNat).toArray⟩, _, ?_, .d (.str _), hK⟩
  rw [run_sliceAt_other hu (by simp)]
  simp only [Instr.slice, Sem.run_bind, run_underlying hu, Result.andThen]
  rw [if_neg (by simp)]
  simp only [Sem.run_pure, Sem.run_bind, Result.andThen]
  rw [run_bounds el (by rw [hsz]; exact eh) (by rw [hsz]; omega)]
  simp only [Result.andThen, Sem.run_pure]
  congr 2
  refine toArray_bytes _ _ ?_
  rw [Lib.extract_data, List.drop_take]
 ·rename_i e rows hd
  obtain rfl := repO_none hmx
  have hu := und_slice hd
  obtain ⟨hkn, h⟩ := chk_eq h
  obtain ⟨i, hie, hse⟩ := known_info hkn
  obtain ⟨l, h, el⟩ := abound_sound h hlo
  obtain ⟨n, ⟨hb, hrow, hK⟩, eh⟩ := abound_sound h hhi
  cases hx with
  | d hx =>
  cases hx with
  | sl0 a cap =>
   simp only [List.length_nil, Int.natCast_zero] at hb eh
   obtain rfl : l = 0 := by omega
   obtain rfl : n = 0 := by omega
   refine ⟨_, .d (.sl []), run_slice2 hu hie el eh (by omega), ?_, by simpa using hK⟩
   exact .d (.sl0 _ _)
  | sl _ b o cap sz f hI hcap hsz hc hr =>
   refine ⟨_, _, run_slice2 hu hie el eh (by omega), ?_, hK⟩
   by_cases hln : l = n
   ·subst hln
    have e1 : (rows.take l.toNat).drop l.toNat = [] := by rw [List.drop_eq_nil_iff]; simp; omega
    rw [e1, Nat.sub_self]
    exact .d (.sl0 _ _)
   ·have hcl : cap ≠ l.toNat := by omega
    rw [if_neg hcl]
    have hsz' : l.toNat * P.cellsOf e = l.toNat * sz := by
     rcases hrow with h0 | h0 | ⟨row, hr0, hl0⟩
     ·subst h0; simp
     ·exact absurd h0 hln
     ·rw [← hse, ← hl0, hsz 0 row hr0]
    simp only [Option.map_some, Addr.add_none, hsz']
    exact .d (repD_part hI hcap hsz hc hr l.toNat n.toNat _ (by omega) (by omega) (by omega))
 ·rename_i e rows m hd
  have hu := und_slice hd
  obtain ⟨hkn, h⟩ := chk_eq h
  obtain ⟨his, h⟩ := chk_eq h
  obtain ⟨i, hie, hse⟩ := known_info hkn
  obtain ⟨l, h, el⟩ := abound_sound h hlo
  obtain ⟨n, h, eh⟩ := abound_sound h hhi
  obtain ⟨m', ⟨hb, hK⟩, em⟩ := abound_sound h hmx
  obtain ⟨rfl, hn0, hn1, rfl⟩ := hb
  obtain ⟨km, rfl⟩ := some_bound em hmx rfl
  obtain ⟨kh, rfl⟩ := some_bound eh hhi his
  ··cases hx with
    | d hx =>
    cases hx with
    | sl0 a cap =>
     simp only [List.length_nil, Int.natCast_zero] at hn1
     obtain rfl : m' = 0 := by omega
     refine ⟨_, .dt [], run_slice3 hu hie el (by omega), ?_, by simpa using hK⟩
     exact .dt [] _ (.sl0 _ _)
    | sl _ b o cap sz f hI hcap hsz hc hr =>
     refine ⟨_, _, run_slice3 hu hie el (by omega), ?_, hK⟩
     have hlen : (rows.take m'.toNat).length = m'.toNat := by simp; omega
     have key := repD_part hI hcap hsz hc hr 0 m'.toNat m'.toNat (by omega) (by omega) (by omega)
     simp only [List.drop_zero, Nat.zero_mul, Nat.add_zero, Nat.sub_zero] at key
     simp only [Int.toNat_zero, Nat.sub_zero, Nat.zero_mul, Option.map_some, Addr.add_none, Nat.add_zero, ite_self]
     have hgo : ∀ n, n = (rows.take m'.toNat).length → RepA g w (.dt (rows.take m'.toNat)) (.slice (some ⟨b, o, none⟩) n n) := by
      rintro n rfl
      exact .dt _ _ (by rw [hlen]; exact key)
     exact hgo m'.toNat hlen.symm
 ·rename_i e j olo len hd
  obtain rfl := repO_none hmx
  have hu := und_slice hd
  obtain ⟨hkn, h⟩ := chk_eq h
  obtain ⟨i, hie, hse⟩ := known_info hkn
  obtain ⟨l, h, el⟩ := abound_sound h hlo
  obtain ⟨n, ⟨hb, h⟩, eh⟩ := abound_sound h hhi
  cases hx with
  | own0 _ _ hj =>
   obtain rfl : l = 0 := by omega
   obtain rfl : n = 0 := by omega
   rcases h with ⟨_, hK⟩ | ⟨_, hK⟩ | ⟨hlt, _⟩
   ·exact ⟨_, _, run_slice2 (l := 0) (h := 0) hu hie el (by simpa using eh) (by omega), by simpa using RepA.own0 (g := g) (w := w) j olo hj, hK⟩
   ·exact ⟨_, _, run_slice2 (l := 0) (h := 0) hu hie el (by simpa using eh) (by omega), .d (.sl0 _ _), hK⟩
   ·omega
  | own _ _ _ cap hj hcap hl =>
  rcases h with ⟨rfl, hK⟩ | ⟨rfl, hK⟩ | ⟨hlt, hK⟩
  ·refine ⟨_, _, run_slice2 hu hie el eh (by omega), ?_, hK⟩
   simp only [Int.toNat_zero, Nat.sub_zero, Nat.zero_mul, Option.map_some, Addr.add_none, Nat.add_zero, ite_self]
   exact .own j olo n.toNat cap hj hcap (by omega)
  ·refine ⟨_, _, run_slice2 hu hie el eh (by omega), ?_, hK⟩
   rw [Nat.sub_self]
   exact .d (.sl0 _ _)
  ·obtain ⟨hrw, hK⟩ := chk_eq hK
   refine ⟨_, _, run_slice2 hu hie el eh (by omega), ?_, hK⟩
   obtain ⟨sz0, rs, ho, hs0⟩ := isRows_eq hrw
   have hob := R.ob j hj
   rw [ho] at hob
   have hz := hob.rows_sz
   rw [hs0] at hz
   have hsz : P.cellsOf e = g.sz j := by rw [← hse, hz]
   rw [if_neg (by omega)]
   simp only [Option.map_some, Addr.add_none, hsz]
   rw [← Nat.add_mul, Nat.add_comm olo, show n.toNat - l.toNat = (n - l).toNat by omega]
   exact .own j (l.toNat + olo) _ _ hj (by omega) (by omega)
 ·rename_i e j olo len m hd
  have hu := und_slice hd
  obtain ⟨hkn, h⟩ := chk_eq h
  obtain ⟨his, h⟩ := chk_eq h
  obtain ⟨i, hie, hse⟩ := known_info hkn
  obtain ⟨l, h, el⟩ := abound_sound h hlo
  obtain ⟨n, h, eh⟩ := abound_sound h hhi
  obtain ⟨m', ⟨hb, hK⟩, em⟩ := abound_sound h hmx
  obtain ⟨rfl, hn0, hn1, rfl⟩ := hb
  obtain ⟨km, rfl⟩ := some_bound em hmx rfl
  obtain ⟨kh, rfl⟩ := some_bound eh hhi his
  cases hx with
  | own0 _ _ hj =>
   obtain rfl : m' = 0 := by omega
   exact ⟨_, .tight j olo 0, run_slice3 hu hie el (by omega), by simpa using RepA.tight0 (g := g) (w := w) j olo hj, hK⟩
  | own _ _ _ cap hj hcap hl =>
  refine ⟨_, _, run_slice3 hu hie el (by omega), ?_, hK⟩
  simp only [Int.toNat_zero, Nat.sub_zero, Nat.zero_mul, Option.map_some, Addr.add_none, Nat.add_zero, ite_self]
  exact .tight j olo _ hj
 ·rename_i e hd
  obtain rfl := repO_none hmx
  have hu := und_slice hd
  obtain ⟨hkn, h⟩ := chk_eq h
  obtain ⟨i, hie, hse⟩ := known_info hkn
  obtain ⟨l, h, el⟩ := abound_sound h hlo
  obtain ⟨n, ⟨⟨rfl, rfl⟩, hK⟩, eh⟩ := abound_sound h hhi
  cases hx
  exact ⟨_, .nil, run_slice2 (l := 0) (h := 0) hu hie el (by simpa using eh) (by omega), by simpa using RepA.nil, hK⟩
 ·rename_i e m hd
  have hu := und_slice hd
  obtain ⟨hkn, h⟩ := chk_eq h
  obtain ⟨his, h⟩ := chk_eq h
  obtain ⟨i, hie, hse⟩ := known_info hkn
  obtain ⟨l, h, el⟩ := abound_sound h hlo
  obtain ⟨n, h, eh⟩ := abound_sound h hhi
  obtain ⟨m', ⟨⟨rfl, rfl, rfl⟩, hK⟩, em⟩ := abound_sound h hmx
  obtain ⟨km, rfl⟩ := some_bound em hmx rfl
  obtain ⟨kh, rfl⟩ := some_bound eh hhi his
  cases hx
  exact ⟨_, .nil, run_slice3 hu hie el (by omega), by simpa using RepA.nil, hK⟩
 ·exact h.elim
structure TOk (P : Program) (e : Nat) : Prop where
 und : ∃ d, P.underlying e = some d
 tab : nth (tabOf P) e = tiOf P e
theorem TOk.info {e : Nat} (h : TOk P e) : ∃ i, P.info? e = some i := info_of_und h.und.choose_spec
theorem TOk.size {e : Nat} (h : TOk P e) : (nth (tabOf P) e).size = P.cellsOf e := by rw [h.tab]; rfl
theorem TOk.bytes {e : Nat} (h : TOk P e) : (nth (tabOf P) e).bytes = P.bytesOf e := by rw [h.tab]; rfl
theorem TOk.agg {e : Nat} (h : TOk P e) : isAggTD (nth (tabOf P) e).d = isAggB P e := by
 rw [h.tab]
 show isAggTD (tdOf P e) = isAggB P e
 unfold isAggB tdOf isAggTD
 cases P.underlying e with
 | none => rfl
 | some d => cases d <;> rfl
theorem fieldAddr_sound {g : Ghost} {w : World} {s : Nat} {x : AV} {v : Value} {f : Nat} {K : AV → Prop} (h : afieldAddr (tabOf P) s x f K) (hx : RepA g w x v) :
  ∃ u r, (Instr.fieldAt s v f).run P w = .ok u w ∧ RepA g w r u ∧ K r := by
 unfold afieldAddr at h
 split at h
 ·rename_i fs hd
  obtain ⟨Fs, hu, rfl⟩ := und_struct hd
  split at h
  ·rename_i off size b1 b2 hf
   rw [List.getElem?_map] at hf
   cases hF : Fs.toList[f]? with
   | none => rw [hF] at hf; cases hf
   | some F =>
    rw [hF] at hf
    simp only [Option.map_some, Option.some.injEq, Prod.mk.injEq] at hf
    obtain ⟨rfl, rfl, _, _⟩ := hf
    have hF' : Fs[f]? = some F := by simpa using hF
    have hi : ∃ i, P.info? F.type = some i := by
     cases hi : P.info? F.type with
     | none => simp [Program.cellsOf, hi] at h
     | some i => exact ⟨i, rfl⟩
    obtain ⟨i, hi⟩ := hi
    split at h
    ·rename_i m r' c' i' hm
     cases hx with
     | ref _ _ _ hg =>
     refine ⟨_, _, ?_, .ref _ _ _ hg, h⟩
     simp only [Instr.fieldAt, Sem.run_bind, run_underlying hu, Result.andThen, hF', Instr.sureAddr, Sem.run_pure, fieldPlace, run_sizeOf hi, hm]
     simp [Addr.add_none, Nat.add_assoc]
    ·rename_i m row c' hm
     cases hx with
     | ip _ _ b o fn hI hc hr =>
     refine ⟨_, _, ?_, .ip row (c' + F.offset) b o fn hI hc hr, h⟩
     simp only [Instr.fieldAt, Sem.run_bind, run_underlying hu, Result.andThen, hF', Instr.sureAddr, Sem.run_pure, fieldPlace, run_sizeOf hi, hm]
     simp [Addr.add_none, Nat.add_assoc]
    ·exact h.elim
  ·exact h.elim
 ·exact h.elim
theorem part_sound {g : Ghost} {w : World} {ft off : Nat} {vs : List AV} {cs : Array Value} {K : AV → Prop} (hu : ∃ d, P.underlying ft = some d) (h : apart (isAggB P ft) (P.cellsOf ft) off vs K)
  (hx : RepA g w (.agg vs) (.agg cs)) : ∃ u r, (part ft cs off).run P w = .ok u w ∧ RepA g w r u ∧ K r := by
 obtain ⟨i, hi⟩ := info_of_und hu.choose_spec
 cases hx with
 | agg _ _ hl hcs =>
 unfold apart at h
 simp only [part, Sem.run_bind, run_isAgg hu, Result.andThen]
 cases hagg : isAggB P ft with
 | true =>
  rw [hagg] at h
  obtain ⟨hle, hK⟩ := h
  refine ⟨.agg (cs.extract off (off + P.cellsOf ft)), _, by simp [run_sizeOf hi], .agg _ _ (by simp; omega) (fun j a v ha hv => ?_), hK⟩
  rw [List.getElem?_take] at ha
  split at ha
  ·rw [List.getElem?_drop] at ha
   rename_i hj
   have : cs[off + j]? = some v := by
    rw [Array.getElem?_extract] at hv
    split at hv
    ·exact hv
    ·cases hv
   exact hcs (off + j) a v ha this
  ·cases ha
 | false =>
  rw [hagg] at h
  cases hv : vs[off]? with
  | none => rw [hv] at h; exact h.elim
  | some a =>
   rw [hv] at h
   simp only [force_eq] at h
   have hlt : off < cs.size := by rw [← hl]; exact lt_of_some hv
   refine ⟨cs[off], a, by simp [hlt], hcs off a _ hv (by simp [hlt]), h⟩
theorem field_sound {g : Ghost} {w : World} {t : Nat} {x : AV} {v : Value} {f : Nat} {K : AV → Prop} (hfo : ∀ Fs F, P.underlying t = some (.struct Fs) → Fs[f]? = some F → ∃ d, P.underlying F.type = some d)
  (h : afield (tabOf P) t x f K) (hx : RepA g w x v) : ∃ u r, (Instr.field t v f).run P w = .ok u w ∧ RepA g w r u ∧ K r := by
 unfold afield at h
 split at h
 ·rename_i fs vs hd
  obtain ⟨Fs, hu, rfl⟩ := und_struct hd
  cases hF : Fs.toList[f]? with
  | none => rw [List.getElem?_map, hF] at h; exact h.elim
  | some F =>
   rw [List.getElem?_map, hF] at h
   have hF' : Fs[f]? = some F := by simpa using hF
   cases hx with
   | agg _ cs hl hcs =>
   obtain ⟨u, r, hrun, hr, hK⟩ := part_sound (hfo Fs F hu hF') h (.agg vs cs hl hcs)
   refine ⟨u, r, ?_, hr, hK⟩
   simp only [Instr.field, Sem.run_bind, run_underlying hu, Result.andThen, hF', asAgg, Sem.run_pure]
   exact hrun
 ·exact h.elim
theorem indexAddr_sound {g : Ghost} {σ : Store} {w : World} {t : Nat} {x ix : AV} {v vi : Value} {K : AV → Prop} (hel : ∀ n e, P.underlying t = some (.array n e) → TOk P e)
  (hes : ∀ e, P.underlying t = some (.slice e) → TOk P e)
  (h : aindexAddr (tabOf P) σ t x ix K) (R : StoreRel P g σ w) (hx : RepA g w x v) (hi : RepA g w ix vi) :
  ∃ u r, (Instr.indexAt t v vi).run P w = .ok u w ∧ RepA g w r u ∧ K r := by
 unfold aindexAddr at h
 split at h
 ·rename_i e rows k n hd
  cases repA_int hi
  have hu := und_slice hd
  obtain ⟨i, hie⟩ := (hes e hu).info
  obtain ⟨hb, row, hrow, hrl, hK⟩ := h
  cases hx with
  | d hx =>
  cases hx with
  | sl0 a cap => simp at hb; omega
  | sl _ b o cap sz f hI hcap hsz' hc hr =>
   refine ⟨.pointer (some ⟨b, o + n.toNat * P.cellsOf e, none⟩), .ip row 0, ?_, ?_, hK⟩
   ·have hb' : 0 ≤ n ∧ n < (rows.length : Int) := hb
    simp [Instr.indexAt, asIntOf, run_underlying hu, hb', run_sizeOf hie, Addr.add_none]
   ·have es : P.cellsOf e = sz := by rw [← (hes e hu).size, ← hrl]; exact hsz' _ row hrow
    rw [es]
    exact .ip row 0 b (o + n.toNat * sz) (fun j => f n.toNat j) hI (fun j x hj => by rw [Nat.add_assoc]; exact hc _ j row x hrow hj) (fun j x hj => hr _ j row x hrow hj)
 ·rename_i e j lo len k n hd
  cases repA_int hi
  have hu := und_slice hd
  obtain ⟨i, hie⟩ := (hes e hu).info
  obtain ⟨hb, hK⟩ := h
  obtain ⟨hrw, hK⟩ := chk_eq hK
  obtain ⟨sz0, rs, ho, hs0⟩ := isRows_eq hrw
  cases hx with
  | own0 _ _ hj => omega
  | own _ _ _ cap hj hcap hl =>
  have hob := R.ob j hj
  rw [ho] at hob
  have hz := hob.rows_sz
  rw [hs0] at hz
  have es : P.cellsOf e = g.sz j := by rw [← (hes e hu).size, hz]
  refine ⟨.pointer (some ⟨g.blk j, (n.toNat + lo) * g.sz j + 0, none⟩), _, ?_, .ref j (n.toNat + lo) 0 hj, hK⟩
  simp [Instr.indexAt, asIntOf, run_underlying hu, hb, run_sizeOf hie, Addr.add_none, es, Nat.add_mul, Nat.add_comm]
 ·rename_i e j lo len k n hd
  cases repA_int hi
  have hu := und_slice hd
  obtain ⟨i, hie⟩ := (hes e hu).info
  obtain ⟨hb, hK⟩ := h
  obtain ⟨hrw, hK⟩ := chk_eq hK
  obtain ⟨sz0, rs, ho, hs0⟩ := isRows_eq hrw
  cases hx with
  | tight0 _ _ hj => omega
  | tight _ _ _ hj =>
  have hob := R.ob j hj
  rw [ho] at hob
  have hz := hob.rows_sz
  rw [hs0] at hz
  have es : P.cellsOf e = g.sz j := by rw [← (hes e hu).size, hz]
  refine ⟨.pointer (some ⟨g.blk j, (n.toNat + lo) * g.sz j + 0, none⟩), _, ?_, .ref j (n.toNat + lo) 0 hj, hK⟩
  simp [Instr.indexAt, asIntOf, run_underlying hu, hb, run_sizeOf hie, Addr.add_none, es, Nat.add_mul, Nat.add_comm]
 ·rename_i len e j r c k n hd
  cases repA_int hi
  have hu := und_arr hd
  obtain ⟨i, hie⟩ := (hel len e hu).info
  obtain ⟨hb, hK⟩ := h
  cases hx with
  | ref _ _ _ hj =>
  rw [(hel len e hu).size] at hK
  refine ⟨.pointer (some ⟨g.blk j, r * g.sz j + (c + n.toNat * P.cellsOf e), none⟩), _, ?_, .ref j r (c + n.toNat * P.cellsOf e) hj, hK⟩
  simp [Instr.indexAt, Instr.sureAddr, asIntOf, run_underlying hu, hb, run_sizeOf hie, Addr.add_none, Nat.add_assoc]
 ·rename_i len e row c k n hd
  cases repA_int hi
  have hu := und_arr hd
  obtain ⟨i, hie⟩ := (hel len e hu).info
  obtain ⟨hb, hK⟩ := h
  cases hx with
  | ip _ _ b o f hI hc hr =>
  rw [(hel len e hu).size] at hK
  refine ⟨.pointer (some ⟨b, o + (c + n.toNat * P.cellsOf e), none⟩), _, ?_, .ip row (c + n.toNat * P.cellsOf e) b o f hI hc hr, hK⟩
  simp [Instr.indexAt, Instr.sureAddr, asIntOf, run_underlying hu, hb, run_sizeOf hie, Addr.add_none, Nat.add_assoc]
 ·exact h.elim
theorem string_get (s : List UInt8) (n : Nat) (h : n < s.length) : (⟨s.toArray⟩ : ByteArray)[n]? = some (s.getD n 0) := by
 have hs : n < (⟨s.toArray⟩ : ByteArray).size := by show n < s.toArray.size; simpa using h
 rw [getElem?_pos _ n hs]
 have : (⟨s.toArray⟩ : ByteArray)[n] = s[n] := by show s.toArray[n] = s[n]; simp
 rw [this]; simp [h]
theorem index_sound {g : Ghost} {w : World} {t : Nat} {x ix : AV} {v vi : Value} {K : AV → Prop} (hel : ∀ n e, P.underlying t = some (.array n e) → TOk P e)
  (h : aindex (tabOf P) t x ix K) (hx : RepA g w x v) (hi : RepA g w ix vi) :
  ∃ u r, (Instr.index t v vi).run P w = .ok u w ∧ RepA g w r u ∧ K r := by
 unfold aindex at h
 split at h
 ·rename_i s k n hd
  cases repA_int hi
  cases repA_str hx
  have hu := und_str hd
  obtain ⟨⟨h0, h1⟩, hK⟩ := h
  refine ⟨_, _, ?_, .d (.int _ _), hK⟩
  simp [Instr.index, asIntOf, run_underlying hu, h0, string_get s n.toNat (by omega)]
 ·rename_i len e vs k n hd
  cases repA_int hi
  have hu := und_arr hd
  obtain ⟨d, hde⟩ := (hel len e hu).und
  obtain ⟨i, hie⟩ := info_of_und hde
  obtain ⟨hb, hlen, h⟩ := h
  cases hx with
  | agg _ cs hl hcs =>
  rw [(hel len e hu).size] at h hlen
  rw [(hel len e hu).agg] at h
  have hle : n.toNat * P.cellsOf e + P.cellsOf e ≤ vs.length := by
   rw [hlen, ← Nat.succ_mul]; exact Nat.mul_le_mul_right _ (by omega)
  have hp : apart (isAggB P e) (P.cellsOf e) (n.toNat * P.cellsOf e) vs K := by
   unfold apart
   cases hag2 : isAggB P e with
   | true => rw [hag2] at h; exact ⟨hle, h⟩
   | false => rw [hag2] at h; obtain ⟨v, hv, hK⟩ := h; dsimp only; rw [hv]; simp only [force_eq]; exact hK
  obtain ⟨u, r, hrun, hr, hK⟩ := part_sound ⟨d, hde⟩ hp (.agg vs cs hl hcs)
  refine ⟨u, r, ?_, hr, hK⟩
  simp only [Instr.index, Sem.run_bind, asIntOf, Sem.run_pure, Result.andThen, run_underlying hu, run_sizeOf hie]
  rw [if_pos hb]
  simp only [Sem.run_bind, run_sizeOf hie, Result.andThen]
  exact hrun
 ·exact h.elim
theorem len_sound {g : Ghost} {σ : Store} {w : World} {t ty : Nat} {ts : List TypeId} {x : AV} {v : Value} {K : AV → Prop} (h : alen (tabOf P) σ t x K) (R : StoreRel P g σ w) (hx : RepA g w x v) :
  ∃ u r, (Builtin.len_ (t :: ts).toArray ty #[v]).run P w = .ok u w ∧ RepA g w r u ∧ K r := by
 have go : ∀ (n : Int), K (.d (.int .i64 n)) → (Builtin.len_ (t :: ts).toArray ty #[v]).run P w = .ok (.int .i64 n) w → ∃ u r, (Builtin.len_ (t :: ts).toArray ty #[v]).run P w = .ok u w ∧ RepA g w r u ∧ K r :=
  fun n hK hrun => ⟨_, _, hrun, .d (.int _ _), hK⟩
 unfold alen at h
 split at h
 ·rename_i s hd
  cases repA_str hx
  have hsz : (⟨s.toArray⟩ : ByteArray).size = s.length := by show s.toArray.size = _; simp
  exact go _ h (by simp [Builtin.len_, run_underlying (und_str hd), goInt, hsz])
 ·rename_i e rows hd
  have hu := und_slice hd
  cases hx with
  | d hx =>
  cases hx with
  | sl0 a cap => exact go _ h (by simp [Builtin.len_, run_underlying hu, goInt])
  | sl _ b o cap sz f hI hcap hsz hc hr => exact go _ h (by simp [Builtin.len_, run_underlying hu, goInt])
 ·rename_i e rows hd
  have hu := und_slice hd
  cases hx with
  | dt _ a hx => exact go _ h (by simp [Builtin.len_, run_underlying hu, goInt])
 ·rename_i e hd
  have hu := und_slice hd
  cases hx
  exact go _ h (by simp [Builtin.len_, run_underlying hu, goInt])
 ·rename_i e i lo len hd
  have hu := und_slice hd
  cases hx <;> exact go _ h (by simp [Builtin.len_, run_underlying hu, goInt])
 ·rename_i e i lo len hd
  have hu := und_slice hd
  cases hx <;> exact go _ h (by simp [Builtin.len_, run_underlying hu, goInt])
 ·rename_i k e i hd
  have hu := und_map hd
  cases ho : σ.get i with
  | map es =>
   rw [ho] at h
   cases hx with
   | mp _ hi =>
   have hob := R.ob i hi
   rw [ho] at hob
   obtain ⟨_, entries, clock, hw, hs, _⟩ := hob
   refine go _ h ?_
   simp [Builtin.len_, run_underlying hu, goInt, getObj, Sem.run, hw, hs]
  | _ => rw [ho] at h; exact h.elim
 ·rename_i n e x hd
  exact go _ h (by simp [Builtin.len_, run_underlying (und_arr hd), goInt])
 ·exact h.elim
theorem min_sound {g : Ghost} {w : World} : ∀ (l : List AV) (x : AV) (vs : List Value) (v : Value) (r : AV), afold amin2 x l = some r → RepA g w x v → RepL g w l vs → ∃ u, (vs.foldlM Builtin.min2 v).run P w = .ok u w ∧ RepA g w r u
 | [], x, vs, v, r, h, hx, hl => by
  rw [hl.unnil]; cases h; exact ⟨v, rfl, hx⟩
 | y :: l, x, vs, v, r, h, hx, hl => by
  obtain ⟨u, us, rfl, hy, hl'⟩ := hl.uncons
  unfold afold at h
  unfold amin2 at h
  split at h
  ·rename_i z hz
   split at hz
   ·cases hz
    cases repA_int hx; cases repA_int hy
    obtain ⟨u, hu, hr⟩ := min_sound l _ us _ r h (.d (.int _ _)) hl'
    exact ⟨u, by simpa [Builtin.min2] using hu, hr⟩
   ·cases hz
  ·cases h
theorem max_sound {g : Ghost} {w : World} : ∀ (l : List AV) (x : AV) (vs : List Value) (v : Value) (r : AV), afold amax2 x l = some r → RepA g w x v → RepL g w l vs → ∃ u, (vs.foldlM Builtin.max2 v).run P w = .ok u w ∧ RepA g w r u
 | [], x, vs, v, r, h, hx, hl => by
  rw [hl.unnil]; cases h; exact ⟨v, rfl, hx⟩
 | y :: l, x, vs, v, r, h, hx, hl => by
  obtain ⟨u, us, rfl, hy, hl'⟩ := hl.uncons
  unfold afold at h
  unfold amax2 at h
  split at h
  ·rename_i z hz
   split at hz
   ·cases hz
    cases repA_int hx; cases repA_int hy
    obtain ⟨u, hu, hr⟩ := max_sound l _ us _ r h (.d (.int _ _)) hl'
    exact ⟨u, by simpa [Builtin.max2] using hu, hr⟩
   ·cases hz
  ·cases h
theorem absC_ok (g : Ghost) (w : World) (v : Value) : RepA g w (absC v) v := by
 unfold absC
 split
 ·exact .d (.bool _)
 ·exact .d (.int _ _)
 ·rename_i s
  have : RepA g w (.d (.str s.data.toList)) (.string ⟨s.data.toList.toArray⟩) := .d (.str _)
  simpa using this
 ·exact .nil
 ·exact .nilp
 ·exact .nilf
 ·exact .nili
 ·exact .lit _
 ·exact .top _
theorem absL_ok (g : Ghost) (w : World) (vs : List Value) : RepL g w (vs.map absC) vs := by
 refine ⟨by simp, fun i a v ha hv => ?_⟩
 rw [List.getElem?_map, hv] at ha
 cases ha
 exact absC_ok g w v
theorem repL_agg {g : Ghost} {w : World} {as : List AV} {cs : Array Value} (h : RepL g w as cs.toList) : RepA g w (.agg as) (.agg cs) :=
 .agg as cs (by rw [h.len]; simp) (fun i a v ha hv => h.2 i a v ha (by simpa using hv))
theorem repL_tup {g : Ghost} {w : World} {as : List AV} {cs : Array Value} (h : RepL g w as cs.toList) : RepA g w (.tup as) (.tuple cs) :=
 .tup as cs (by rw [h.len]; simp) (fun i a v ha hv => h.2 i a v ha (by simpa using hv))
theorem absV_ok (g : Ghost) (w : World) (v : Value) : RepA g w (absV v) v := by
 unfold absV
 split
 ·exact repL_agg (absL_ok g w _)
 ·exact repL_tup (absL_ok g w _)
 ·exact .tt
 ·exact .ff
 ·exact absC_ok g w _
theorem one_ok {g : Ghost} {w : World} {a : AV} {v : Value} (h : RepA g w a v) (ho : a.one = true) : v.oneCell' = true := by
 cases h <;> first | rfl | cases ho | skip
 case d h => cases h <;> rfl
 case lit => exact ho
theorem one_cells {g : Ghost} {w : World} {a : AV} {v : Value} (h : RepA g w a v) (ho : a.one = true) : v.cells = #[v] := by
 have := one_ok h ho
 cases v <;> first | rfl | cases this
theorem cells_ok {g : Ghost} {w : World} {a : AV} {v : Value} {l : List AV} (h : RepA g w a v) (hl : a.cells? = some l) : RepL g w l v.cells.toList ∧ ∀ x ∈ l, x.one = true := by
 unfold AV.cells? at hl
 split at hl
 ·rename_i vs
  split at hl
  ·cases hl
   rename_i hall
   cases h with
   | agg _ cs hlen hcs => exact ⟨⟨by simp [Value.cells, hlen], fun i a v ha hv => hcs i a v ha (by simpa [Value.cells] using hv)⟩, fun x hx => List.all_eq_true.1 hall x hx⟩
  ·cases hl
 ·cases hl
 ·cases hl
 ·cases hl
  cases h
  exact ⟨RepL.cons (.d (.bool _)) .nil, by simp [AV.one]⟩
 ·cases hl
  cases h
  exact ⟨RepL.cons (.d (.bool _)) .nil, by simp [AV.one]⟩
 ·rename_i u
  split at hl
  ·rename_i hu
   cases hl
   have ho : (AV.lit u).one = true := hu
   rw [one_cells h ho]
   exact ⟨RepL.cons h .nil, by simpa using ho⟩
  ·cases hl
 ·cases hl
  have ho : a.one = true := by
   cases a <;> first | rfl | (exfalso; simp_all)
  rw [one_cells h ho]
  exact ⟨RepL.cons h .nil, by simpa using ho⟩
theorem fold_put (off : Nat) : ∀ (ms : List Value) (k : Nat) (cs : Array Value), off + k + ms.length ≤ cs.size →
  ((ms.zipIdx k).foldl (fun cs x => cs.setIfInBounds (off + x.2) x.1) cs) = (cs.toList.take (off + k) ++ ms ++ cs.toList.drop (off + k + ms.length)).toArray
 | [], k, cs, h => by simp
 | m :: ms, k, cs, h => by
  simp only [List.zipIdx_cons, List.foldl_cons]
  rw [fold_put off ms (k + 1) _ (by simp at h ⊢; omega)]
  have hi : off + k < cs.toList.length := by simp at h ⊢; omega
  have e : (cs.setIfInBounds (off + k) m).toList = cs.toList.take (off + k) ++ m :: cs.toList.drop (off + k + 1) := by
   rw [Array.toList_setIfInBounds, List.set_eq_take_append_cons_drop, if_pos hi]
  have hl : (cs.toList.take (off + k)).length = off + k := by simp; omega
  rw [e]
  congr 1
  rw [List.take_append, List.drop_append, hl]
  rw [show off + (k + 1) - (off + k) = 1 by omega, show off + (k + 1) + ms.length - (off + k) = ms.length + 1 by omega]
  simp only [List.take_succ_cons, List.take_zero, List.drop_succ_cons, List.drop_drop]
  rw [List.take_of_length_le (by omega), List.drop_of_length_le (by omega)]
  simp [Nat.add_assoc, Nat.add_comm, Nat.add_left_comm]
theorem build_fill {g : Ghost} {w : World} {place : Nat → Option (Nat × Nat)} {ρ : Operand → AV} {ρ' : Operand → Value} (hρ : ∀ x, RepA g w (ρ x) (ρ' x)) :
  ∀ (parts : List (Nat × Operand)) (cells : List AV) (vs : List Value) (l : List AV), RepL g w cells vs → (∀ x ∈ cells, x.one = true) → afill place cells ρ parts = some l →
   ∃ us : Array Value, Instr.fill place vs.toArray (parts.map fun x => (x.1, ρ' x.2)) = some us ∧ RepL g w l us.toList ∧ ∀ x ∈ l, x.one = true
 | [], cells, vs, l, hr, ho, h => by cases h; exact ⟨vs.toArray, rfl, by simpa using hr, ho⟩
 | (i, x) :: rest, cells, vs, l, hr, ho, h => by
  unfold afill at h
  cases hp : place i with
  | none => rw [hp] at h; cases h
  | some os =>
   obtain ⟨off, size⟩ := os
   rw [hp] at h
   cases hc : (ρ x).cells? with
   | none => rw [hc] at h; cases h
   | some m =>
    rw [hc] at h
    dsimp only at h
    obtain ⟨hm, hmo⟩ := cells_ok (hρ x) hc
    split at h
    ·rename_i h1 h2
     have e1 : m.length = size := Nat.eq_of_beq_eq_true h1
     have e2 : off + size ≤ cells.length := Nat.le_of_ble_eq_true h2
     have hsz : (ρ' x).cells.size = size := by rw [← e1, hm.len]; simp
     have hvs : off + size ≤ vs.length := by rw [← hr.len]; exact e2
     have key : RepL g w (cells.take off ++ m ++ cells.drop (off + size)) (vs.take off ++ (ρ' x).cells.toList ++ vs.drop (off + size)) := by
      refine RepL.append (RepL.append ⟨by simp [hr.len], fun i a v ha hv => ?_⟩ hm) ⟨by simp [hr.len], fun i a v ha hv => ?_⟩
      ·rw [List.getElem?_take] at ha hv
       split at ha
       ·rename_i hi; rw [if_pos hi] at hv; exact hr.2 i a v ha hv
       ·cases ha
      ·rw [List.getElem?_drop] at ha hv; exact hr.2 _ a v ha hv
     have keyo : ∀ y ∈ cells.take off ++ m ++ cells.drop (off + size), y.one = true := by
      intro y hy
      simp only [List.mem_append] at hy
      rcases hy with (hy | hy) | hy
      ·exact ho y (List.mem_of_mem_take hy)
      ·exact hmo y hy
      ·exact ho y (List.mem_of_mem_drop hy)
     obtain ⟨us, hus, hru, hro⟩ := build_fill hρ rest _ _ l key keyo h
     refine ⟨us, ?_, hru, hro⟩
     simp only [List.map_cons, Instr.fill, hp]
     rw [if_neg (by simp [hsz]; omega)]
     have hput := fold_put off (ρ' x).cells.toList 0 vs.toArray (by simp [hsz]; omega)
     rw [← hus]
     congr 1
     rw [← Array.foldl_toList, Array.toList_zipIdx]
     simp only [Nat.add_zero, Array.length_toList, hsz, List.toList_toArray] at hput
     exact hput
    ·cases h
theorem build_fill_length {place : Nat → Option (Nat × Nat)} {ρ : Operand → AV} : ∀ {parts : List (Nat × Operand)} {cells l : List AV}, afill place cells ρ parts = some l → l.length = cells.length
 | [], cells, l, h => by cases h; rfl
 | (i, x) :: rest, cells, l, h => by
  unfold afill at h
  split at h
  ·rename_i off size m h1 h2
   split at h
   ·rename_i h3 h4
    have e1 : m.length = size := Nat.eq_of_beq_eq_true h3
    have e2 : off + size ≤ cells.length := Nat.le_of_ble_eq_true h4
    rw [build_fill_length h]
    simp; omega
   ·cases h
  ·cases h
theorem fill_congr {p q : Nat → Option (Nat × Nat)} (h : ∀ i, p i = q i) (parts : List (Nat × Value)) (cells : Array Value) : Instr.fill p cells parts = Instr.fill q cells parts := by
 have : p = q := funext h
 rw [this]
theorem zero_of {t : Nat} (h : TOk P t) {z : List AV} (hz : (nth (tabOf P) t).zero = some z) : ∃ i v, P.info? t = some i ∧ i.zero = some v ∧ v.cells.size = P.cellsOf t ∧ (∀ x ∈ v.cells.toList.map absC, x.one = true) ∧ isAggB P t = isAggV v ∧ z = v.cells.toList.map absC := by
 rw [h.tab] at hz
 obtain ⟨i, hi⟩ := h.info
 change zeroOf P t = some z at hz
 unfold zeroOf at hz
 rw [hi] at hz
 dsimp only at hz
 cases hv : i.zero with
 | none => rw [hv] at hz; cases hz
 | some v =>
  rw [hv] at hz
  dsimp only at hz
  cases hc : zgood P t i.size v with
  | false => rw [hc] at hz; cases hz
  | true =>
   rw [hc] at hz
   unfold zgood at hc
   simp only [Bool.and_eq_true, beq_iff_eq] at hc
   exact ⟨i, v, hi, hv, by simp [Program.cellsOf, hi, hc.1.1], fun x hx => List.all_eq_true.1 hc.1.2 x hx, hc.2, (Option.some.inj hz).symm⟩
theorem build_sound {g : Ghost} {w : World} {t : Nat} {ρ : Operand → AV} {ρ' : Operand → Value} {parts : Array (Nat × Operand)} {K : AV → Prop} (hok : TOk P t)
  (hfs : ∀ Fs, P.underlying t = some (.struct Fs) → ∀ F ∈ Fs.toList, TOk P F.type) (hel : ∀ n e, P.underlying t = some (.array n e) → TOk P e)
  (h : abuild (tabOf P) t ρ parts.toList K) (hρ : ∀ x, RepA g w (ρ x) (ρ' x)) :
  ∃ u r, (Instr.build t (parts.map fun (i, x) => (i, ρ' x))).run P w = .ok u w ∧ RepA g w r u ∧ K r := by
 unfold abuild at h
 simp only [afillK_eq] at h
 split at h
 ·rename_i fs z hd hz
  obtain ⟨Fs, hu, rfl⟩ := und_struct hd
  obtain ⟨i, v, hi, hiz, hvs, hcells, _, rfl⟩ := zero_of hok hz
  split at h
  ·rename_i l hl
   obtain ⟨us, hus, hru, hro⟩ := build_fill hρ _ _ v.cells.toList l (absL_ok g w _) hcells hl
   refine ⟨.agg us, .agg l, ?_, repL_agg hru, h⟩
   have hplaces : ∀ Gs : List Field, (∀ F ∈ Gs, TOk P F.type) → Gs.mapM (fun f => (P.info? f.type).map fun i => (f.offset, i.size)) = some (Gs.map fun f => (f.offset, P.cellsOf f.type)) := by
    intro Gs
    induction Gs with
    | nil => intro _; rfl
    | cons F Gs ih =>
     intro hG
     obtain ⟨j, hj⟩ := (hG F (by simp)).info
     have := ih (fun F' hF' => hG F' (by simp [hF']))
     simp [List.mapM_cons, hj, this, Program.cellsOf]
   refine run_build w t _ us ?_
   unfold Program.built
   rw [hi, hu]
   dsimp only
   rw [hiz, hplaces _ (hfs Fs hu)]
   dsimp only
   rw [← hus]
   have e1 : v.cells = v.cells.toList.toArray := by simp
   rw [← e1]
   have e2 : (parts.map fun (i, x) => (i, ρ' x)).toList = parts.toList.map fun x => (x.1, ρ' x.2) := by simp
   rw [e2]
   refine fill_congr (fun j => ?_) _ _
   simp only [List.getElem?_toArray, List.getElem?_map, Option.map_map]
   rfl
  ·exact h.elim
 ·rename_i n e z hd hz
  have hu := und_arr hd
  obtain ⟨i, v, hi, hiz, hvs, hcells, _, rfl⟩ := zero_of hok hz
  split at h
  ·rename_i l hl
   obtain ⟨us, hus, hru, hro⟩ := build_fill hρ _ _ v.cells.toList l (absL_ok g w _) hcells hl
   refine ⟨.agg us, .agg l, ?_, repL_agg hru, h⟩
   obtain ⟨j, hj⟩ := (hel n e hu).info
   refine run_build w t _ us ?_
   unfold Program.built
   rw [hi, hu]
   dsimp only
   rw [hiz, hj]
   dsimp only
   rw [← hus]
   have e1 : v.cells = v.cells.toList.toArray := by simp
   rw [← e1]
   have e2 : (parts.map fun (i, x) => (i, ρ' x)).toList = parts.toList.map fun x => (x.1, ρ' x.2) := by simp
   rw [e2]
   refine fill_congr (fun k => ?_) _ _
   have hse : (nth (tabOf P) e).size = j.size := by rw [(hel n e hu).size]; simp [Program.cellsOf, hj]
   rw [hse]
  ·exact h.elim
 ·exact h.elim
theorem findNow_str (s : List UInt8) : ∀ (es : List (AV × AV)) (entries : List MapEntry) (k : Nat) (g : Ghost) (w : World), es.length = entries.length → (∀ (j : Nat) x e, es[j]? = some x → entries[j]? = some e → RepA g w x.1 e.key ∧ RepA g w x.2 e.val) → strKeys es →
  ∃ r, Instr.findNow .string (.string ⟨s.toArray⟩) entries k = some r ∧ match mlook s es with
   | none => r = none
   | some a => ∃ i v, r = some (i, v) ∧ RepA g w a v
 | [], entries, k, g, w, hl, hr, hk => by
  cases entries with
  | nil => exact ⟨none, rfl, rfl⟩
  | cons e r => simp at hl
 | x :: es, entries, k, g, w, hl, hr, hk => by
  cases entries with
  | nil => simp at hl
  | cons e entries =>
   obtain ⟨s', hs'⟩ := hk x (by simp)
   obtain ⟨hke, hve⟩ := hr 0 x e (by simp) (by simp)
   obtain ⟨xk, xv⟩ := x
   dsimp only at hs' hke hve
   subst hs'
   have hke' := repA_str hke
   obtain ⟨r, hr1, hr2⟩ := findNow_str s es entries (k + 1) g w (by simpa using hl) (fun j x e hx he => hr (j + 1) x e (by simpa using hx) (by simpa using he)) (fun y hy => hk y (by simp [hy]))
   have hbeq : ((⟨s.toArray⟩ : ByteArray) == ⟨s'.toArray⟩) = decide (s = s') := by
    rw [beq_toListBytes, ByteArray.toList_mk, ByteArray.toList_mk, Bool.eq_iff_iff]; simp
   simp only [Instr.findNow, hke', Instr.sameNow, hbeq, mlook]
   by_cases hss : s = s'
   ·subst hss
    simp only [decide_true, if_true]
    exact ⟨_, rfl, _, _, rfl, hve⟩
   ·simp only [hss, decide_false, if_false]
    exact ⟨r, hr1, hr2⟩
theorem run_checkKey_str {t : TypeId} {b : Bool} {s : ByteArray} (hu : P.underlying t = some .string) (w : World) : (Instr.checkKey b 10000 t (.string s)).run P w = .ok () w := by
 show (Instr.checkKey b (9999 + 1) t (.string s)).run P w = _
 generalize 9999 = n
 simp [Instr.checkKey, run_underlying hu]
theorem run_getMap {b : Nat} {entries : Array MapEntry} {clock : Nat} {w : World} (h : w.heap[b]? = some (.map entries clock)) : (getObj b).run P w = .ok (.map entries clock) w := by
 simp [getObj, Sem.run, h]
theorem lookup_sound {g : Ghost} {σ : Store} {w : World} {t : Nat} {m k : AV} {vm vk : Value} {ok : Bool} {K : AV → Prop} (hmt : ∀ k e, P.underlying t = some (.map k e) → TOk P e)
  (h : alookup (tabOf P) σ t m k ok K) (R : StoreRel P g σ w) (hm : RepA g w m vm) (hk : RepA g w k vk) :
  ∃ u r, (Instr.lookup t vm vk ok).run P w = .ok u w ∧ RepA g w r u ∧ K r := by
 unfold alookup at h
 split at h
 ·rename_i kt e i s hd
  have hu := und_map hd
  obtain ⟨hkt, es, z, ho, hkeys, hz, hagg, h⟩ := h
  have hukt := und_str hkt
  cases repA_str hk
  cases hm with
  | mp _ hi =>
  have hob := R.ob i hi
  rw [ho] at hob
  obtain ⟨_, entries, clock, hw, hs, hrel⟩ := hob
  obtain ⟨ti, zv, hti, htz, hzs, hz1, hza, hzz⟩ := zero_of (hmt kt e hu) hz
  rw [(hmt kt e hu).agg] at hagg
  have hrun0 := run_getMap (P := P) hw
  obtain ⟨r, hf, hr⟩ := findNow_str s es entries.toList 0 g w (by simp [hs]) (fun j x e hx he => hrel j x e hx (by simpa using he)) hkeys
  have hfind : (Instr.findKey kt (.string ⟨s.toArray⟩) entries.toList).run P w = .ok r w := by
   simp only [Instr.findKey, Sem.run_bind, run_underlying hukt, Result.andThen, hf]
   rfl
  have hzr : ∃ u, (zeroValue e).run P w = .ok u w ∧ RepA g w z u := by
   refine ⟨zv, by simp [zeroValue, typeInfo, hti, htz], ?_⟩
   have : zv.cells.toList.map absC = [z] := hzz.symm
   cases hzc : zv with
   | agg cs => rw [hzc, hagg] at hza; cases hza
   | tuple cs =>
    rw [hzc] at hz1
    have := hz1 (absC (.tuple cs)) (by simp [Value.cells])
    simp [absC, AV.one] at this
   | _ => rw [hzc] at this; simp [Value.cells] at this; rw [← this]; exact absC_ok g w _
  obtain ⟨zu, hzu, hzrep⟩ := hzr
  have main : ∃ u, (Instr.lookup t (.map (some (g.blk i))) (.string ⟨s.toArray⟩) ok).run P w = .ok (if ok then .tuple #[u, .bool (mlook s es).isSome] else u) w ∧ RepA g w ((mlook s es).getD z) u := by
   simp only [Instr.lookup, Sem.run_bind, run_underlying hu, Result.andThen, hrun0, Sem.run_pure, run_checkKey_str hukt, hfind]
   cases hml : mlook s es with
   | none =>
    rw [hml] at hr
    subst hr
    simp only [Sem.run_bind, hzu, Result.andThen, Sem.run_pure]
    exact ⟨zu, by cases ok <;> rfl, hzrep⟩
   | some a =>
    rw [hml] at hr
    obtain ⟨j, v, rfl, hv⟩ := hr
    simp only [Sem.run_bind, Result.andThen, Sem.run_pure]
    exact ⟨v, by cases ok <;> rfl, hv⟩
  obtain ⟨u, hrun, hru⟩ := main
  cases ok with
  | false => exact ⟨u, _, hrun, hru, h⟩
  | true => exact ⟨_, _, hrun, repL_tup (RepL.cons hru (RepL.cons (.d (.bool _)) .nil)), h⟩
 ·exact h.elim
end
end Go.Aw

