/- The abstract walk, third part: operations that only compute or read are what the walk says. -/
import Derived.Test.YtcmkiancbgmmhaaAw2
import Derived.Laws.StructEq
import Derived.ChangeKeysEq
import Derived.WalkKit
import Derived.Lib.SmallJoins
namespace Go.Aw
set_option linter.unusedVariables false
set_option linter.unusedSimpArgs false

section
variable {P : Program}

theorem nth_none (T : List TI) (t : Nat) (h : T.length ≤ t) : nth T t = TI.none := by
  induction T generalizing t with
  | nil => cases t <;> rfl
  | cons a r ih => cases t with
    | zero => simp at h
    | succ t => simp only [nth]; exact ih t (by simpa using h)
theorem nth_some (T : List TI) (t : Nat) (x : TI) (h : T[t]? = some x) : nth T t = x := by
  induction T generalizing t with
  | nil => simp at h
  | cons a r ih => cases t with
    | zero => simpa [nth] using h
    | succ t => simp only [nth]; exact ih t (by simpa using h)
theorem nth_tab (t : Nat) : nth (tabOf P) t = tiOf P t ∧ t < P.types.size ∨ nth (tabOf P) t = TI.none := by
  by_cases h : t < P.types.size
  · left
    exact ⟨nth_some _ _ _ (by simp [tabOf, h]), h⟩
  · right
    exact nth_none _ _ (by simp [tabOf]; omega)
theorem nth_of_d {t : Nat} (h : (nth (tabOf P) t).d ≠ .other) : nth (tabOf P) t = tiOf P t := by
  rcases nth_tab (P := P) t with ⟨h1, _⟩ | h1
  · exact h1
  · rw [h1] at h; exact absurd rfl h

theorem und_of_td {t : Nat} {d : TD} (h : (nth (tabOf P) t).d = d) (hd : d ≠ .other) : tdOf P t = d := by
  have := nth_of_d (P := P) (t := t) (by rw [h]; exact hd)
  rw [this] at h; exact h

theorem und_slice {t e : Nat} (h : (nth (tabOf P) t).d = .slice e) : P.underlying t = some (.slice e) := by
  have := und_of_td h (by simp)
  unfold tdOf at this
  split at this <;> first | (injection this with this; subst this; assumption) | cases this
theorem und_str {t : Nat} (h : (nth (tabOf P) t).d = .str) : P.underlying t = some .string := by
  have := und_of_td h (by simp)
  unfold tdOf at this
  split at this <;> first | assumption | cases this
theorem und_bool {t : Nat} (h : (nth (tabOf P) t).d = .bool) : P.underlying t = some .bool := by
  have := und_of_td h (by simp)
  unfold tdOf at this
  split at this <;> first | assumption | cases this
theorem und_int {t : Nat} {k : IntKind} (h : (nth (tabOf P) t).d = .int k) : P.underlying t = some (.int k) := by
  have := und_of_td h (by simp)
  unfold tdOf at this
  split at this <;> first | (injection this with this; subst this; assumption) | cases this
theorem und_arr {t n e : Nat} (h : (nth (tabOf P) t).d = .arr n e) : P.underlying t = some (.array n e) := by
  have := und_of_td h (by simp)
  unfold tdOf at this
  split at this <;> first | (injection this with h1 h2; subst h1; subst h2; assumption) | cases this
theorem und_ptr {t e : Nat} (h : (nth (tabOf P) t).d = .ptr e) : P.underlying t = some (.pointer e) := by
  have := und_of_td h (by simp)
  unfold tdOf at this
  split at this <;> first | (injection this with this; subst this; assumption) | cases this
theorem und_map {t k e : Nat} (h : (nth (tabOf P) t).d = .map k e) : P.underlying t = some (.map k e) := by
  have := und_of_td h (by simp)
  unfold tdOf at this
  split at this <;> first | (injection this with h1 h2; subst h1; subst h2; assumption) | cases this
theorem und_struct {t : Nat} {fs : List (Nat × Nat × Bool × Bool)} (h : (nth (tabOf P) t).d = .struct fs) :
    ∃ Fs, P.underlying t = some (.struct Fs) ∧ fs = Fs.toList.map fun f => (f.offset, P.cellsOf f.type, isAggB P f.type, f.name != "_") := by
  have := und_of_td h (by simp)
  unfold tdOf at this
  split at this <;> first | (injection this with this; exact ⟨_, by assumption, this.symm⟩) | cases this

theorem info_of_und {t : Nat} {d : TypeDesc} (h : P.underlying t = some d) : ∃ i, P.info? t = some i := by
  unfold Program.underlying at h
  split at h <;> first | exact ⟨_, by assumption⟩ | cases h
theorem run_sizeOf {t : Nat} {i : TypeInfo} (h : P.info? t = some i) (w : World) : (sizeOf t).run P w = .ok (P.cellsOf t) w := by
  simp [sizeOf, typeInfo, h, Program.cellsOf]
theorem size_eq {t : Nat} (h : (nth (tabOf P) t).d ≠ .other) : (nth (tabOf P) t).size = P.cellsOf t := by
  rw [nth_of_d h]; rfl
theorem isAgg_td {t : Nat} (h : (nth (tabOf P) t).d ≠ .other) : isAggB P t = isAggTD (nth (tabOf P) t).d := by
  have e := nth_of_d h
  rw [e]
  show isAggB P t = isAggTD (tdOf P t)
  unfold isAggB tdOf isAggTD
  cases P.underlying t with
  | none => rfl
  | some d => cases d <;> rfl
theorem und_some {t : Nat} (h : (nth (tabOf P) t).d ≠ .other) : ∃ d, P.underlying t = some d := by
  have e := nth_of_d h
  rw [e] at h
  have h' : tdOf P t ≠ .other := h
  unfold tdOf at h'
  split at h' <;> first | exact ⟨_, by assumption⟩ | exact absurd rfl h'
theorem run_isAgg {t : Nat} (h : ∃ d, P.underlying t = some d) (w : World) : (isAgg t).run P w = .ok (isAggB P t) w := by
  obtain ⟨d, h⟩ := h
  simp only [isAgg, Sem.run_bind, run_underlying h, Result.andThen, isAggB, h]
  cases d <;> rfl

theorem cell_at {w : World} {b : Nat} {c : Array Value} {e : TypeId} {fr : Nat × Nat} (h : w.heap[b]? = some (.cells c e fr)) (o : Nat) : w.cell? ⟨b, o, none⟩ = c[o]? := by
  simp [World.cell?, h]

theorem Addr.add_none (b o n : Nat) : Addr.add ⟨b, o, none⟩ n = ⟨b, o + n, none⟩ := by
  unfold Addr.add; split <;> simp_all

/-- Reading a variable: its cells as a list. -/
theorem run_loadVar_agg {t : Nat} {w : World} {b o : Nat} (cs : List Value) (hu : ∃ d, P.underlying t = some d) (hagg : isAggB P t = true) (hs : P.cellsOf t = cs.length)
    (h : ∀ (j : Nat) v, cs[j]? = some v → w.cell? ⟨b, o + j, none⟩ = some v) : (loadVar t ⟨b, o, none⟩).run P w = .ok (.agg cs.toArray) w := by
  obtain ⟨i, hi⟩ := info_of_und hu.choose_spec
  simp only [loadVar, Sem.run_bind, run_isAgg hu, Result.andThen, hagg, if_true, run_sizeOf hi, hs]
  rw [run_loadCells_list (P := P) w ⟨b, o, none⟩ cs (fun j v hj => by rw [Addr.add_none]; exact h j v hj)]
  rfl
theorem run_loadVar_one {t : Nat} {w : World} {b o : Nat} {v : Value} (hu : ∃ d, P.underlying t = some d) (hagg : isAggB P t = false)
    (h : w.cell? ⟨b, o, none⟩ = some v) : (loadVar t ⟨b, o, none⟩).run P w = .ok v w := by
  simp only [loadVar, Sem.run_bind, run_isAgg hu, Result.andThen, hagg, if_false, Bool.false_eq_true]
  simp [load, Sem.run, h]

/-- The values that stand for a list, chosen. -/
theorem pick_list {α : Type} {R : Nat → α → Value → Prop} (l : List α) (h : ∀ (j : Nat) a, l[j]? = some a → ∃ v, R j a v) : ∃ vs : List Value, vs.length = l.length ∧ ∀ (j : Nat) a v, l[j]? = some a → vs[j]? = some v → R j a v := by
  induction l generalizing R with
  | nil => exact ⟨[], rfl, by simp⟩
  | cons a r ih =>
    obtain ⟨v, hv⟩ := h 0 a (by simp)
    obtain ⟨vs, hl, hvs⟩ := ih (R := fun j => R (j + 1)) (fun j b hb => h (j + 1) b (by simpa using hb))
    refine ⟨v :: vs, by simp [hl], fun j b u hb hu => ?_⟩
    cases j with
    | zero => simp at hb hu; subst hb; subst hu; exact hv
    | succ j => simp at hb hu; exact hvs j b u hb hu

theorem getElem?_of_lt {α : Type} {l : List α} {j : Nat} (h : j < l.length) : ∃ a, l[j]? = some a := ⟨l[j], by simp [h]⟩
theorem lt_of_some {α : Type} {l : List α} {j : Nat} {a : α} (h : l[j]? = some a) : j < l.length := by
  rcases Nat.lt_or_ge j l.length with h' | h'
  · exact h'
  · simp [List.getElem?_eq_none h'] at h

theorem load_sound {g : Ghost} {σ : Store} {w : World} {t : Nat} {av : AV} {v : Value} {K : AV → Prop} (h : aload (tabOf P) σ t av K) (R : StoreRel P g σ w) (ha : RepA g w av v) :
    ∃ u r, (Instr.loadAt t v).run P w = .ok u w ∧ RepA g w r u ∧ K r := by
  unfold aload at h
  cases av with
  | ref i r c =>
    cases ha with
    | ref _ _ _ hi =>
    dsimp only at h
    cases ho : σ.get i with
    | rows sz rs =>
      rw [ho] at h
      dsimp only at h
      obtain ⟨row, hrow, h⟩ := h
      have hob := R.ob i hi
      rw [ho] at hob
      obtain ⟨hk, hz, cc, fr, hw, hf, hs, hl, hr⟩ := hob.at hrow
      obtain ⟨hlen, hcell⟩ := hr r row hrow
      have hd : (nth (tabOf P) t).d ≠ .other := by intro hd; rw [hd] at h; exact h
      have hu := und_some hd
      simp only [Instr.loadAt, Instr.sureAddr, Sem.run_bind, Sem.run_pure, Result.andThen]
      by_cases hagg : isAggTD (nth (tabOf P) t).d = true
      · have h' : c + (nth (tabOf P) t).size ≤ row.length ∧ K (.agg ((row.drop c).take (nth (tabOf P) t).size)) := by
          revert h hagg; cases (nth (tabOf P) t).d <;> simp [isAggTD]
        rw [size_eq hd] at h'
        obtain ⟨hle, hK⟩ := h'
        obtain ⟨vs, hvl, hvs⟩ := pick_list (R := fun j a v => cc[r * g.sz i + (c + j)]? = some v ∧ RepA g w a v) ((row.drop c).take (P.cellsOf t)) (fun j a hj => by
          rw [List.getElem?_take] at hj
          split at hj
          · rw [List.getElem?_drop] at hj
            obtain ⟨v, hv, hra, _⟩ := hcell (c + j) a hj
            exact ⟨v, hv, hra⟩
          · cases hj)
        have hvl' : P.cellsOf t = vs.length := by rw [hvl]; simp; omega
        refine ⟨.agg vs.toArray, .agg ((row.drop c).take (P.cellsOf t)), ?_, .agg _ _ (by simp [hvl]) (fun j a v hj hv => (hvs j a v hj (by simpa using hv)).2), hK⟩
        refine run_loadVar_agg vs hu (by rw [isAgg_td hd]; exact hagg) hvl' (fun j v hj => ?_)
        obtain ⟨a, haj⟩ := getElem?_of_lt (l := (row.drop c).take (P.cellsOf t)) (j := j) (by rw [← hvl]; exact lt_of_some hj)
        rw [cell_at hw, Nat.add_assoc]
        exact (hvs j a v haj hj).1
      · have h' : ∃ v, row[c]? = some v ∧ K v := by
          revert h hagg hd; cases (nth (tabOf P) t).d <;> simp [isAggTD]
        obtain ⟨a, hra, hK⟩ := h'
        obtain ⟨u, hu', hrep, _⟩ := hcell c a hra
        refine ⟨u, a, run_loadVar_one hu (by rw [isAgg_td hd]; simpa using hagg) ?_, hrep, hK⟩
        rw [cell_at hw]; exact hu'
    | two T x y =>
      rw [ho] at h
      obtain ⟨hkn, h⟩ := chk_eq h
      simp only [Bool.and_eq_true, Bool.not_eq_true'] at hkn
      have hd : (nth (tabOf P) t).d ≠ .other := by intro hd; unfold known at hkn; rw [hd] at hkn; exact absurd hkn.1 (by simp)
      have hu := und_some hd
      have hob := R.ob i hi
      rw [ho] at hob
      obtain ⟨hk, hz, hc, p, q, hw, h1, h2, _⟩ := hob
      simp only [Instr.loadAt, Instr.sureAddr, Sem.run_bind, Sem.run_pure, Result.andThen]
      unfold ofTwo at h
      split at h
      · exact ⟨p, x, run_loadVar_one hu (by rw [isAgg_td hd]; exact hkn.2) (by rw [cell_at hw]; simp), h1, h⟩
      · exact ⟨q, y, run_loadVar_one hu (by rw [isAgg_td hd]; exact hkn.2) (by rw [cell_at hw]; simp), h2, h⟩
      · exact h.elim
    | _ => rw [ho] at h; exact h.elim
  | ip row c =>
    cases ha with
    | ip _ _ b o f hI hc hr =>
    dsimp only at h
    have hd : (nth (tabOf P) t).d ≠ .other := by intro hd; rw [hd] at h; exact h
    have hu := und_some hd
    simp only [Instr.loadAt, Instr.sureAddr, Sem.run_bind, Sem.run_pure, Result.andThen]
    by_cases hagg : isAggTD (nth (tabOf P) t).d = true
    · have h' : c + (nth (tabOf P) t).size ≤ row.length ∧ K (.agg (((row.drop c).take (nth (tabOf P) t).size).map .d)) := by
        revert h hagg; cases (nth (tabOf P) t).d <;> simp [isAggTD]
      rw [size_eq hd] at h'
      obtain ⟨hle, hK⟩ := h'
      obtain ⟨vs, hvl, hvs⟩ := pick_list (R := fun j a v => w.cell? ⟨b, o + (c + j), none⟩ = some v ∧ RepD g.imm w a v) ((row.drop c).take (P.cellsOf t)) (fun j a hj => by
        rw [List.getElem?_take] at hj
        split at hj
        · rw [List.getElem?_drop] at hj
          exact ⟨_, hc (c + j) a hj, hr (c + j) a hj⟩
        · cases hj)
      have hvl' : P.cellsOf t = vs.length := by rw [hvl]; simp; omega
      refine ⟨.agg vs.toArray, .agg (((row.drop c).take (P.cellsOf t)).map .d), ?_, .agg _ _ (by simp [hvl]) (fun j a v hj hv => ?_), hK⟩
      · refine run_loadVar_agg vs hu (by rw [isAgg_td hd]; exact hagg) hvl' (fun j v hj => ?_)
        obtain ⟨a, haj⟩ := getElem?_of_lt (l := (row.drop c).take (P.cellsOf t)) (j := j) (by rw [← hvl]; exact lt_of_some hj)
        rw [Nat.add_assoc]
        exact (hvs j a v haj hj).1
      · rw [List.getElem?_map] at hj
        cases hx : ((row.drop c).take (P.cellsOf t))[j]? with
        | none => rw [hx] at hj; cases hj
        | some x =>
          rw [hx] at hj
          simp only [Option.map_some, Option.some.injEq] at hj
          subst hj
          exact .d (hvs j x v hx (by simpa using hv)).2
    · have h' : ∃ x, row[c]? = some x ∧ K (.d x) := by
        revert h hagg hd; cases (nth (tabOf P) t).d <;> simp [isAggTD]
      obtain ⟨x, hx, hK⟩ := h'
      exact ⟨f c, .d x, run_loadVar_one hu (by rw [isAgg_td hd]; simpa using hagg) (hc c x hx), .d (hr c x hx), hK⟩
  | _ => exact h.elim

theorem inK_wrap {k : IntKind} {n : Int} (h : inK k n) : k.wrap n = n := by
  cases k <;> simp only [inK] at h <;> simp [IntKind.wrap, IntKind.bits, IntKind.signed] <;> omega

theorem num_sound {g : Ghost} {w : World} {k : IntKind} {n : Int} {K : AV → Prop} (h : num k n K) : ∃ r, RepA g w r (.int k (k.wrap n)) ∧ K r := by
  rcases h with ⟨h, hK⟩ | hK
  · refine ⟨_, ?_, hK⟩; rw [inK_wrap h]; exact .d (.int k n)
  · exact ⟨_, .d (.int _ _), hK⟩

theorem repD_int {I : Nat → Prop} {w : World} {k : IntKind} {n : Int} {v : Value} (h : RepD I w (.int k n) v) : v = .int k n := by cases h; rfl
theorem dtd_ok {g : Ghost} {w : World} {a : AV} {v : Value} (h : RepA g w a v) : RepA g w (dtd a) v := by
  cases h with
  | dt rows a h => exact .d h
  | top v => exact .top v
  | tt => exact .tt
  | ff => exact .ff
  | d h => exact .d h
  | nil => exact .nil
  | ref i r c h => exact .ref i r c h
  | nilp => exact .nilp
  | ip row c b o f hI hc hr => exact .ip row c b o f hI hc hr
  | own i lo len cap h hc hl => exact .own i lo len cap h hc hl
  | own0 i lo h => exact .own0 i lo h
  | tight i lo len h => exact .tight i lo len h
  | tight0 i lo h => exact .tight0 i lo h
  | mp i h => exact .mp i h
  | fn f first captured vf vc hf hc rf rc => exact .fn f first captured vf vc hf hc rf rc
  | nilf => exact .nilf
  | ifc t a v h => exact .ifc t a v h
  | nili => exact .nili
  | agg vs cs hl h => exact .agg vs cs hl h
  | tup vs cs hl h => exact .tup vs cs hl h
theorem repA_int {g : Ghost} {w : World} {k : IntKind} {n : Int} {v : Value} (h : RepA g w (.d (.int k n)) v) : v = .int k n := by cases h with | d h => exact repD_int h
theorem repA_str {g : Ghost} {w : World} {s : List UInt8} {v : Value} (h : RepA g w (.d (.str s)) v) : v = .string ⟨s.toArray⟩ := by cases h with | d h => cases h; rfl
theorem repA_bool {g : Ghost} {w : World} {b : Bool} {v : Value} (h : RepA g w (.d (.bool b)) v) : v = .bool b := by cases h with | d h => cases h; rfl


theorem run_pure_ok {α : Type} (a : α) (w : World) : (Pure.pure a : Sem α).run P w = .ok a w := rfl

theorem aint_sound {g : Ghost} {w : World} {op : BinOp} {k : IntKind} {a b : Int} {K : AV → Prop} {t : TypeId} (h : aint op k a b K) :
    ∃ u r, (binOp op t (.int k a) (.int k b)).run P w = .ok u w ∧ RepA g w r u ∧ K r := by
  cases op <;> simp only [aint] at h
  case add => obtain ⟨r, hr, hK⟩ := num_sound (g := g) (w := w) h; exact ⟨_, r, by simp [binOp, Op.intArith], hr, hK⟩
  case sub => obtain ⟨r, hr, hK⟩ := num_sound (g := g) (w := w) h; exact ⟨_, r, by simp [binOp, Op.intArith], hr, hK⟩
  case mul => obtain ⟨r, hr, hK⟩ := num_sound (g := g) (w := w) h; exact ⟨_, r, by simp [binOp, Op.intArith], hr, hK⟩
  case quo => obtain ⟨hb, h⟩ := h; obtain ⟨r, hr, hK⟩ := num_sound (g := g) (w := w) h; exact ⟨_, r, by simp [binOp, Op.intDiv, hb], hr, hK⟩
  case rem => obtain ⟨hb, h⟩ := h; exact ⟨_, _, by simp [binOp, Op.intDiv, hb], .d (.int _ _), h⟩
  case eql => exact ⟨.bool (decide (a = b)), _, by simp [binOp, Op.intCmp]; rfl, .d (.bool _), h⟩
  case neq => exact ⟨.bool (!decide (a = b)), _, by simp [binOp, Op.intCmp]; rfl, .d (.bool _), h⟩
  case lss => exact ⟨_, _, by simp [binOp, Op.intCmp], .d (.bool _), h⟩
  case leq => exact ⟨_, _, by simp [binOp, Op.intCmp], .d (.bool _), h⟩
  case gtr => exact ⟨_, _, by simp [binOp, Op.intCmp], .d (.bool _), h⟩
  case geq => exact ⟨_, _, by simp [binOp, Op.intCmp], .d (.bool _), h⟩
  case and => exact ⟨_, _, by simp [binOp, Op.intBits], .d (.int _ _), h⟩
  case or => exact ⟨_, _, by simp [binOp, Op.intBits], .d (.int _ _), h⟩
  case xor => exact ⟨_, _, by simp [binOp, Op.intBits], .d (.int _ _), h⟩

theorem ashift_sound {g : Ghost} {w : World} {op : BinOp} {k k' : IntKind} {a b : Int} {K : AV → Prop} {t : TypeId} (h : ashift op k a b K) :
    ∃ u r, (binOp op t (.int k a) (.int k' b)).run P w = .ok u w ∧ RepA g w r u ∧ K r := by
  cases op <;> simp only [ashift] at h
  case shl =>
    obtain ⟨hb, h⟩ := h
    obtain ⟨r, hr, hK⟩ := num_sound (g := g) (w := w) h
    exact ⟨_, r, by simp [binOp, Op.shift, show ¬ b < 0 by omega], hr, hK⟩
  case shr =>
    obtain ⟨hb, h⟩ := h
    exact ⟨_, _, by simp [binOp, Op.shift, show ¬ b < 0 by omega], .d (.int _ _), h⟩

theorem astr_sound {g : Ghost} {w : World} {op : BinOp} {a b : List UInt8} {K : AV → Prop} {t : TypeId} (h : astr op a b K) :
    ∃ u r, (binOp op t (.string ⟨a.toArray⟩) (.string ⟨b.toArray⟩)).run P w = .ok u w ∧ RepA g w r u ∧ K r := by
  have hab : (a == b) = decide (a = b) := by rw [Bool.eq_iff_iff]; simp
  cases op <;> simp only [astr] at h
  case add =>
    obtain ⟨hl, hK⟩ := h
    refine ⟨.string ⟨(a ++ b).toArray⟩, _, ?_, .d (.str _), hK⟩
    have : ¬ (((⟨a.toArray⟩ : ByteArray).size + (⟨b.toArray⟩ : ByteArray).size : Nat) : Int) > IntKind.i64.max := by
      show ¬ ((a.toArray.size + b.toArray.size : Nat) : Int) > _
      simp; omega
    simp only [binOp, Op.stringOp]
    rw [if_neg this]
    simp only [Sem.run_pure]
    congr 2
  case eql => exact ⟨_, _, by simp [binOp, Op.stringOp, ByteArray.toList_mk, hab], .d (.bool _), h⟩
  case neq => exact ⟨_, _, by simp [binOp, Op.stringOp, ByteArray.toList_mk, hab], .d (.bool _), h⟩
  case lss => exact ⟨_, _, by simp [binOp, Op.stringOp, ByteArray.toList_mk, hab], .d (.bool _), h⟩
  case leq => exact ⟨_, _, by simp [binOp, Op.stringOp, ByteArray.toList_mk, hab], .d (.bool _), h⟩
  case gtr => exact ⟨.bool (!(Op.bytesLess a b || decide (a = b))), _, by simp [binOp, Op.stringOp, ByteArray.toList_mk, hab], .d (.bool _), h⟩
  case geq => exact ⟨_, _, by simp [binOp, Op.stringOp, ByteArray.toList_mk, hab], .d (.bool _), h⟩

theorem eqIn_bool (d : Nat) {t : TypeId} {a b : Bool} (h : P.underlying t = some .bool) (w : World) : (Op.equalIn (d + 1) t (.bool a) (.bool b)).run P w = .ok (a == b) w := by
  simp [Op.equalIn, run_underlying h]
theorem eqIn_ptr_nil (d : Nat) {t e : TypeId} {a : Addr} (h : P.underlying t = some (.pointer e)) (w : World) : (Op.equalIn (d + 1) t (.pointer (some a)) (.pointer none)).run P w = .ok false w := by
  simp [Op.equalIn, run_underlying h]
theorem eqIn_nil_nil (d : Nat) {t e : TypeId} (h : P.underlying t = some (.pointer e)) (w : World) : (Op.equalIn (d + 1) t (.pointer none) (.pointer none)).run P w = .ok true w := by
  simp [Op.equalIn, run_underlying h]
theorem run_equal_bool {t : TypeId} {a b : Bool} (h : P.underlying t = some .bool) (w : World) : (Op.equal t (.bool a) (.bool b)).run P w = .ok (a == b) w := eqIn_bool 9999 h w
theorem run_equal_ptr_nil {t e : TypeId} {a : Addr} (h : P.underlying t = some (.pointer e)) (w : World) : (Op.equal t (.pointer (some a)) (.pointer none)).run P w = .ok false w := eqIn_ptr_nil 9999 h w
theorem run_equal_nil_nil {t e : TypeId} (h : P.underlying t = some (.pointer e)) (w : World) : (Op.equal t (.pointer none) (.pointer none)).run P w = .ok true w := eqIn_nil_nil 9999 h w

theorem eqIn_slice_none (d : Nat) {t e : TypeId} (h : P.underlying t = some (.slice e)) (n c : Nat) (w : World) : (Op.equalIn (d + 1) t (.slice none n c) (.slice none 0 0)).run P w = .ok true w := by
  simp [Op.equalIn, run_underlying h]
theorem eqIn_slice_some (d : Nat) {t e : TypeId} {a : Addr} (h : P.underlying t = some (.slice e)) (n c : Nat) (w : World) : (Op.equalIn (d + 1) t (.slice (some a) n c) (.slice none 0 0)).run P w = .ok false w := by
  simp [Op.equalIn, run_underlying h]
/-- A slice of data beside nil. -/
theorem slice_nil {g : Ghost} {w : World} {t e : TypeId} {rows : List (List D)} {v : Value} {K : Bool → Prop} (h : P.underlying t = some (.slice e)) (hr : RepA g w (.d (.sl rows)) v) (hK : nilTest rows K) :
    ∃ b, (Op.equal t v (.slice none 0 0)).run P w = .ok b w ∧ K b ∧ (∀ vs, v ≠ .agg vs) ∧ v ≠ .nilIface := by
  cases hr with
  | d hx =>
    cases hx with
    | sl0 a cap =>
      cases a with
      | none => exact ⟨true, eqIn_slice_none 9999 h 0 cap w, hK.1, by simp, by simp⟩
      | some a => exact ⟨false, eqIn_slice_some 9999 h 0 cap w, hK.2, by simp, by simp⟩
    | sl rows b o cap sz f hI hcap hsz hc hr =>
      refine ⟨false, eqIn_slice_some 9999 h _ cap w, ?_, by simp, by simp⟩
      cases rows with
      | nil => exact hK.2
      | cons r rs => exact hK

theorem guard_ok (op : BinOp) (t : TypeId) (x y : Operand) (a b : Value) (ha : (∀ v, a ≠ .agg v) ∧ a ≠ .nilIface) : eqGuard op t x y a b = pure () := by
  cases op <;> cases a <;> first | rfl | exact absurd rfl ha.2 | exact absurd rfl (ha.1 _)

theorem leaf_part {t : TypeId} {k : Nat} (h : leafK P t = some k) (xs : Array Value) (i : Nat) (v : Value) (hv : xs[i]? = some v) (w : World) : (part t xs i).run P w = .ok v w := by
  have hagg : (isAgg t).run P w = .ok false w := by
    unfold leafK at h
    cases hu : P.underlying t with
    | none => rw [hu] at h; cases h
    | some U =>
      rw [hu] at h
      cases U <;> first | (simp [isAgg, run_underlying hu]; done) | cases h
  simp [part, hagg, hv]
theorem dEq_sound {g : Ghost} {w : World} {t : TypeId} {k : Nat} {a b : AV} {x : Bool} {v u : Value} (hk : leafK P t = some k) (h : dEq k a b = some x) (hv : RepA g w a v) (hu : RepA g w b u) (d : Nat) : (Op.equalIn (d + 1) t v u).run P w = .ok x w := by
  unfold leafK at hk
  unfold dEq at h
  split at h
  · cases repA_bool hv; cases repA_bool hu
    cases hU : P.underlying t with
    | none => rw [hU] at hk; cases hk
    | some U =>
      rw [hU] at hk
      cases U <;> first | (cases hk; done) | skip
      cases h
      simp [Op.equalIn, run_underlying hU]
  · cases repA_int hv; cases repA_int hu
    split at h
    · rename_i hkk
      cases kEq_eq hkk
      cases hU : P.underlying t with
      | none => rw [hU] at hk; cases hk
      | some U =>
        rw [hU] at hk
        cases U <;> first | (cases hk; done) | skip
        cases h
        simp [Op.equalIn, run_underlying hU]
        rfl
    · cases h
  · cases repA_str hv; cases repA_str hu
    rename_i a b
    have hab : (a == b) = decide (a = b) := by rw [Bool.eq_iff_iff]; simp
    cases hU : P.underlying t with
    | none => rw [hU] at hk; cases hk
    | some U =>
      rw [hU] at hk
      cases U <;> first | (cases hk; done) | skip
      cases h
      simp [Op.equalIn, run_underlying hU, beq_toListBytes, ByteArray.toList_mk, hab]
  · cases h
theorem eqFields_sound {g : Ghost} {w : World} (d : Nat) {xs ys : Array Value} : ∀ (fs : List Field) (i : Nat) (l : List Nat) (as bs : List AV) (x : Bool), leafFs P fs i = some l → aggEq l as bs = some x →
    (∀ (j : Nat) a, as[j]? = some a → ∃ v, xs[i + j]? = some v ∧ RepA g w a v) → (∀ (j : Nat) a, bs[j]? = some a → ∃ v, ys[i + j]? = some v ∧ RepA g w a v) → (Op.eqFields (d + 1) xs ys fs).run P w = .ok x w
  | [], i, l, as, bs, x, hl, h, _, _ => by
    simp [leafFs] at hl
    subst hl
    cases as <;> cases bs <;> simp [aggEq] at h
    subst h; simp [Op.eqFields]
  | f :: fs, i, l, as, bs, x, hl, h, hx, hy => by
    unfold leafFs at hl
    split at hl
    · rename_i k l' hk hn hl'
      cases hl
      rw [Bool.and_eq_true] at hn
      have ho := Nat.eq_of_beq_eq_true hn.2
      have hname : f.name ≠ "_" := by simpa using hn.1
      match as, bs, h with
      | a :: as, b :: bs, h =>
        unfold aggEq at h
        split at h
        · rename_i p q hp hq
          cases h
          obtain ⟨v, hv1, hv2⟩ := hx 0 a rfl
          obtain ⟨u, hu1, hu2⟩ := hy 0 b rfl
          have ih := eqFields_sound d fs (i + 1) l' as bs q hl' hq (fun j a ha => by rw [show i + 1 + j = i + (j + 1) by omega]; exact hx (j + 1) a (by simpa using ha)) (fun j a ha => by rw [show i + 1 + j = i + (j + 1) by omega]; exact hy (j + 1) a (by simpa using ha))
          unfold Op.eqFields
          rw [if_pos hname, ho]
          simp only [Sem.run_bind, leaf_part hk xs i v hv1, leaf_part hk ys i u hu1, Result.andThen_ok, dEq_sound hk hp hv2 hu2 d]
          cases p with
          | true => simpa using ih
          | false => simp
        · cases h
      | [], [], h => simp [aggEq] at h
      | [], _ :: _, h => simp [aggEq] at h
      | _ :: _, [], h => simp [aggEq] at h
    · cases hl
theorem eqItems_sound {g : Ghost} {w : World} (d : Nat) {xs ys : Array Value} {e : TypeId} {k : Nat} (hk : leafK P e = some k) : ∀ (n i : Nat) (as bs : List AV) (x : Bool), aggEq (List.replicate n k) as bs = some x →
    (∀ (j : Nat) a, as[j]? = some a → ∃ v, xs[i + j]? = some v ∧ RepA g w a v) → (∀ (j : Nat) a, bs[j]? = some a → ∃ v, ys[i + j]? = some v ∧ RepA g w a v) → (Op.eqItems (d + 1) e 1 xs ys (List.range' i n)).run P w = .ok x w
  | 0, i, as, bs, x, h, _, _ => by
    cases as <;> cases bs <;> simp [aggEq] at h
    subst h; simp [Op.eqItems]
  | n + 1, i, as, bs, x, h, hx, hy => by
    rw [List.replicate_succ] at h
    match as, bs, h with
    | a :: as, b :: bs, h =>
      unfold aggEq at h
      split at h
      · rename_i p q hp hq
        cases h
        obtain ⟨v, hv1, hv2⟩ := hx 0 a rfl
        obtain ⟨u, hu1, hu2⟩ := hy 0 b rfl
        have ih := eqItems_sound d hk n (i + 1) as bs q hq (fun j a ha => by rw [show i + 1 + j = i + (j + 1) by omega]; exact hx (j + 1) a (by simpa using ha)) (fun j a ha => by rw [show i + 1 + j = i + (j + 1) by omega]; exact hy (j + 1) a (by simpa using ha))
        rw [List.range'_succ]
        unfold Op.eqItems
        simp only [Nat.mul_one, Sem.run_bind, leaf_part hk xs i v hv1, leaf_part hk ys i u hu1, Result.andThen_ok, dEq_sound hk hp hv2 hu2 d]
        cases p with
        | true => simpa using ih
        | false => simp
      · cases h
    | [], [], h => simp [aggEq] at h
    | [], _ :: _, h => simp [aggEq] at h
    | _ :: _, [], h => simp [aggEq] at h
theorem agg_get {g : Ghost} {w : World} {vs : List AV} {cs : Array Value} (h : RepA g w (.agg vs) (.agg cs)) (j : Nat) (a : AV) (ha : vs[j]? = some a) : ∃ v, cs[0 + j]? = some v ∧ RepA g w a v := by
  cases h with
  | agg _ _ hl hr =>
    have hlt : j < cs.size := by rw [← hl]; exact (List.getElem?_eq_some_iff.1 ha).1
    exact ⟨cs[j], by rw [Nat.zero_add, Array.getElem?_eq_getElem hlt], hr j a _ ha (Array.getElem?_eq_getElem hlt)⟩
theorem aeq_sound {g : Ghost} {w : World} {t : TypeId} {xs ys : List AV} {K : Bool → Prop} {cx cy : Array Value} (h : aeq (tabOf P) t xs ys K) (hx : RepA g w (.agg xs) (.agg cx)) (hy : RepA g w (.agg ys) (.agg cy)) :
    ∃ b, (Op.equalIn 10000 t (.agg cx) (.agg cy)).run P w = .ok b w ∧ K b ∧ ∀ (op : BinOp) (X Y : Operand), (eqGuard op t X Y (.agg cx) (.agg cy)).run P w = .ok () w := by
  unfold aeq at h
  have ht : nth (tabOf P) t = tiOf P t := by
    rcases nth_tab (P := P) t with h' | h'
    · exact h'.1
    · rw [h'] at h; exact h.elim
  rw [ht] at h
  split at h
  · rename_i l hl
    split at h
    · rename_i b hb
      have hl' : eqKinds P t = some l := hl
      unfold eqKinds at hl'
      split at hl'
      · rename_i fs hu
        split at hl'
        · rename_i hs hgd
          have hfs : P.fieldsOf t = fs := by simp [Program.fieldsOf, hu]
          refine ⟨b, ?_, h, fun op X Y => run_eqGuard_agg w op t X Y cx cy hgd⟩
          rw [run_equalIn_struct w 9999 t cx cy (by rw [hfs]; exact hu) hs, hfs]
          exact eqFields_sound 9998 fs.toList 0 l xs ys b hl' hb (agg_get hx) (agg_get hy)
        · cases hl'
      · rename_i n e hu
        split at hl'
        · rename_i k hgd hk hc hn hi
          cases hl'
          obtain ⟨i, hi⟩ := Option.isSome_iff_exists.1 hi
          refine ⟨b, ?_, h, fun op X Y => run_eqGuard_agg w op t X Y cx cy hgd⟩
          rw [run_equalIn_array w 9999 cx cy hu hi, Nat.eq_of_beq_eq_true hc, List.range_eq_range']
          exact eqItems_sound 9998 hk n 0 xs ys b hb (agg_get hx) (agg_get hy)
        · cases hl'
      · cases hl'
    · exact h.elim
  · exact h.elim

theorem bin_sound {g : Ghost} {w : World} {op : BinOp} {t : TypeId} {x y : AV} {v u : Value} {X Y : Operand} {K : AV → Prop} (h : abin (tabOf P) op t x y K) (hx : RepA g w x v) (hy : RepA g w y u) :
    ∃ z r, (do eqGuard op t X Y v u; binOp op t v u : Sem Value).run P w = .ok z w ∧ RepA g w r z ∧ K r := by
  unfold abin at h
  split at h
  · rename_i k1 a1 k2 b1
    cases repA_int hx; cases repA_int hy
    rw [guard_ok _ _ _ _ _ _ ⟨by simp, by simp⟩]
    exact ashift_sound (t := t) (k' := k2) h
  · rename_i k1 a1 k2 b1
    cases repA_int hx; cases repA_int hy
    rw [guard_ok _ _ _ _ _ _ ⟨by simp, by simp⟩]
    exact ashift_sound (t := t) (k' := k2) h
  · cases repA_int hx; cases repA_int hy
    rw [guard_ok _ _ _ _ _ _ ⟨by simp, by simp⟩]
    obtain ⟨hk, h1⟩ := chk_eq h
    cases kEq_eq hk
    exact aint_sound h1
  · cases repA_str hx; cases repA_str hy
    rw [guard_ok _ _ _ _ _ _ ⟨by simp, by simp⟩]
    exact astr_sound h
  · cases repA_bool hx; cases repA_bool hy
    rw [guard_ok _ _ _ _ _ _ ⟨by simp, by simp⟩]
    obtain ⟨hd, h⟩ := chk_eq h
    exact ⟨_, _, by simp [binOp, run_equal_bool (und_bool (isBoolTD_eq hd))], .d (.bool _), h⟩
  · cases repA_bool hx; cases repA_bool hy
    rw [guard_ok _ _ _ _ _ _ ⟨by simp, by simp⟩]
    obtain ⟨hd, h⟩ := chk_eq h
    exact ⟨_, _, by simp [binOp, run_equal_bool (und_bool (isBoolTD_eq hd))], .d (.bool _), h⟩
  · cases hx; cases hy
    rw [guard_ok _ _ _ _ _ _ ⟨by simp, by simp⟩]
    obtain ⟨hd, h⟩ := chk_eq h
    obtain ⟨e, he⟩ := isPtrTD_eq hd
    exact ⟨.bool false, _, by simp [binOp, run_equal_ptr_nil (und_ptr he)], .d (.bool _), h⟩
  · cases hx; cases hy
    rw [guard_ok _ _ _ _ _ _ ⟨by simp, by simp⟩]
    obtain ⟨hd, h⟩ := chk_eq h
    obtain ⟨e, he⟩ := isPtrTD_eq hd
    exact ⟨.bool true, _, by simp [binOp, run_equal_ptr_nil (und_ptr he)], .d (.bool _), h⟩
  · cases hx; cases hy
    rw [guard_ok _ _ _ _ _ _ ⟨by simp, by simp⟩]
    obtain ⟨hd, h⟩ := chk_eq h
    obtain ⟨e, he⟩ := isPtrTD_eq hd
    exact ⟨.bool true, _, by simp [binOp, run_equal_nil_nil (und_ptr he)], .d (.bool _), h⟩
  · cases hx; cases hy
    rw [guard_ok _ _ _ _ _ _ ⟨by simp, by simp⟩]
    obtain ⟨hd, h⟩ := chk_eq h
    obtain ⟨e, he⟩ := isPtrTD_eq hd
    exact ⟨.bool false, _, by simp [binOp, run_equal_nil_nil (und_ptr he)], .d (.bool _), h⟩
  · obtain ⟨hd, h⟩ := chk_eq h
    obtain ⟨e, he⟩ := isSliceTD_eq hd
    cases hy
    obtain ⟨b, h1, h2, h3, h4⟩ := slice_nil (und_slice he) hx h
    refine ⟨.bool b, _, ?_, .d (.bool _), h2⟩
    rw [guard_ok _ _ _ _ _ _ ⟨h3, h4⟩]
    simp [binOp, h1]
  · rename_i i lo len
    obtain ⟨hd, h⟩ := chk_eq h
    obtain ⟨e, he⟩ := isSliceTD_eq hd
    cases hy
    cases hx with
    | own _ _ _ cap hi hc hl =>
      refine ⟨.bool false, _, ?_, .d (.bool _), h.2⟩
      rw [guard_ok _ _ _ _ _ _ ⟨by simp, by simp⟩]
      simp [binOp, show (Op.equal t (.slice (some ⟨g.blk i, lo * g.sz i, none⟩) len cap) (.slice none 0 0)).run P w = .ok false w from eqIn_slice_some 9999 (und_slice he) len cap w]
    | own0 _ _ hi =>
      refine ⟨.bool true, _, ?_, .d (.bool _), h.1 rfl⟩
      rw [guard_ok _ _ _ _ _ _ ⟨by simp, by simp⟩]
      simp [binOp, show (Op.equal t (.slice none 0 0) (.slice none 0 0)).run P w = .ok true w from eqIn_slice_none 9999 (und_slice he) 0 0 w]
  · obtain ⟨hd, h⟩ := chk_eq h
    obtain ⟨e, he⟩ := isSliceTD_eq hd
    cases hy
    obtain ⟨b, h1, h2, h3, h4⟩ := slice_nil (und_slice he) hx h
    refine ⟨.bool (!b), _, ?_, .d (.bool _), h2⟩
    rw [guard_ok _ _ _ _ _ _ ⟨h3, h4⟩]
    simp [binOp, h1]
  · have hx0 := hx
    have hy0 := hy
    cases hx; cases hy
    obtain ⟨b, h1, h2, h3⟩ := aeq_sound h hx0 hy0
    refine ⟨.bool b, _, ?_, .d (.bool _), h2⟩
    simp only [Sem.run_bind, h3, Result.andThen_ok, run_eql_struct, h1]
  · have hx0 := hx
    have hy0 := hy
    cases hx; cases hy
    obtain ⟨b, h1, h2, h3⟩ := aeq_sound h hx0 hy0
    refine ⟨.bool (!b), _, ?_, .d (.bool _), h2⟩
    simp only [Sem.run_bind, h3, Result.andThen_ok, run_neq_struct, h1]
  · exact h.elim

theorem nrm_ok {g : Ghost} {w : World} {a : AV} {v : Value} (h : RepA g w a v) : RepA g w (nrm a) v := by
  unfold nrm
  split
  · cases h; exact .d (.bool _)
  · cases h; exact .d (.bool _)
  · exact h

theorem un_sound {g : Ghost} {w : World} {op : UnOp} {x : AV} {v : Value} {K : AV → Prop} (h : aun op x K) (hx : RepA g w x v) :
    ∃ z r, (Op.unary op v).run P w = .ok z w ∧ RepA g w r z ∧ K r := by
  unfold aun at h
  split at h
  · cases repA_bool hx
    exact ⟨_, _, by simp [Op.unary], .d (.bool _), h⟩
  · cases hx; exact ⟨_, _, rfl, .ff, h⟩
  · cases hx; exact ⟨_, _, rfl, .tt, h⟩
  · cases repA_int hx
    obtain ⟨r, hr, hK⟩ := num_sound (g := g) (w := w) h
    exact ⟨_, r, rfl, hr, hK⟩
  · exact h.elim

end
end Go.Aw
