/- The abstract walk, eighth part: calls and code; what the walk says of code, the machine does. -/
import Derived.Test.YtcmkiancbgmmhaaAw7
import Derived.Laws.Externs
namespace Go.Aw
set_option linter.unusedVariables false
set_option linter.unusedSimpArgs false

/-- A function that is entered when it is called. -/
def Callable (P : Program) (f : FuncId) : Prop := ∃ fn, P.funcs[f]? = some fn ∧ (fn.name == "runtime.NumGoroutine") = false ∧ fn.body.isNone = false

/-- A function with a body, called on abstract values: whatever memory it begins in, it returns, and so. -/
def Enters (P : Program) (f : FuncId) (args : List AV) (σ : Store) (R : AV → Store → Prop) : Prop :=
  Callable P f ∧ ∀ (g : Ghost) (w : World) (vs : List Value), StoreRel P g σ w → RepL g w args vs →
    Calls P f vs.toArray w fun e w' => ∃ v g' σ' r, e = .returned v ∧ Ext g σ w g' σ' w' ∧ StoreRel P g' σ' w' ∧ RepA g' w' r v ∧ R r σ'
/-- A function without a body, that the model has. -/
def Outer (P : Program) (f : FuncId) (args : List AV) (σ : Store) (R : AV → Store → Prop) : Prop :=
  ∃ fn e, P.funcs[f]? = some fn ∧ (fn.name == "runtime.NumGoroutine") = false ∧ fn.body.isNone = true ∧ Extern.findNext fn = none ∧ Extern.find fn = some e ∧
    ∀ (g : Ghost) (w : World) (vs : List Value), StoreRel P g σ w → RepL g w args vs → Up (P := P) g σ w R ((e vs.toArray).run P w)
/-- A call on abstract values. -/
def CallsAbs (P : Program) (f : FuncId) (args : List AV) (σ : Store) (R : AV → Store → Prop) : Prop := Enters P f args σ R ∨ Outer P f args σ R

theorem Enters.mono {P : Program} {f : FuncId} {args : List AV} {σ : Store} {R R' : AV → Store → Prop} (h : Enters P f args σ R) (hr : ∀ r σ', R r σ' → R' r σ') : Enters P f args σ R' :=
  ⟨h.1, fun g w vs hS hL => (h.2 g w vs hS hL).mono fun e w' ⟨v, g', σ', r, he, h1, h2, h3, h4⟩ => ⟨v, g', σ', r, he, h1, h2, h3, hr r σ' h4⟩⟩
theorem Up.mono {P : Program} {g : Ghost} {σ : Store} {w : World} {K K' : AV → Store → Prop} {s : Result Value} (h : Up (P := P) g σ w K s) (hk : ∀ r σ', K r σ' → K' r σ') : Up (P := P) g σ w K' s := by
  cases s with
  | ok v w' => obtain ⟨g', σ', r, h1, h2, h3, h4⟩ := h; exact ⟨g', σ', r, h1, h2, h3, hk _ _ h4⟩
  | halt x w' => exact h.elim
theorem CallsAbs.mono {P : Program} {f : FuncId} {args : List AV} {σ : Store} {R R' : AV → Store → Prop} (h : CallsAbs P f args σ R) (hr : ∀ r σ', R r σ' → R' r σ') : CallsAbs P f args σ R' := by
  rcases h with h | ⟨fn, e, h1, h2, h3, h4, h5, h6⟩
  · exact .inl (h.mono hr)
  · exact .inr ⟨fn, e, h1, h2, h3, h4, h5, fun g w vs hS hL => (h6 g w vs hS hL).mono hr⟩

/-- The function behind a method of a concrete type, where the receiver is the value itself. -/
def methodOf (P : Program) (t : TypeId) (name : String) : Option FuncId :=
  match P.info? t with
  | some i => match i.methods.find? (·.name == name) with
    | some m => match m.path.isEmpty, m.func, P.underlying t with
      | true, some (f, true), some (.pointer _) => some f
      | true, some (_, false), some (.pointer _) => none
      | true, some (f, false), some _ => some f
      | _, _, _ => none
    | none => none
  | none => none

def acall (T : List TI) (P : Program) (ρ : Operand → AV) (σ : Store) (c : Call) (K : AV → Store → Prop) : Prop :=
  match c.callee with
  | .builtin b => abuiltin T σ b c.argTypes.toList (c.args.toList.map ρ) K
  | .value f => match ρ f with
    | .fn (.func k) first captured => CallsAbs P k (first ++ c.args.toList.map (fun x => nrm (ρ x)) ++ captured) σ K
    | _ => False
  | .invoke recv name => match ρ recv with
    | .ifc t v => ∃ k, methodOf P t name = some k ∧ CallsAbs P k (v :: c.args.toList.map (fun x => nrm (ρ x))) σ K
    | _ => False

def astep (T : List TI) (P : Program) (s : St) (σ : Store) (op : Op) (K : AV → Store → Prop) : Prop :=
  match op with
  | .call c => acall T P (ev s) σ c K
  | op => aop T (ev s) σ op K

/-- A slot is written. -/
def aput (N : Nat) (dst : Option Tmp) (v : AV) (s : St) (K : St → Prop) : Prop :=
  match dst with
  | none => K s
  | some d => match Nat.ble (d + 1) N with
    | true => K ((d, v) :: s)
    | false => False

def aguard (l : List Oper) (s : St) (j : Nat) : AV :=
  match l[j]? with
  | some o => match o.dst with | some d => look .top s d | none => .top
  | none => .top

/-- What a test told is noted in its slot. -/
def aknown (l : List Oper) (s : St) (j : Nat) (v : AV) (K : St → Prop) : Prop :=
  match l[j]? with
  | some o => match o.dst with | some d => K ((d, v) :: s) | none => K s
  | none => K s

def aops0 (T : List TI) (P : Program) (N : Nat) (l : List Oper) : List Oper → (St → Store → Prop) → St → Store → Prop
  | [], K, s, σ => K s σ
  | o :: rest, K, s, σ => match o.guard with
    | none => astep T P s σ o.op fun v σ' => aput N o.dst v s fun s' => aops0 T P N l rest K s' σ'
    | some (j, want) => match aguard l s j, want with
      | .tt, true => astep T P s σ o.op fun v σ' => aput N o.dst v s fun s' => aops0 T P N l rest K s' σ'
      | .ff, false => astep T P s σ o.op fun v σ' => aput N o.dst v s fun s' => aops0 T P N l rest K s' σ'
      | .tt, false => aput N o.dst (.tup []) s fun s' => aops0 T P N l rest K s' σ
      | .ff, true => aput N o.dst (.tup []) s fun s' => aops0 T P N l rest K s' σ
      | .d (.bool b), true => (b = true → aknown l s j .tt fun s => astep T P s σ o.op fun v σ' => aput N o.dst v s fun s' => aops0 T P N l rest K s' σ') ∧ (b = false → aknown l s j .ff fun s => aput N o.dst (.tup []) s fun s' => aops0 T P N l rest K s' σ)
      | .d (.bool b), false => (b = false → aknown l s j .ff fun s => astep T P s σ o.op fun v σ' => aput N o.dst v s fun s' => aops0 T P N l rest K s' σ') ∧ (b = true → aknown l s j .tt fun s => aput N o.dst (.tup []) s fun s' => aops0 T P N l rest K s' σ)
      | .tup [], _ => aput N o.dst (.tup []) s fun s' => aops0 T P N l rest K s' σ
      | _, _ => False

/-- The frame's slots. -/
structure RelT (N : Nat) (g : Ghost) (w : World) (s : St) (a : Act) : Prop where
  size : a.tmps.size = N
  defers : a.defers = []
  rep : ∀ t, RepA g w (look .top s t) (a.tmps.getD t undef)

theorem RelT.mono {N : Nat} {g g' : Ghost} {w w' : World} {s : St} {a : Act} (k : Keeps g w g' w') (h : RelT N g w s a) : RelT N g' w' s a := ⟨h.size, h.defers, fun t => (h.rep t).mono k⟩

/-- Whatever is no live object's own stays as it was; of the objects from a number on nothing is said. -/
structure ExtB (B : Nat) (g : Ghost) (σ : Store) (w : World) (g' : Ghost) (σ' : Store) (w' : World) : Prop where
  n : B ≤ g'.n
  place : ∀ i, i < B → g'.blk i = g.blk i ∧ g'.sz i = g.sz i ∧ g'.cap i = g.cap i
  dead : ∀ i, i < B → σ.get i = .dead → σ'.get i = .dead
  size : w.heap.size ≤ w'.heap.size
  keep : ∀ b, b < w.heap.size → (∀ i, g.kind b = .own i → i < B ∧ σ.get i = .dead) → g'.kind b = g.kind b ∧ w'.heap[b]? = w.heap[b]?
  os : w'.os = w.os
  tape : w'.tape = w.tape
  output : w'.output = w.output

theorem ExtB.refl {B : Nat} {g : Ghost} (h : B ≤ g.n) (σ : Store) (w : World) : ExtB B g σ w g σ w :=
  ⟨h, fun _ _ => ⟨rfl, rfl, rfl⟩, fun _ _ h => h, Nat.le_refl _, fun _ _ _ => ⟨rfl, rfl⟩, rfl, rfl, rfl⟩
theorem ExtB.trans {B : Nat} {g0 g1 g2 : Ghost} {σ0 σ1 σ2 : Store} {w0 w1 w2 : World} (h : ExtB B g0 σ0 w0 g1 σ1 w1) (k : ExtB B g1 σ1 w1 g2 σ2 w2) : ExtB B g0 σ0 w0 g2 σ2 w2 := by
  refine ⟨k.n, fun i hi => ?_, fun i hi hd => k.dead i hi (h.dead i hi hd), Nat.le_trans h.size k.size, fun b hb ho => ?_, k.os.trans h.os, k.tape.trans h.tape, k.output.trans h.output⟩
  · obtain ⟨a, b, c⟩ := h.place i hi
    obtain ⟨a', b', c'⟩ := k.place i hi
    exact ⟨a'.trans a, b'.trans b, c'.trans c⟩
  · obtain ⟨hk, hw⟩ := h.keep b hb ho
    obtain ⟨hk', hw'⟩ := k.keep b (Nat.lt_of_lt_of_le hb h.size) (fun i hi => by
      obtain ⟨q1, q2⟩ := ho i (hk ▸ hi)
      exact ⟨q1, h.dead i q1 q2⟩)
    exact ⟨hk'.trans hk, hw'.trans hw⟩
theorem Ext.toB {B : Nat} {g g' : Ghost} {σ σ' : Store} {w w' : World} (h : Ext g σ w g' σ' w') (hB : B ≤ g.n) : ExtB B g σ w g' σ' w' :=
  ⟨Nat.le_trans hB h.n, fun i hi => h.place i (Nat.lt_of_lt_of_le hi hB), fun i hi => h.dead i (Nat.lt_of_lt_of_le hi hB), h.size, fun b hb ho => h.keep b hb (fun i hi => (ho i hi).2), h.os, h.tape, h.output⟩
theorem ExtB.toExt {P : Program} {g g' : Ghost} {σ σ' : Store} {w w' : World} (R : StoreRel P g σ w) (h : ExtB g.n g σ w g' σ' w') : Ext g σ w g' σ' w' :=
  ⟨h.n, h.place, h.dead, h.size, fun b hb ho => h.keep b hb (fun i hi => ⟨R.owner b i hi, ho i hi⟩), h.os, h.tape, h.output⟩

def Post {P : Program} (N B : Nat) (g : Ghost) (σ : Store) (w : World) (K : Exit → St → Store → Prop) : Exit → Act → World → Prop :=
  fun e a' w' => ∃ s' σ' g', K e s' σ' ∧ RelT N g' w' s' a' ∧ ExtB B g σ w g' σ' w' ∧ StoreRel P g' σ' w'

/-- WHAT CODE DOES, said of abstract slots and objects. -/
def E (P : Program) (N B : Nat) (c : Code) (K : Exit → St → Store → Prop) (s : St) (σ : Store) : Prop :=
  ∀ (g : Ghost) (a : Act) (w : World), B ≤ g.n → RelT N g w s a → StoreRel P g σ w → c.wp P (Post (P := P) N B g σ w K) a w

/-- What a test told of a slot. -/
def told (c : Operand) (v : AV) (s : St) : St := match c with
  | .tmp t => (t, v) :: s
  | _ => s
def awp0 (T : List TI) (P : Program) (N B : Nat) : Code → (Exit → St → Store → Prop) → St → Store → Prop
  | .skip, K, s, σ => K .normal s σ
  | .label _, K, s, σ => K .normal s σ
  | .exit id, K, s, σ => K (.exit id) s σ
  | .goto l, K, s, σ => K (.goto l) s σ
  | .ret, K, s, σ => K .ret s σ
  | .seq a b, K, s, σ => awp0 T P N B a (fun e s σ => match e with | .normal => awp0 T P N B b K s σ | e => K e s σ) s σ
  | .cond c x y, K, s, σ => match ev s c with
    | .tt => awp0 T P N B x K s σ
    | .ff => awp0 T P N B y K s σ
    | .d (.bool b) => cbr b (awp0 T P N B x K (told c .tt s) σ) (awp0 T P N B y K (told c .ff s) σ)
    | _ => False
  | .block id c, K, s, σ => awp0 T P N B c (fun e s σ => match e with
    | .exit j => (match Nat.beq j id with | true => K .normal s σ | false => K (.exit j) s σ)
    | e => K e s σ) s σ
  | .region id ops draw, K, s, σ => match draw with
    | false => aops0 T P N ops.toList ops.toList (fun s σ => K .normal s σ) s σ
    | true => E P N B (.region id ops true) K s σ
  | .loop c, K, s, σ => E P N B (.loop c) K s σ
  | .scope c, K, s, σ => E P N B (.scope c) K s σ
  | _, _, _, _ => False

section
variable {P : Program} {N B : Nat}

theorem E.mono {c : Code} {K K' : Exit → St → Store → Prop} {s : St} {σ : Store} (h : E P N B c K s σ) (hk : ∀ e s σ, K e s σ → K' e s σ) : E P N B c K' s σ :=
  fun g a w hB hT hS => wp_mono (h g a w hB hT hS) fun e a' w' ⟨s', σ', g', h1, h2, h3, h4⟩ => ⟨s', σ', g', hk _ _ _ h1, h2, h3, h4⟩

theorem ev_ok {g : Ghost} {w : World} {s : St} {a : Act} (h : RelT N g w s a) (x : Operand) : RepA g w (ev s x) (a.eval x) := by
  cases x with
  | tmp t => exact h.rep t
  | const v => exact absV_ok g w v
  | global n => exact .top _
  | func f => exact .fn (.func f) [] [] #[] #[] rfl rfl (by simp) (by simp)

/-- The facts on types that the program must bear. -/
def wfT (P : Program) (t : TypeId) : Bool :=
  let ok (e : TypeId) : Bool := decide (e < P.types.size) && (P.underlying e).isSome
  match P.underlying t with
  | some (.struct fs) => fs.toList.all fun f => ok f.type
  | some (.slice e) => ok e
  | some (.array _ e) => ok e
  | some (.map k e) => ok k && ok e
  | some (.pointer e) => ok e
  | some _ => true
  | none => false
def wfP (P : Program) : Bool := (List.range P.types.size).all (wfT P)

theorem tok_of_lt {e : TypeId} (h : e < P.types.size) (hu : (P.underlying e).isSome = true) : TOk P e :=
  ⟨Option.isSome_iff_exists.1 hu, by rcases nth_tab (P := P) e with ⟨h1, _⟩ | h1
                                     · exact h1
                                     · exact nth_some _ _ _ (by simp [tabOf, h])⟩

theorem td_lt {t : TypeId} (h : (nth (tabOf P) t).d ≠ .other) : t < P.types.size := by
  rcases nth_tab (P := P) t with ⟨_, h1⟩ | h1
  · exact h1
  · rw [h1] at h; exact absurd rfl h
theorem tok_self (hw : wfP P = true) {t : TypeId} (h : t < P.types.size) : TOk P t := by
  have := List.all_eq_true.1 hw t (by simpa using h)
  refine tok_of_lt h ?_
  cases hu : P.underlying t with
  | none => simp [wfT, hu] at this
  | some d => rfl
theorem wf_slice (hw : wfP P = true) {t e : TypeId} (h : t < P.types.size) (hu : P.underlying t = some (.slice e)) : TOk P e := by
  have := List.all_eq_true.1 hw t (by simpa using h)
  simp [wfT, hu] at this
  exact tok_of_lt this.1 this.2
theorem wf_arr (hw : wfP P = true) {t n e : TypeId} (h : t < P.types.size) (hu : P.underlying t = some (.array n e)) : TOk P e := by
  have := List.all_eq_true.1 hw t (by simpa using h)
  simp [wfT, hu] at this
  exact tok_of_lt this.1 this.2
theorem wf_map (hw : wfP P = true) {t k e : TypeId} (h : t < P.types.size) (hu : P.underlying t = some (.map k e)) : TOk P e := by
  have := List.all_eq_true.1 hw t (by simpa using h)
  simp [wfT, hu] at this
  exact tok_of_lt this.2.1 this.2.2
theorem wf_struct (hw : wfP P = true) {t : TypeId} {fs : Array Field} (h : t < P.types.size) (hu : P.underlying t = some (.struct fs)) : ∀ F ∈ fs.toList, TOk P F.type := by
  have := List.all_eq_true.1 hw t (by simpa using h)
  simp only [wfT, hu, List.all_eq_true, Bool.and_eq_true, decide_eq_true_eq] at this
  exact fun F hF => tok_of_lt (this F hF).1 (this F hF).2

/-- What an operation's own run is to be, with what is next. -/
def UpN (g : Ghost) (σ : Store) (w : World) (K : AV → Store → Prop) : Result Next → Prop
  | .ok (.value v) w' => ∃ g' σ' r, Ext g σ w g' σ' w' ∧ StoreRel P g' σ' w' ∧ RepA g' w' r v ∧ K r σ'
  | .ok .skip w' => ∃ g' σ', Ext g σ w g' σ' w' ∧ StoreRel P g' σ' w' ∧ K .top σ'
  | .ok (.enter f args) w' => w' = w ∧ Calls P f args w fun e w' => ∃ v g' σ' r, e = .returned v ∧ Ext g σ w g' σ' w' ∧ StoreRel P g' σ' w' ∧ RepA g' w' r v ∧ K r σ'
  | _ => False

theorem UpN.of_value {g : Ghost} {σ : Store} {w : World} {K : AV → Store → Prop} {s : Sem Value} (h : Up (P := P) g σ w K (s.run P w)) : UpN (P := P) g σ w K ((do pure (.value (← s)) : Sem Next).run P w) := by
  simp only [Sem.run_bind]
  cases hr : s.run P w with
  | ok v w' => rw [hr] at h; exact h
  | halt x w' => rw [hr] at h; exact h.elim
theorem UpN.of_unit {g : Ghost} {σ : Store} {w : World} {K : AV → Store → Prop} {s : Sem Unit} (h : UpU (P := P) g σ w (fun σ' => K .top σ') (s.run P w)) : UpN (P := P) g σ w K ((do s; pure .skip : Sem Next).run P w) := by
  simp only [Sem.run_bind]
  cases hr : s.run P w with
  | ok v w' => rw [hr] at h; exact h
  | halt x w' => rw [hr] at h; exact h.elim
theorem UpN.quiet {g : Ghost} {σ : Store} {w : World} {K : AV → Store → Prop} (R : StoreRel P g σ w) {s : Result Next} {v : Value} {r : AV} (h : s = .ok (.value v) w) (hr : RepA g w r v) (hK : K r σ) : UpN (P := P) g σ w K s := by
  subst h; exact ⟨g, σ, r, Ext.refl _ _ _, R, hr, hK⟩

theorem repL_map {g : Ghost} {w : World} {ρ : Operand → AV} {ρ' : Operand → Value} (h : ∀ x, RepA g w (ρ x) (ρ' x)) (l : List Operand) : RepL g w (l.map ρ) (l.map ρ') := by
  induction l with
  | nil => exact .nil
  | cons x l ih => exact .cons (h x) ih
theorem repO_map {g : Ghost} {w : World} {ρ : Operand → AV} {ρ' : Operand → Value} (h : ∀ x, RepA g w (ρ x) (ρ' x)) (x : Option Operand) : RepO g w (x.map ρ) (x.map ρ') := by
  cases x with
  | none => trivial
  | some x => exact h x

theorem repL_fn {g : Ghost} {w : World} {as : List AV} {vs : Array Value} (h : as.length = vs.size) (hr : ∀ (i : Nat) a v, as[i]? = some a → vs[i]? = some v → RepA g w a v) : RepL g w as vs.toList :=
  ⟨by simpa using h, fun i a v ha hv => hr i a v ha (by simpa using hv)⟩

theorem op_sound (hw : wfP P = true) {g : Ghost} {σ : Store} {w : World} {ρ : Operand → AV} {ρ' : Operand → Value} {o : Oper} {K : AV → Store → Prop} (h : aop (tabOf P) ρ σ o.op K) (hnc : ∀ c, o.op ≠ .call c) (R : StoreRel P g σ w) (hρ : ∀ x, RepA g w (ρ x) (ρ' x)) :
    UpN (P := P) g σ w K ((execOp ρ' o).run P w) := by
  unfold execOp
  cases ho : o.op <;> rw [ho] at h <;> simp only [aop, force_eq, forceL_eq, addK_eq] at h
  case move x => exact UpN.quiet R rfl (hρ x) h
  case assign x => exact UpN.quiet R rfl (hρ x) h
  case pick c x y =>
    split at h
    · rename_i hb
      have hc := hρ c
      rw [hb] at hc
      have hc' : ρ' c = .bool true := by generalize ρ' c = u at hc; cases hc; rfl
      exact UpN.quiet R (by simp [hc', asBool]) (hρ x) h
    · rename_i hb
      have hc := hρ c
      rw [hb] at hc
      have hc' : ρ' c = .bool false := by generalize ρ' c = u at hc; cases hc; rfl
      exact UpN.quiet R (by simp [hc', asBool]) (hρ y) h
    · rename_i b hb
      have hc := hρ c
      rw [hb] at hc
      have hc' := repA_bool hc
      cases b with
      | true => exact UpN.quiet R (by simp [hc', asBool]) (hρ x) (h.1 rfl)
      | false => exact UpN.quiet R (by simp [hc', asBool]) (hρ y) (h.2 rfl)
    · exact h.elim
  case alloc e =>
    split at h
    · rename_i hb
      exact UpN.of_value (allocB_sound hb h R)
    split at h
    · rename_i z hz
      have he : e < P.types.size := by
        rcases nth_tab (P := P) e with ⟨_, h1⟩ | h1
        · exact h1
        · rw [h1] at hz; cases hz
      exact UpN.of_value (alloc_sound (tok_self hw he) hz h R)
    · exact h.elim
  case box e x =>
    split at h
    · rename_i l hl
      exact UpN.of_value (box_sound hl h R (hρ x))
    · exact h.elim
  case build t parts =>
    have ht : t < P.types.size := by
      refine td_lt fun hd => ?_
      unfold abuild at h; rw [hd] at h; exact h
    have := build_sound (ρ' := ρ') (parts := parts) (tok_self hw ht) (fun Fs hu => wf_struct hw ht hu) (fun n e hu => wf_arr hw ht hu) h hρ
    exact UpN.of_value (Up.quiet R this)
  case buildSlice t len parts =>
    have ht : t < P.types.size := by
      refine td_lt fun hd => ?_
      unfold abuildSlice at h; rw [hd] at h; exact h
    exact UpN.of_value (buildSlice_sound (fun e hu => wf_slice hw ht hu) h R hρ)
  case load t a => exact UpN.of_value (Up.quiet R (load_sound h R (hρ a)))
  case store t a x =>
    have ht : t < P.types.size := td_lt (fun hd => by unfold astore known at h; rw [hd] at h; exact h)
    exact UpN.of_unit (store_sound (tok_self hw ht) h R (hρ a) (hρ x))
  case nilCheck x =>
    have hx := hρ x
    dsimp only
    generalize ρ' x = u at hx ⊢
    split at h
    · rename_i i r c hx'; rw [hx'] at hx; cases hx with
      | ref _ _ _ hi => exact ⟨g, σ, _, Ext.refl _ _ _, R, .ref _ _ _ hi, h⟩
    · rename_i row c hx'; rw [hx'] at hx; cases hx with
      | ip _ _ b o f q1 q2 q3 => exact ⟨g, σ, _, Ext.refl _ _ _, R, .ip _ _ b o f q1 q2 q3, h⟩
    · rename_i f a b hx'; rw [hx'] at hx; cases hx with
      | fn _ _ _ vf vc q1 q2 q3 q4 => exact ⟨g, σ, _, Ext.refl _ _ _, R, .fn _ _ _ vf vc q1 q2 q3 q4, h⟩
    · rename_i t v hx'; rw [hx'] at hx; cases hx with
      | ifc _ _ u q => exact ⟨g, σ, _, Ext.refl _ _ _, R, .ifc _ _ u q, h⟩
    · exact h.elim
  case binOp op t x y yt => exact UpN.of_value (Up.quiet R (bin_sound h (hρ x) (hρ y)))
  case unOp op t x => exact UpN.of_value (Up.quiet R (un_sound h (hρ x)))
  case convert src dst x =>
    exact UpN.of_value (conv_sound h R (hρ x) (fun e hu => by
      have hd : dst < P.types.size := td_lt (fun hd => by unfold aconv at h; rw [hd] at h; split at h <;> first | (rename_i hh; cases hh) | exact h | simp_all)
      exact wf_slice hw hd hu))
  case makeInterface t x =>
    have ht : (nth (tabOf P) t).d ≠ .iface ∧ (nth (tabOf P) t).d ≠ .other ∧ K (.ifc t (ρ x)) σ := by
      split at h
      · exact h.elim
      · exact h.elim
      · rename_i h1 h2; exact ⟨h1, h2, h⟩
    obtain ⟨h1, h2, hK⟩ := ht
    refine UpN.of_value (Up.quiet R ⟨.iface t (ρ' x), _, ?_, .ifc t _ _ (hρ x), hK⟩)
    obtain ⟨d, hu⟩ := und_some h2
    simp only [Instr.makeInterface, Sem.run_bind, run_underlying hu, Result.andThen]
    have : ∀ ms, d ≠ .interface ms := fun ms hd => by
      subst hd
      rw [nth_of_d h2] at h1
      exact h1 (by show tdOf P t = _; simp [tdOf, hu])
    cases d <;> first | rfl | exact absurd rfl (this _)
  case makeFunc fn first captured =>
    refine UpN.of_value (Up.quiet R ⟨.func fn (first.map ρ') (captured.map ρ'), _, rfl, ?_, h⟩)
    have h1 := repL_map hρ first.toList
    have h2 := repL_map hρ captured.toList
    exact .fn fn _ _ _ _ (by simp) (by simp) (fun i a v ha hv => h1.2 i a v ha (by simpa using hv)) (fun i a v ha hv => h2.2 i a v ha (by simpa using hv))
  case makeMap t r =>
    cases r with
    | none => exact UpN.of_value (makeMap_sound h R)
    | some r => exact h.elim
  case slice t x lo hi mx =>
    split at h
    · rename_i n e hd
      exact UpN.of_value (sliceArr_sound (und_arr hd) h R (hρ x) (repO_map hρ lo) (repO_map hρ hi) (repO_map hρ mx))
    · exact UpN.of_value (Up.quiet R (slice_sound h R (dtd_ok (hρ x)) (repO_map hρ lo) (repO_map hρ hi) (repO_map hρ mx)))
  case fieldAddr s x f => exact UpN.of_value (Up.quiet R (fieldAddr_sound h (hρ x)))
  case field t x f =>
    refine UpN.of_value (Up.quiet R (field_sound (fun Fs F hu hF => ?_) h (hρ x)))
    have ht : t < P.types.size := td_lt (fun hd => by unfold afield at h; rw [hd] at h; exact h)
    exact (wf_struct hw ht hu F (List.mem_of_getElem? (by simpa using hF))).und
  case indexAddr t x i =>
    have ht : t < P.types.size := td_lt (fun hd => by unfold aindexAddr at h; rw [hd] at h; exact h)
    exact UpN.of_value (Up.quiet R (indexAddr_sound (fun n e hu => wf_arr hw ht hu) (fun e hu => wf_slice hw ht hu) h R (dtd_ok (hρ x)) (hρ i)))
  case index t x i =>
    have ht : t < P.types.size := td_lt (fun hd => by unfold aindex at h; rw [hd] at h; exact h)
    exact UpN.of_value (Up.quiet R (index_sound (fun n e hu => wf_arr hw ht hu) h (hρ x) (hρ i)))
  case lookup t m k ok =>
    have ht : t < P.types.size := td_lt (fun hd => by unfold alookup at h; rw [hd] at h; exact h)
    exact UpN.of_value (Up.quiet R (lookup_sound (fun k e hu => wf_map hw ht hu) h R (hρ m) (hρ k)))
  case mapUpdate t m k v => exact UpN.of_unit (mapUpdate_sound h R (hρ m) (hρ k) (nrm_ok (hρ v)))
  case insert t m k v => exact UpN.of_unit (mapUpdate_sound h R (hρ m) (hρ k) (nrm_ok (hρ v)))
  case range t x => exact UpN.of_value (range_sound h R (hρ x))
  case next it isS =>
    cases isS with
    | true => exact UpN.of_value (next_sound h R (hρ it))
    | false => exact h.elim
  case extract t ix =>
    have ht := hρ t
    split at h
    · rename_i vs hvs
      rw [hvs] at ht
      split at h
      · rename_i v hv
        generalize hu : ρ' t = u at ht
        cases ht with
        | tup _ cs hl hcs =>
        have hlt : ix < cs.size := by rw [← hl]; exact lt_of_some hv
        refine UpN.of_value (Up.quiet R ⟨cs[ix], v, ?_, hcs ix v _ hv (by simp [hlt]), h⟩)
        rw [hu]
        simp [Instr.extract, hlt]
      · exact h.elim
    · exact h.elim
  all_goals exact h.elim

theorem callFunc_run {f : FuncId} (h : Callable P f) (args : Array Value) (w : World) : (callFunc f args).run P w = .ok (.enter f args) w := by
  obtain ⟨fn, hf, hn, hb⟩ := h
  simp only [callFunc, Sem.run_bind, run_program, Result.andThen, hf]
  rw [if_neg (by rw [hn]; simp), if_neg (by rw [hb]; simp)]
  rfl

theorem callsAbs_run {f : FuncId} {args : List AV} {σ : Store} {K : AV → Store → Prop} (h : CallsAbs P f args σ K) {g : Ghost} {w : World} {vs : Array Value} (R : StoreRel P g σ w) (hL : RepL g w args vs.toList) :
    UpN (P := P) g σ w K ((callFunc f vs).run P w) := by
  rcases h with h | ⟨fn, e, h1, h2, h3, h4, h5, h6⟩
  · rw [callFunc_run h.1]
    refine ⟨rfl, ?_⟩
    have := h.2 g w _ R hL
    rw [Array.toArray_toList] at this
    exact this
  · rw [run_callFunc_extern h1 h2 h3 h4 h5]
    have := h6 g w _ R hL
    rw [Array.toArray_toList] at this
    cases hr : (e vs).run P w with
    | ok v w' => rw [hr] at this; exact this
    | halt x w' => rw [hr] at this; exact this.elim

theorem builtin_sound (hw : wfP P = true) {g : Ghost} {σ : Store} {w : World} {b : Builtin} {ts : Array TypeId} {ty : TypeId} {cs : Array Bool} {as : List AV} {vs : Array Value} {K : AV → Store → Prop} (h : abuiltin (tabOf P) σ b ts.toList as K) (R : StoreRel P g σ w) (hr : RepL g w as vs.toList) :
    UpN (P := P) g σ w K ((builtin b ts ty cs vs).run P w) := by
  unfold abuiltin at h
  split at h
  · rename_i x
    obtain ⟨v, r, e1, hx, hr'⟩ := hr.uncons
    have e2 := hr'.unnil
    subst e2
    have evs : vs = #[v] := by
      have : vs = vs.toList.toArray := by simp
      rw [this, e1]
    subst evs
    split at h
    · rename_i t rest hts
      have ets : ts = (t :: rest).toArray := by rw [← hts]
      subst ets
      exact UpN.of_value (Up.quiet R (len_sound h R hx))
    · exact h.elim
  · rename_i x y
    obtain ⟨v, r, e1, hx, hr'⟩ := hr.uncons
    obtain ⟨u, r', e2, hy, hr''⟩ := hr'.uncons
    have e3 := hr''.unnil
    subst e3; subst e2
    have evs : vs = #[v, u] := by
      have : vs = vs.toList.toArray := by simp
      rw [this, e1]
    subst evs
    have ets : ts = ts.toList.toArray := by simp
    have hel : ∀ t e, P.underlying t = some (.slice e) → t ∈ ts.toList → (∃ s, ts.toList = [t, s] ∧ (nth (tabOf P) t).d ≠ .other) → TOk P e := fun t e hu _ ⟨s, _, hd⟩ => wf_slice hw (td_lt hd) hu
    have key : Up (P := P) g σ w K ((Builtin.append_ ts.toList.toArray ty #[v, u]).run P w) := by
      refine append_sound (fun t e hu ht => ?_) h R hx hy
      unfold aappend at h
      split at h
      · rename_i t1 u1 hts
        split at h
        · rename_i e1' hd
          rw [hts] at ht
          simp only [List.mem_cons, List.not_mem_nil, or_false] at ht
          rcases ht with rfl | rfl
          · exact wf_slice hw (td_lt (by rw [hd]; simp)) hu
          · obtain ⟨_, _, _, _, _, _, _, _, _, _, hsu, _⟩ := h
            refine wf_slice hw (td_lt (fun hd => ?_)) hu
            rw [hd] at hsu; cases hsu
        · exact h.elim
      · exact h.elim
    simp only [Array.toArray_toList] at key
    exact UpN.of_value key
  · rename_i x rest
    obtain ⟨v, r, e1, hx, hr'⟩ := hr.uncons
    split at h
    · rename_i z hz
      obtain ⟨u, hu, hru⟩ := min_sound rest x r v z hz hx hr'
      refine UpN.of_value (Up.quiet R ⟨u, z, ?_, hru, h⟩)
      unfold Builtin.min_
      rw [e1]
      exact hu
    · exact h.elim
  · rename_i x rest
    obtain ⟨v, r, e1, hx, hr'⟩ := hr.uncons
    split at h
    · rename_i z hz
      obtain ⟨u, hu, hru⟩ := max_sound rest x r v z hz hx hr'
      refine UpN.of_value (Up.quiet R ⟨u, z, ?_, hru, h⟩)
      unfold Builtin.max_
      rw [e1]
      exact hu
    · exact h.elim
  · exact h.elim

theorem call_sound (hw : wfP P = true) {g : Ghost} {σ : Store} {w : World} {ρ : Operand → AV} {ρ' : Operand → Value} {c : Call} {ty : TypeId} {K : AV → Store → Prop} (h : acall (tabOf P) P ρ σ c K) (R : StoreRel P g σ w) (hρ : ∀ x, RepA g w (ρ x) (ρ' x)) :
    UpN (P := P) g σ w K ((do let d ← resolve ρ' c ty; invoke d.target d.args : Sem Next).run P w) := by
  have hargs : RepL g w (c.args.toList.map ρ) (c.args.map ρ').toList := by
    rw [Array.toList_map]; exact repL_map hρ _
  have hargsN : RepL g w (c.args.toList.map (fun x => nrm (ρ x))) (c.args.map ρ').toList := by
    rw [Array.toList_map]; exact repL_map (fun x => nrm_ok (hρ x)) _
  unfold acall at h
  split at h
  · rename_i b hc
    have hres : ∃ cs, (resolve ρ' c ty).run P w = .ok { target := .builtin b c.argTypes ty cs, args := c.args.map ρ' } w := by
      refine ⟨(c.args.map fun | .const _ => true | _ => false), ?_⟩
      simp only [resolve, hc]
      rfl
    obtain ⟨cs, hres⟩ := hres
    simp only [Sem.run_bind, hres, Result.andThen, invoke]
    exact builtin_sound hw h R hargs
  · rename_i f hc
    split at h
    · rename_i k first captured hf
      have hfv := hρ f
      rw [hf] at hfv
      generalize hu : ρ' f = u at hfv
      cases hfv with
      | fn _ _ _ vf vc hl1 hl2 hr1 hr2 =>
      have hres : (resolve ρ' c ty).run P w = .ok { target := .fn (.func k) vc, args := vf ++ c.args.map ρ' } w := by
        simp [resolve, hc, hu, Deferred.ofValue]
      simp only [Sem.run_bind, hres, Result.andThen, invoke]
      refine callsAbs_run h R ?_
      have hL : RepL g w (first ++ c.args.toList.map (fun x => nrm (ρ x)) ++ captured) (vf ++ c.args.map ρ' ++ vc).toList := by
        rw [Array.toList_append, Array.toList_append]
        exact RepL.append (RepL.append (repL_fn hl1 hr1) hargsN) (repL_fn hl2 hr2)
      exact hL
    · exact h.elim
  · rename_i recv name hc
    split at h
    · rename_i t v hf
      obtain ⟨k, hm, h⟩ := h
      have hfv := hρ recv
      rw [hf] at hfv
      generalize hu : ρ' recv = u at hfv
      cases hfv with
      | ifc _ _ u' hv =>
      have hres : (resolve ρ' c ty).run P w = .ok { target := .fn (.method name) #[], args := #[.iface t u'] ++ c.args.map ρ' } w := by
        simp [resolve, hc, hu]
      have hmeth : ∀ n, (method (n + 1) t u' name).run P w = .ok (k, u') w := by
        intro n
        unfold methodOf at hm
        split at hm
        · rename_i i hi
          split at hm
          · rename_i m hmm
            have hpath : ∀ (b : m.path.isEmpty = true), m.path.toList = [] := by
              intro hb
              rw [Array.isEmpty_iff] at hb
              rw [hb]
            split at hm
            · rename_i h1 h2 h3
              cases hm
              simp [method, typeInfo, hi, hmm, hpath h1, follow, h2, receiverAt, run_underlying h3, Place.get]
            · cases hm
            · rename_i f' d hne h1 h2 h3
              cases hm
              have hnp : ∀ e, d ≠ .pointer e := fun e he => by subst he; exact hne _ rfl
              simp only [method, typeInfo, Sem.run_bind, run_program, Result.andThen, hi, Sem.run_pure, hmm, hpath h1, follow, h2, receiverAt, run_underlying h3]
              cases d <;> first | rfl | exact absurd rfl (hnp _)
            · cases hm
          · cases hm
        · cases hm
      simp only [Sem.run_bind, hres, Result.andThen, invoke]
      have e0 : (#[Value.iface t u'] ++ c.args.map ρ')[0]? = some (.iface t u') := by rw [Array.getElem?_append_left (by simp)]; rfl
      rw [e0]
      dsimp only
      have e1 : (#[Value.iface t u'] ++ c.args.map ρ').extract 1 (#[Value.iface t u'] ++ c.args.map ρ').size = c.args.map ρ' := by
        apply Array.ext'
        simp
        exact List.take_of_length_le (by simp)
      rw [e1]
      simp only [callMethod, Sem.run_bind, run_program, Result.andThen]
      have hd : P.types.size + Made.depth = (P.types.size + Made.depth - 1) + 1 := by unfold Made.depth; omega
      rw [hd, hmeth]
      simp only [Result.andThen]
      refine callsAbs_run h R ?_
      have hL : RepL g w (v :: c.args.toList.map (fun x => nrm (ρ x))) (#[u'] ++ c.args.map ρ').toList := by
        rw [Array.toList_append]
        exact RepL.cons hv hargsN
      exact hL
    · exact h.elim

theorem step_sound (hw : wfP P = true) {g : Ghost} {σ : Store} {w : World} {s : St} {a : Act} {o : Oper} {K : AV → Store → Prop} (h : astep (tabOf P) P s σ o.op K) (hT : RelT N g w s a) (R : StoreRel P g σ w) : UpN (P := P) g σ w K ((execOp a.eval o).run P w) := by
  unfold astep at h
  split at h
  · rename_i c hc
    have := call_sound hw (ty := o.type) h R (fun x => ev_ok hT x)
    unfold execOp
    rw [hc]
    exact this
  · rename_i op hne
    exact op_sound hw h hne R (fun x => ev_ok hT x)

theorem put_ok {g : Ghost} {w : World} {s : St} {a : Act} {dst : Option Tmp} {r : AV} {v : Value} {K : St → Prop} (hT : RelT N g w s a) (hr : RepA g w r v) (h : aput N dst r s K) : ∃ s', RelT N g w s' (a.put dst v) ∧ K s' := by
  unfold aput at h
  cases dst with
  | none => exact ⟨s, hT, h⟩
  | some d =>
    dsimp only at h
    split at h
    · rename_i hd
      have hlt : d < a.tmps.size := by rw [hT.size]; exact Nat.le_of_ble_eq_true hd
      refine ⟨(d, r) :: s, ⟨by simp [Act.put, hT.size], hT.defers, fun t => ?_⟩, h⟩
      simp only [Act.put, look_cons]
      by_cases hdt : d = t
      · subst hdt
        rw [if_pos rfl]
        simpa [Array.getD, hlt] using hr
      · rw [if_neg hdt]
        have := hT.rep t
        simpa [Array.getD_eq_getD_getElem?, Array.getElem?_setIfInBounds, hdt] using this
    · exact h.elim

theorem aops0_sound (hw : wfP P = true) {l : List Oper} {K : St → Store → Prop} {Q : Exit → Act → World → Prop} :
    ∀ (rest : List Oper) (k : Nat) (s : St) (σ : Store) (g0 g : Ghost) (σ0 : Store) (w0 w : World) (a : Act), (∀ j, rest[j]? = l[k + j]?) → aops0 (tabOf P) P N l rest K s σ → RelT N g w s a → StoreRel P g σ w → B ≤ g.n → ExtB B g0 σ0 w0 g σ w →
      (∀ g' s' σ' a' w', K s' σ' → RelT N g' w' s' a' → ExtB B g0 σ0 w0 g' σ' w' → StoreRel P g' σ' w' → Q .normal a' w') →
      wpOps P l.toArray Q ((List.range rest.length).map (k + ·)) a w
  | [], k, s, σ, g0, g, σ0, w0, w, a, hl, h, hT, R, R0, hE, hQ => hQ g s σ a w h hT hE R
  | o :: rest, k, s, σ, g0, g, σ0, w0, w, a, hl, h, hT, R, R0, hE, hQ => by
    have hok : l.toArray[k]? = some o := by have := hl 0; simp at this; simp [← this]
    have hrest : ∀ j, rest[j]? = l[k + 1 + j]? := fun j => by have := hl (j + 1); simp at this; rw [this]; congr 1; omega
    have hlist : (List.range (o :: rest).length).map (k + ·) = k :: (List.range rest.length).map (k + 1 + ·) := by
      simp only [List.length_cons, List.range_succ_eq_map, List.map_cons, List.map_map, Nat.add_zero]
      congr 1
      apply List.map_congr_left
      intro j _
      simp; omega
    rw [hlist]
    simp only [wpOps, hok]
    -- what follows an operation that is carried out
    have run : ∀ s, RelT N g w s a → astep (tabOf P) P s σ o.op (fun v σ' => aput N o.dst v s fun s' => aops0 (tabOf P) P N l rest K s' σ') → o.wp P a w (wpOps P l.toArray Q ((List.range rest.length).map (k + 1 + ·))) Q := by
      intro s hT hs
      have hup := step_sound hw hs hT R
      unfold Oper.wp
      generalize (execOp a.eval o).run P w = res at hup
      cases res with
      | halt x w' => exact hup.elim
      | ok n w' =>
        cases n with
        | value v =>
          obtain ⟨g', σ', r, h1, h2, h3, h4⟩ := hup
          obtain ⟨s', hT', h5⟩ := put_ok (hT.mono (h1.keeps R)) h3 h4
          exact aops0_sound hw rest (k + 1) s' σ' g0 g' σ0 w0 w' _ hrest h5 hT' h2 (Nat.le_trans R0 h1.n) (hE.trans (h1.toB R0)) hQ
        | skip =>
          obtain ⟨g', σ', h1, h2, h4⟩ := hup
          obtain ⟨s', hT', h5⟩ := put_ok (hT.mono (h1.keeps R)) (.top undef) h4
          exact aops0_sound hw rest (k + 1) s' σ' g0 g' σ0 w0 w' _ hrest h5 hT' h2 (Nat.le_trans R0 h1.n) (hE.trans (h1.toB R0)) hQ
        | enter f args =>
          obtain ⟨rfl, hc⟩ := hup
          refine hc.mono fun e w'' he => ?_
          obtain ⟨v, g', σ', r, rfl, h1, h2, h3, h4⟩ := he
          obtain ⟨s', hT', h5⟩ := put_ok (hT.mono (h1.keeps R)) h3 h4
          exact aops0_sound hw rest (k + 1) s' σ' g0 g' σ0 w0 w'' _ hrest h5 hT' h2 (Nat.le_trans R0 h1.n) (hE.trans (h1.toB R0)) hQ
        | _ => exact hup.elim
    have skip : ∀ s, RelT N g w s a → aput N o.dst (.tup []) s (fun s' => aops0 (tabOf P) P N l rest K s' σ) → wpOps P l.toArray Q ((List.range rest.length).map (k + 1 + ·)) (a.put o.dst undef) w := by
      intro s hT hs
      obtain ⟨s', hT', h5⟩ := put_ok hT (.tup [] #[] rfl (by simp) : RepA g w (.tup []) undef) hs
      exact aops0_sound hw rest (k + 1) s' σ g0 g σ0 w0 w _ hrest h5 hT' R R0 hE hQ
    unfold aops0 at h
    cases hg : o.guard with
    | none =>
      rw [hg] at h
      rw [if_pos (by simp [Region.wanted, hg])]
      exact .inl (run s hT h)
    | some jw =>
      obtain ⟨j, want⟩ := jw
      rw [hg] at h
      dsimp only at h
      -- what the guard's slot tells
      have slot : ∀ (v : AV) (b : Bool), aguard l s j = v → (∀ u, RepA g w v u → u = .bool b) → v ≠ .top → yielded l.toArray a.tmps j = some b ∧ (∀ v' K', RepA g w v' (.bool b) → aknown l s j v' K' → ∃ s', RelT N g w s' a ∧ K' s') := by
        intro v b hv hvb hnt
        unfold aguard at hv
        unfold yielded aknown
        simp only [List.getElem?_toArray]
        cases hj : l[j]? with
        | none => rw [hj] at hv; exact absurd hv.symm hnt
        | some oj =>
          rw [hj] at hv
          dsimp only at hv ⊢
          cases hd : oj.dst with
          | none => rw [hd] at hv; exact absurd hv.symm hnt
          | some d =>
            rw [hd] at hv
            dsimp only at hv ⊢
            have hrep := hT.rep d
            rw [hv] at hrep
            have hval := hvb _ hrep
            have hlt : d < a.tmps.size := by
              rcases Nat.lt_or_ge d a.tmps.size with h' | h'
              · exact h'
              · exfalso
                rw [Array.getD_eq_getD_getElem?, Array.getElem?_eq_none h'] at hval
                cases hval
            have hsome : a.tmps[d]? = some (.bool b) := by
              rw [Array.getD_eq_getD_getElem?, Array.getElem?_eq_getElem hlt] at hval
              rw [Array.getElem?_eq_getElem hlt]
              simpa using hval
            refine ⟨by simp [hd, hsome], fun v' K' hr' hk' => ⟨(d, v') :: s, ⟨hT.size, hT.defers, fun t => ?_⟩, hk'⟩⟩
            rw [look_cons]
            split
            · rename_i e; subst e; rw [hval]; exact hr'
            · exact hT.rep t
      have hwant : ∀ b, yielded l.toArray a.tmps j = some b → Region.wanted o (yielded l.toArray a.tmps) = (b == want) := by
        intro b hy
        simp only [Region.wanted, hg, hy]
        cases b <;> cases want <;> rfl
      split at h
      · rename_i hb
        have hy := (slot .tt true hb (fun u hu => by cases hu; rfl) (by simp)).1
        rw [hwant _ hy, if_pos (by decide)]; exact .inl (run s hT h)
      · rename_i hb
        have hy := (slot .ff false hb (fun u hu => by cases hu; rfl) (by simp)).1
        rw [hwant _ hy, if_pos (by decide)]; exact .inl (run s hT h)
      · rename_i hb
        have hy := (slot .tt true hb (fun u hu => by cases hu; rfl) (by simp)).1
        rw [hwant _ hy, if_neg (by decide)]; exact skip s hT h
      · rename_i hb
        have hy := (slot .ff false hb (fun u hu => by cases hu; rfl) (by simp)).1
        rw [hwant _ hy, if_neg (by decide)]; exact skip s hT h
      · rename_i b hb
        obtain ⟨hy, hkn⟩ := slot _ b hb (fun u hu => repA_bool hu) (by simp)
        rw [hwant _ hy]
        cases b with
        | true =>
          rw [if_pos (by decide)]
          obtain ⟨s', hT', h'⟩ := hkn _ _ .tt (h.1 rfl)
          exact .inl (run s' hT' h')
        | false =>
          rw [if_neg (by decide)]
          obtain ⟨s', hT', h'⟩ := hkn _ _ .ff (h.2 rfl)
          exact skip s' hT' h'
      · rename_i b hb
        obtain ⟨hy, hkn⟩ := slot _ b hb (fun u hu => repA_bool hu) (by simp)
        rw [hwant _ hy]
        cases b with
        | true =>
          rw [if_neg (by decide)]
          obtain ⟨s', hT', h'⟩ := hkn _ _ .tt (h.2 rfl)
          exact skip s' hT' h'
        | false =>
          rw [if_pos (by decide)]
          obtain ⟨s', hT', h'⟩ := hkn _ _ .ff (h.1 rfl)
          exact .inl (run s' hT' h')
      · rename_i hb
        have hy : yielded l.toArray a.tmps j = none := by
          unfold aguard at hb
          unfold yielded
          simp only [List.getElem?_toArray]
          cases hj : l[j]? with
          | none => rw [hj] at hb; cases hb
          | some oj =>
            rw [hj] at hb
            dsimp only at hb ⊢
            cases hd : oj.dst with
            | none => rw [hd] at hb; cases hb
            | some d =>
              rw [hd] at hb
              dsimp only at hb ⊢
              have hrep := hT.rep d
              rw [hb] at hrep
              generalize hv : a.tmps.getD d undef = u at hrep
              rw [Array.getD_eq_getD_getElem?] at hv
              simp only [Option.bind_some, hd]
              cases hrep with
              | tup _ cs hl _ =>
              cases ht : a.tmps[d]? with
              | none => rfl
              | some x => rw [ht] at hv; simp only [Option.getD_some] at hv; subst hv; rfl
        have hw0 : Region.wanted o (yielded l.toArray a.tmps) = false := by simp [Region.wanted, hg, hy]
        rw [hw0, if_neg (by decide)]; exact skip s hT h
      · exact h.elim

theorem told_ok {g : Ghost} {w : World} {s : St} {a : Act} {c : Operand} {v : AV} (hT : RelT N g w s a) (hv : RepA g w v (a.eval c)) : RelT N g w (told c v s) a := by
  cases c with
  | tmp t =>
    refine ⟨hT.size, hT.defers, fun k => ?_⟩
    show RepA g w (look .top ((t, v) :: s) k) _
    rw [look_cons]
    split
    · rename_i e; subst e; exact hv
    · exact hT.rep k
  | _ => exact hT

/-- THE WALK IS RIGHT. -/
theorem awp0_sound (hw : wfP P = true) : ∀ (c : Code) (K : Exit → St → Store → Prop) (s : St) (σ : Store), awp0 (tabOf P) P N B c K s σ → E P N B c K s σ
  | .skip, K, s, σ, h => fun g a w hB hT R => wp_skip ⟨s, σ, g, h, hT, ExtB.refl hB _ _, R⟩
  | .label _, K, s, σ, h => fun g a w hB hT R => wp_label ⟨s, σ, g, h, hT, ExtB.refl hB _ _, R⟩
  | .exit id, K, s, σ, h => fun g a w hB hT R => wp_exit ⟨s, σ, g, h, hT, ExtB.refl hB _ _, R⟩
  | .goto l, K, s, σ, h => fun g a w hB hT R => wp_goto ⟨s, σ, g, h, hT, ExtB.refl hB _ _, R⟩
  | .ret, K, s, σ, h => fun g a w hB hT R => wp_ret ⟨s, σ, g, h, hT, ExtB.refl hB _ _, R⟩
  | .seq x y, K, s, σ, h => fun g a w hB hT R => by
    refine wp_seq (wp_mono (awp0_sound hw x _ s σ h g a w hB hT R) fun e a' w' ⟨s', σ', g', h1, h2, h3, h4⟩ => ?_)
    cases e with
    | normal =>
      refine wp_mono (awp0_sound hw y K s' σ' h1 g' a' w' h3.n h2 h4) fun e a'' w'' ⟨s'', σ'', g'', q1, q2, q3, q4⟩ => ⟨s'', σ'', g'', q1, q2, h3.trans q3, q4⟩
    | _ => exact ⟨s', σ', g', h1, h2, h3, h4⟩
  | .cond c x y, K, s, σ, h => fun g a w hB hT R => by
    simp only [awp0] at h
    split at h
    · rename_i hb
      have hc := ev_ok hT c
      rw [hb] at hc
      have hc' : a.eval c = .bool true := by generalize a.eval c = u at hc; cases hc; rfl
      exact wp_cond_true hc' (awp0_sound hw x K s σ h g a w hB hT R)
    · rename_i hb
      have hc := ev_ok hT c
      rw [hb] at hc
      have hc' : a.eval c = .bool false := by generalize a.eval c = u at hc; cases hc; rfl
      exact wp_cond_false hc' (awp0_sound hw y K s σ h g a w hB hT R)
    · rename_i b hb
      have hc := ev_ok hT c
      rw [hb] at hc
      refine wp_cond (repA_bool hc) ?_
      cases b with
      | true => exact awp0_sound hw x K _ σ (h.1 rfl) g a w hB (told_ok hT (by rw [repA_bool hc]; exact .tt)) R
      | false => exact awp0_sound hw y K _ σ (h.2 rfl) g a w hB (told_ok hT (by rw [repA_bool hc]; exact .ff)) R
    · exact h.elim
  | .block id c, K, s, σ, h => fun g a w hB hT R => by
    refine wp_block (wp_mono (awp0_sound hw c _ s σ h g a w hB hT R) fun e a' w' ⟨s', σ', g', h1, h2, h3, h4⟩ => ?_)
    cases e with
    | exit j =>
      dsimp only at h1
      split at h1
      · rename_i hj
        have := Nat.eq_of_beq_eq_true hj
        subst this
        simp only [Exit.inBlock, if_true]
        exact ⟨s', σ', g', h1, h2, h3, h4⟩
      · rename_i hj
        have hne : j ≠ id := fun e => by subst e; rw [Nat.beq_refl] at hj; cases hj
        simp only [Exit.inBlock, hne, if_false]
        exact ⟨s', σ', g', h1, h2, h3, h4⟩
    | _ => exact ⟨s', σ', g', h1, h2, h3, h4⟩
  | .region id ops draw, K, s, σ, h => fun g a w hB hT R => by
    cases draw with
    | true => exact h g a w hB hT R
    | false =>
      refine wp_region ?_
      have := aops0_sound (P := P) (N := N) hw (l := ops.toList) (K := fun s σ => K .normal s σ) (Q := Post (P := P) N B g σ w K) ops.toList 0 s σ g g σ w w a (fun j => by simp) h hT R hB (ExtB.refl hB _ _)
        (fun g' s' σ' a' w' q1 q2 q3 q4 => ⟨s', σ', g', q1, q2, q3, q4⟩)
      simpa using this
  | .loop c, K, s, σ, h => h
  | .scope c, K, s, σ, h => h
  | .rangeFunc .., K, s, σ, h => h.elim
  | .refuse .., K, s, σ, h => h.elim

end
/-- What is to be done with a guarded operation. -/
inductive Dec where
  | run | skip | ask (b : Bool) | bad
def decide' : AV → Bool → Dec
  | .tt, true => .run
  | .ff, false => .run
  | .tt, false => .skip
  | .ff, true => .skip
  | .d (.bool b), _ => .ask b
  | .tup [], _ => .skip
  | _, _ => .bad

def aopR (T : List TI) (P : Program) (N : Nat) (l : List Oper) (o : Oper) (ih : (St → Store → Prop) → St → Store → Prop) (K : St → Store → Prop) (s : St) (σ : Store) : Prop :=
  match o.guard with
  | none => astep T P s σ o.op fun v σ' => aput N o.dst v s fun s' => ih K s' σ'
  | some (j, want) => match decide' (aguard l s j) want with
    | .run => astep T P s σ o.op fun v σ' => aput N o.dst v s fun s' => ih K s' σ'
    | .skip => aput N o.dst (.tup []) s fun s' => ih K s' σ
    | .ask b => match want with
      | true => (b = true → aknown l s j .tt fun s => astep T P s σ o.op fun v σ' => aput N o.dst v s fun s' => ih K s' σ') ∧ (b = false → aknown l s j .ff fun s => aput N o.dst (.tup []) s fun s' => ih K s' σ)
      | false => (b = false → aknown l s j .ff fun s => astep T P s σ o.op fun v σ' => aput N o.dst v s fun s' => ih K s' σ') ∧ (b = true → aknown l s j .tt fun s => aput N o.dst (.tup []) s fun s' => ih K s' σ)
    | .bad => False
noncomputable def aops (T : List TI) (P : Program) (N : Nat) (l : List Oper) (rest : List Oper) : (St → Store → Prop) → St → Store → Prop :=
  List.rec (motive := fun _ => (St → Store → Prop) → St → Store → Prop) (fun K s σ => K s σ) (fun o _ ih => aopR T P N l o ih) rest

theorem aops_to {T : List TI} {P : Program} {N : Nat} {l : List Oper} : ∀ (rest : List Oper) (K : St → Store → Prop) (s : St) (σ : Store), aops T P N l rest K s σ = aops0 T P N l rest K s σ
  | [], K, s, σ => rfl
  | o :: rest, K, s, σ => by
    have ih : (fun K s σ => aops T P N l rest K s σ) = fun K s σ => aops0 T P N l rest K s σ := by funext K s σ; exact aops_to rest K s σ
    have ih' : aops T P N l rest = aops0 T P N l rest := ih
    show aopR T P N l o (aops T P N l rest) K s σ = _
    rw [ih']
    unfold aopR
    conv => rhs; unfold aops0
    cases o.guard with
    | none => rfl
    | some jw =>
      obtain ⟨j, want⟩ := jw
      dsimp only
      generalize aguard l s j = v
      cases v with
      | d x => cases x <;> cases want <;> rfl
      | tup vs => cases vs <;> cases want <;> rfl
      | _ => cases want <;> rfl

noncomputable def awp (T : List TI) (P : Program) (N B : Nat) (c : Code) : (Exit → St → Store → Prop) → St → Store → Prop :=
  Code.rec (motive := fun _ => (Exit → St → Store → Prop) → St → Store → Prop)
    (fun K s σ => K .normal s σ)
    (fun id ops draw K s σ => match draw with
      | false => aops T P N ops.toList ops.toList (fun s σ => K .normal s σ) s σ
      | true => E P N B (.region id ops true) K s σ)
    (fun _ _ iha ihb K s σ => iha (fun e s σ => match e with | .normal => ihb K s σ | e => K e s σ) s σ)
    (fun c _ _ ihx ihy K s σ => match ev s c with
      | .tt => ihx K s σ
      | .ff => ihy K s σ
      | .d (.bool b) => cbr b (ihx K (told c .tt s) σ) (ihy K (told c .ff s) σ)
      | _ => False)
    (fun id _ ih K s σ => ih (fun e s σ => match e with
      | .exit j => (match Nat.beq j id with | true => K .normal s σ | false => K (.exit j) s σ)
      | e => K e s σ) s σ)
    (fun c _ K s σ => E P N B (.loop c) K s σ)
    (fun _ _ _ _ _ _ _ _ _ => False)
    (fun id K s σ => K (.exit id) s σ)
    (fun c _ K s σ => E P N B (.scope c) K s σ)
    (fun _ K s σ => K .normal s σ)
    (fun l K s σ => K (.goto l) s σ)
    (fun K s σ => K .ret s σ)
    (fun _ _ _ _ => False) c

theorem awp_to {T : List TI} {P : Program} {N B : Nat} : ∀ (c : Code) (K : Exit → St → Store → Prop) (s : St) (σ : Store), awp T P N B c K s σ = awp0 T P N B c K s σ
  | .skip, _, _, _ | .label _, _, _, _ | .exit _, _, _, _ | .goto _, _, _, _ | .ret, _, _, _ | .loop _, _, _, _ | .scope _, _, _, _ | .rangeFunc .., _, _, _ | .refuse _, _, _, _ => rfl
  | .region id ops draw, K, s, σ => by
    cases draw with
    | true => rfl
    | false => exact aops_to _ _ s σ
  | .seq a b, K, s, σ => by
    have hb : awp T P N B b = awp0 T P N B b := by funext K s σ; exact awp_to b K s σ
    show awp T P N B a (fun e s σ => match e with | .normal => awp T P N B b K s σ | e => K e s σ) s σ = _
    rw [hb, awp_to a]
    rfl
  | .cond c x y, K, s, σ => by
    have hx : awp T P N B x = awp0 T P N B x := by funext K s σ; exact awp_to x K s σ
    have hy : awp T P N B y = awp0 T P N B y := by funext K s σ; exact awp_to y K s σ
    show (match ev s c with
      | .tt => awp T P N B x K s σ
      | .ff => awp T P N B y K s σ
      | .d (.bool b) => cbr b (awp T P N B x K (told c .tt s) σ) (awp T P N B y K (told c .ff s) σ)
      | _ => False) = _
    rw [hx, hy]
    rfl
  | .block id c, K, s, σ => by
    show awp T P N B c _ s σ = _
    rw [awp_to c]
    rfl
/-- THE WALK IS RIGHT. -/
theorem awp_sound {P : Program} {N B : Nat} (hw : wfP P = true) (c : Code) (K : Exit → St → Store → Prop) (s : St) (σ : Store) (h : awp (tabOf P) P N B c K s σ) : E P N B c K s σ :=
  awp0_sound hw c K s σ ((awp_to c K s σ) ▸ h)
end Go.Aw
