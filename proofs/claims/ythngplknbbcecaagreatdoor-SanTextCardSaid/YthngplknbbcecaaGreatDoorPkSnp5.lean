/- What is proved here serves the claim: the walk over the code and the plain laws, part 5 of 18. -/
import Derived.Test.YthngplknbbcecaaGreatDoorPkSnp4
import Derived.Laws.Externs
namespace Go.Aw
set_option linter.unusedVariables false
set_option linter.unusedSimpArgs false
def Callable (P : Program) (f : FuncId) : Prop := ∃ fn, P.funcs[f]? = some fn ∧ (fn.name == "runtime.NumGoroutine") = false ∧ fn.body.isNone = false
def Enters (P : Program) (f : FuncId) (args : List AV) (σ : Store) (R : AV → Store → Prop) : Prop :=
 Callable P f ∧ ∀ (g : Ghost) (w : World) (vs : List Value), StoreRel P g σ w → RepL g w args vs →
  Calls P f vs.toArray w fun e w' => ∃ v g' σ' r, e = .returned v ∧ Ext g σ w g' σ' w' ∧ StoreRel P g' σ' w' ∧ RepA g' w' r v ∧ R r σ'
def Outer (P : Program) (f : FuncId) (args : List AV) (σ : Store) (R : AV → Store → Prop) : Prop :=
 ∃ fn e, P.funcs[f]? = some fn ∧ (fn.name == "runtime.NumGoroutine") = false ∧ fn.body.isNone = true ∧ Extern.findNext fn = none ∧ Extern.find fn = some e ∧
  ∀ (g : Ghost) (w : World) (vs : List Value), StoreRel P g σ w → RepL g w args vs → Up (P := P) g σ w R ((e vs.toArray).run P w)
def CallsAbs (P : Program) (f : FuncId) (args : List AV) (σ : Store) (R : AV → Store → Prop) : Prop := Enters P f args σ R ∨ Outer P f args σ R
theorem Enters.mono {P : Program} {f : FuncId} {args : List AV} {σ : Store} {R R' : AV → Store → Prop} (h : Enters P f args σ R) (hr : ∀ r σ', R r σ' → R' r σ') : Enters P f args σ R' :=
 ⟨h.1, fun g w vs hS hL => (h.2 g w vs hS hL).mono fun e w' ⟨v, g', σ', r, he, h1, h2, h3, h4⟩ => ⟨v, g', σ', r, he, h1, h2, h3, hr r σ' h4⟩⟩
theorem Up.mono {P : Program} {g : Ghost} {σ : Store} {w : World} {K K' : AV → Store → Prop} {s : Result Value} (h : Up (P := P) g σ w K s) (hk : ∀ r σ', K r σ' → K' r σ') : Up (P := P) g σ w K' s := by
 cases s with
 | ok v w' => obtain ⟨g', σ', r, h1, h2, h3, h4⟩ := h; exact ⟨g', σ', r, h1, h2, h3, hk _ _ h4⟩
 | halt x w' => exact h.elim
theorem CallsAbs.mono {P : Program} {f : FuncId} {args : List AV} {σ : Store} {R R' : AV → Store → Prop} (h : CallsAbs P f args σ R) (hr : ∀ r σ', R r σ' → R' r σ') : CallsAbs P f args σ R' := by
 rcases h with h | ⟨fn, e, h1, h2, h3, h4, h5, h6⟩
 ·exact .inl (h.mono hr)
 ·exact .inr ⟨fn, e, h1, h2, h3, h4, h5, fun g w vs hS hL => (h6 g w vs hS hL).mono hr⟩
def methodOf (P : Program) (t : TypeId) (name : String) : Option FuncId :=
 match P.info? t with
 | some i => match i.methods.find? (·.name == name) with
  | some m => match m.path.isEmpty, m.func, P.underlying t with
   | true, some (f, true), some (.pointer _) => some f
   | true, some (_, false), some (.pointer _) => none
   | true, some (f, false), some _ => some f
   | _, _, _ => none
  | none => none
 | none => none
def acall (T : List TI) (P : Program) (ρ : Operand → AV) (σ : Store) (c : Call) (K : AV → Store → Prop) : Prop :=
 match c.callee with
 | .builtin b => abuiltin T σ b c.argTypes.toList (c.args.toList.map ρ) K
 | .value f => match ρ f with
  | .fn (.func k) first captured => CallsAbs P k (first ++ c.args.toList.map (fun x => nrm (ρ x)) ++ captured) σ K
  | _ => False
 | .invoke recv name => match ρ recv with
  | .ifc t v => ∃ k, methodOf P t name = some k ∧ CallsAbs P k (v :: c.args.toList.map (fun x => nrm (ρ x))) σ K
  | _ => False
def astep (T : List TI) (P : Program) (s : St) (σ : Store) (op : Op) (K : AV → Store → Prop) : Prop :=
 match op with
 | .call c => acall T P (ev s) σ c K
 | op => aop T (ev s) σ op K
def aput (N : Nat) (dst : Option Tmp) (v : AV) (s : St) (K : St → Prop) : Prop :=
 match dst with
 | none => K s
 | some d => match Nat.ble (d + 1) N with
  | true => K ((d, v) :: s)
  | false => False
def aguard (l : List Oper) (s : St) (j : Nat) : AV :=
 match l[j]? with
 | some o => match o.dst with | some d => look .top s d | none => .top
 | none => .top
def aknown (l : List Oper) (s : St) (j : Nat) (v : AV) (K : St → Prop) : Prop :=
 match l[j]? with
 | some o => match o.dst with | some d => K ((d, v) :: s) | none => K s
 | none => K s
def aops0 (T : List TI) (P : Program) (N : Nat) (l : List Oper) : List Oper → (St → Store → Prop) → St → Store → Prop
 | [], K, s, σ => K s σ
 | o :: rest, K, s, σ => match o.guard with
  | none => astep T P s σ o.op fun v σ' => aput N o.dst v s fun s' => aops0 T P N l rest K s' σ'
  | some (j, want) => match aguard l s j, want with
   | .tt, true => astep T P s σ o.op fun v σ' => aput N o.dst v s fun s' => aops0 T P N l rest K s' σ'
   | .ff, false => astep T P s σ o.op fun v σ' => aput N o.dst v s fun s' => aops0 T P N l rest K s' σ'
   | .tt, false => aput N o.dst (.tup []) s fun s' => aops0 T P N l rest K s' σ
   | .ff, true => aput N o.dst (.tup []) s fun s' => aops0 T P N l rest K s' σ
   | .d (.bool b), true => (b = true → aknown l s j .tt fun s => astep T P s σ o.op fun v σ' => aput N o.dst v s fun s' => aops0 T P N l rest K s' σ') ∧ (b = false → aknown l s j .ff fun s => aput N o.dst (.tup []) s fun s' => aops0 T P N l rest K s' σ)
   | .d (.bool b), false => (b = false → aknown l s j .ff fun s => astep T P s σ o.op fun v σ' => aput N o.dst v s fun s' => aops0 T P N l rest K s' σ') ∧ (b = true → aknown l s j .tt fun s => aput N o.dst (.tup []) s fun s' => aops0 T P N l rest K s' σ)
   | .tup [], _ => aput N o.dst (.tup []) s fun s' => aops0 T P N l rest K s' σ
   | _, _ => False
structure RelT (N : Nat) (g : Ghost) (w : World) (s : St) (a : Act) : Prop where
 size : a.tmps.size = N
 defers : a.defers = []
 rep : ∀ t, RepA g w (look .top s t) (a.tmps.getD t undef)
theorem RelT.mono {N : Nat} {g g' : Ghost} {w w' : World} {s : St} {a : Act} (k : Keeps g w g' w') (h : RelT N g w s a) : RelT N g' w' s a := ⟨h.size, h.defers, fun t => (h.rep t).mono k⟩
structure ExtB (B : Nat) (g : Ghost) (σ : Store) (w : World) (g' : Ghost) (σ' : Store) (w' : World) : Prop where
 n : B ≤ g'.n
 place : ∀ i, i < B → g'.blk i = g.blk i ∧ g'.sz i = g.sz i ∧ g'.cap i = g.cap i
 dead : ∀ i, i < B → σ.get i = .dead → σ'.get i = .dead
 size : w.heap.size ≤ w'.heap.size
 keep : ∀ b, b < w.heap.size → (∀ i, g.kind b = .own i → i < B ∧ σ.get i = .dead) → g'.kind b = g.kind b ∧ w'.heap[b]? = w.heap[b]?
 os : w'.os = w.os
 tape : w'.tape = w.tape
 output : w'.output = w.output
theorem ExtB.refl {B : Nat} {g : Ghost} (h : B ≤ g.n) (σ : Store) (w : World) : ExtB B g σ w g σ w :=
 ⟨h, fun _ _ => ⟨rfl, rfl, rfl⟩, fun _ _ h => h, Nat.le_refl _, fun _ _ _ => ⟨rfl, rfl⟩, rfl, rfl, rfl⟩
theorem ExtB.trans {B : Nat} {g0 g1 g2 : Ghost} {σ0 σ1 σ2 : Store} {w0 w1 w2 : World} (h : ExtB B g0 σ0 w0 g1 σ1 w1) (k : ExtB B g1 σ1 w1 g2 σ2 w2) : ExtB B g0 σ0 w0 g2 σ2 w2 := by
 refine ⟨k.n, fun i hi => ?_, fun i hi hd => k.dead i hi (h.dead i hi hd), Nat.le_trans h.size k.size, fun b hb ho => ?_, k.os.trans h.os, k.tape.trans h.tape, k.output.trans h.output⟩
 ·obtain ⟨a, b, c⟩ := h.place i hi
  obtain ⟨a', b', c'⟩ := k.place i hi
  exact ⟨a'.trans a, b'.trans b, c'.trans c⟩
 ·obtain ⟨hk, hw⟩ := h.keep b hb ho
  obtain ⟨hk', hw'⟩ := k.keep b (Nat.lt_of_lt_of_le hb h.size) (fun i hi => by
   obtain ⟨q1, q2⟩ := ho i (hk ▸ hi)
   exact ⟨q1, h.dead i q1 q2⟩)
  exact ⟨hk'.trans hk, hw'.trans hw⟩
theorem Ext.toB {B : Nat} {g g' : Ghost} {σ σ' : Store} {w w' : World} (h : Ext g σ w g' σ' w') (hB : B ≤ g.n) : ExtB B g σ w g' σ' w' :=
 ⟨Nat.le_trans hB h.n, fun i hi => h.place i (Nat.lt_of_lt_of_le hi hB), fun i hi => h.dead i (Nat.lt_of_lt_of_le hi hB), h.size, fun b hb ho => h.keep b hb (fun i hi => (ho i hi).2), h.os, h.tape, h.output⟩
theorem ExtB.toExt {P : Program} {g g' : Ghost} {σ σ' : Store} {w w' : World} (R : StoreRel P g σ w) (h : ExtB g.n g σ w g' σ' w') : Ext g σ w g' σ' w' :=
 ⟨h.n, h.place, h.dead, h.size, fun b hb ho => h.keep b hb (fun i hi => ⟨R.owner b i hi, ho i hi⟩), h.os, h.tape, h.output⟩
def Post {P : Program} (N B : Nat) (g : Ghost) (σ : Store) (w : World) (K : Exit → St → Store → Prop) : Exit → Act → World → Prop :=
 fun e a' w' => ∃ s' σ' g', K e s' σ' ∧ RelT N g' w' s' a' ∧ ExtB B g σ w g' σ' w' ∧ StoreRel P g' σ' w'
def E (P : Program) (N B : Nat) (c : Code) (K : Exit → St → Store → Prop) (s : St) (σ : Store) : Prop :=
 ∀ (g : Ghost) (a : Act) (w : World), B ≤ g.n → RelT N g w s a → StoreRel P g σ w → c.wp P (Post (P := P) N B g σ w K) a w
def told (c : Operand) (v : AV) (s : St) : St := match c with
 | .tmp t => (t, v) :: s
 | _ => s
def awp0 (T : List TI) (P : Program) (N B : Nat) : Code → (Exit → St → Store → Prop) → St → Store → Prop
 | .skip, K, s, σ => K .normal s σ
 | .label _, K, s, σ => K .normal s σ
 | .exit id, K, s, σ => K (.exit id) s σ
 | .goto l, K, s, σ => K (.goto l) s σ
 | .ret, K, s, σ => K .ret s σ
 | .seq a b, K, s, σ => awp0 T P N B a (fun e s σ => match e with | .normal => awp0 T P N B b K s σ | e => K e s σ) s σ
 | .cond c x y, K, s, σ => match ev s c with
  | .tt => awp0 T P N B x K s σ
  | .ff => awp0 T P N B y K s σ
  | .d (.bool b) => cbr b (awp0 T P N B x K (told c .tt s) σ) (awp0 T P N B y K (told c .ff s) σ)
  | _ => False
 | .block id c, K, s, σ => awp0 T P N B c (fun e s σ => match e with
  | .exit j => (match Nat.beq j id with | true => K .normal s σ | false => K (.exit j) s σ)
  | e => K e s σ) s σ
 | .region id ops draw, K, s, σ => match draw with
  | false => aops0 T P N ops.toList ops.toList (fun s σ => K .normal s σ) s σ
  | true => E P N B (.region id ops true) K s σ
 | .loop c, K, s, σ => E P N B (.loop c) K s σ
 | .scope c, K, s, σ => E P N B (.scope c) K s σ
 | _, _, _, _ => False
section
variable {P : Program} {N B : Nat}
theorem E.mono {c : Code} {K K' : Exit → St → Store → Prop} {s : St} {σ : Store} (h : E P N B c K s σ) (hk : ∀ e s σ, K e s σ → K' e s σ) : E P N B c K' s σ :=
 fun g a w hB hT hS => wp_mono (h g a w hB hT hS) fun e a' w' ⟨s', σ', g', h1, h2, h3, h4⟩ => ⟨s', σ', g', hk _ _ _ h1, h2, h3, h4⟩
theorem ev_ok {g : Ghost} {w : World} {s : St} {a : Act} (h : RelT N g w s a) (x : Operand) : RepA g w (ev s x) (a.eval x) := by
 cases x with
 | tmp t => exact h.rep t
 | const v => exact absV_ok g w v
 | global n => exact .top _
 | func f => exact .fn (.func f) [] [] #[] #[] rfl rfl (by simp) (by simp)
def wfT (P : Program) (t : TypeId) : Bool :=
 let ok (e : TypeId) : Bool := decide (e < P.types.size) && (P.underlying e).isSome
 match P.underlying t with
 | some (.struct fs) => fs.toList.all fun f => ok f.type
 | some (.slice e) => ok e
 | some (.array _ e) => ok e
 | some (.map k e) => ok k && ok e
 | some (.pointer e) => ok e
 | some _ => true
 | none => false
def wfP (P : Program) : Bool := (List.range P.types.size).all (wfT P)
theorem tok_of_lt {e : TypeId} (h : e < P.types.size) (hu : (P.underlying e).isSome = true) : TOk P e :=
  ⟨Option.isSome_iff_exists.1 hu, by rcases nth_tab (P := P) e with ⟨h1, _⟩ | h1
                                     · exact h1
                                     · exact nth_some _ _ _ (by simp [tabOf, h])⟩
theorem td_lt {t : TypeId} (h : (nth (tabOf P) t).d ≠ .other) : t < P.types.size := by
 rcases nth_tab (P := P) t with ⟨_, h1⟩ | h1
 ·exact h1
 ·rw [h1] at h; exact absurd rfl h
theorem tok_self (hw : wfP P = true) {t : TypeId} (h : t < P.types.size) : TOk P t := by
 have := List.all_eq_true.1 hw t (by simpa using h)
 refine tok_of_lt h ?_
 cases hu : P.underlying t with
 | none => simp [wfT, hu] at this
 | some d => rfl
theorem wf_slice (hw : wfP P = true) {t e : TypeId} (h : t < P.types.size) (hu : P.underlying t = some (.slice e)) : TOk P e := by
 have := List.all_eq_true.1 hw t (by simpa using h)
 simp [wfT, hu] at this
 exact tok_of_lt this.1 this.2
theorem wf_arr (hw : wfP P = true) {t n e : TypeId} (h : t < P.types.size) (hu : P.underlying t = some (.array n e)) : TOk P e := by
 have := List.all_eq_true.1 hw t (by simpa using h)
 simp [wfT, hu] at this
 exact tok_of_lt this.1 this.2
theorem wf_map (hw : wfP P = true) {t k e : TypeId} (h : t < P.types.size) (hu : P.underlying t = some (.map k e)) : TOk P e := by
 have := List.all_eq_true.1 hw t (by simpa using h)
 simp [wfT, hu] at this
 exact tok_of_lt this.2.1 this.2.2
theorem wf_struct (hw : wfP P = true) {t : TypeId} {fs : Array Field} (h : t < P.types.size) (hu : P.underlying t = some (.struct fs)) : ∀ F ∈ fs.toList, TOk P F.type := by
 have := List.all_eq_true.1 hw t (by simpa using h)
 simp only [wfT, hu, List.all_eq_true, Bool.and_eq_true, decide_eq_true_eq] at this
 exact fun F hF => tok_of_lt (this F hF).1 (this F hF).2
def UpN (g : Ghost) (σ : Store) (w : World) (K : AV → Store → Prop) : Result Next → Prop
 | .ok (.value v) w' => ∃ g' σ' r, Ext g σ w g' σ' w' ∧ StoreRel P g' σ' w' ∧ RepA g' w' r v ∧ K r σ'
 | .ok .skip w' => ∃ g' σ', Ext g σ w g' σ' w' ∧ StoreRel P g' σ' w' ∧ K .top σ'
 | .ok (.enter f args) w' => w' = w ∧ Calls P f args w fun e w' => ∃ v g' σ' r, e = .returned v ∧ Ext g σ w g' σ' w' ∧ StoreRel P g' σ' w' ∧ RepA g' w' r v ∧ K r σ'
 | _ => False
theorem UpN.of_value {g : Ghost} {σ : Store} {w : World} {K : AV → Store → Prop} {s : Sem Value} (h : Up (P := P) g σ w K (s.run P w)) : UpN (P := P) g σ w K ((do pure (.value (← s)) : Sem Next).run P w) := by
 simp only [Sem.run_bind]
 cases hr : s.run P w with
 | ok v w' => rw [hr] at h; exact h
 | halt x w' => rw [hr] at h; exact h.elim
theorem UpN.of_unit {g : Ghost} {σ : Store} {w : World} {K : AV → Store → Prop} {s : Sem Unit} (h : UpU (P := P) g σ w (fun σ' => K .top σ') (s.run P w)) : UpN (P := P) g σ w K ((do s; pure .skip : Sem Next).run P w) := by
 simp only [Sem.run_bind]
 cases hr : s.run P w with
 | ok v w' => rw [hr] at h; exact h
 | halt x w' => rw [hr] at h; exact h.elim
theorem UpN.quiet {g : Ghost} {σ : Store} {w : World} {K : AV → Store → Prop} (R : StoreRel P g σ w) {s : Result Next} {v : Value} {r : AV} (h : s = .ok (.value v) w) (hr : RepA g w r v) (hK : K r σ) : UpN (P := P) g σ w K s := by
 subst h; exact ⟨g, σ, r, Ext.refl _ _ _, R, hr, hK⟩
theorem repL_map {g : Ghost} {w : World} {ρ : Operand → AV} {ρ' : Operand → Value} (h : ∀ x, RepA g w (ρ x) (ρ' x)) (l : List Operand) : RepL g w (l.map ρ) (l.map ρ') := by
 induction l with
 | nil => exact .nil
 | cons x l ih => exact .cons (h x) ih
theorem repO_map {g : Ghost} {w : World} {ρ : Operand → AV} {ρ' : Operand → Value} (h : ∀ x, RepA g w (ρ x) (ρ' x)) (x : Option Operand) : RepO g w (x.map ρ) (x.map ρ') := by
 cases x with
 | none => trivial
 | some x => exact h x
theorem repL_fn {g : Ghost} {w : World} {as : List AV} {vs : Array Value} (h : as.length = vs.size) (hr : ∀ (i : Nat) a v, as[i]? = some a → vs[i]? = some v → RepA g w a v) : RepL g w as vs.toList :=
 ⟨by simpa using h, fun i a v ha hv => hr i a v ha (by simpa using hv)⟩
theorem op_sound (hw : wfP P = true) {g : Ghost} {σ : Store} {w : World} {ρ : Operand → AV} {ρ' : Operand → Value} {o : Oper} {K : AV → Store → Prop} (h : aop (tabOf P) ρ σ o.op K) (hnc : ∀ c, o.op ≠ .call c) (R : StoreRel P g σ w) (hρ : ∀ x, RepA g w (ρ x) (ρ' x)) :
  UpN (P := P) g σ w K ((execOp ρ' o).run P w) := by
 unfold execOp
 cases ho : o.op <;> rw [ho] at h <;> simp only [aop, force_eq, forceL_eq, addK_eq] at h
 case move x => exact UpN.quiet R rfl (hρ x) h
 case assign x => exact UpN.quiet R rfl (hρ x) h
 case pick c x y =>
  split at h
  ·rename_i hb
   have hc := hρ c
   rw [hb] at hc
   have hc' : ρ' c = .bool true := by generalize ρ' c = u at hc; cases hc; rfl
   exact UpN.quiet R (by simp [hc', asBool]) (hρ x) h
  ·rename_i hb
   have hc := hρ c
   rw [hb] at hc
   have hc' : ρ' c = .bool false := by generalize ρ' c = u at hc; cases hc; rfl
   exact UpN.quiet R (by simp [hc', asBool]) (hρ y) h
  ·rename_i b hb
   have hc := hρ c
   rw [hb] at hc
   have hc' := repA_bool hc
   cases b with
   | true => exact UpN.quiet R (by simp [hc', asBool]) (hρ x) (h.1 rfl)
   | false => exact UpN.quiet R (by simp [hc', asBool]) (hρ y) (h.2 rfl)
  ·exact h.elim
 case alloc e =>
  split at h
  ·rename_i hb
   exact UpN.of_value (allocB_sound hb h R)
  split at h
  ·rename_i z hz
   have he : e < P.types.size := by
    rcases nth_tab (P := P) e with ⟨_, h1⟩ | h1
    ·exact h1
    ·rw [h1] at hz; cases hz
   exact UpN.of_value (alloc_sound (tok_self hw he) hz h R)
  ·exact h.elim
 case box e x =>
  split at h
  ·rename_i l hl
   exact UpN.of_value (box_sound hl h R (hρ x))
  ·exact h.elim
 case build t parts =>
  have ht : t < P.types.size := by
   refine td_lt fun hd => ?_
   unfold abuild at h; rw [hd] at h; exact h
  have := build_sound (ρ' := ρ') (parts := parts) (tok_self hw ht) (fun Fs hu => wf_struct hw ht hu) (fun n e hu => wf_arr hw ht hu) h hρ
  exact UpN.of_value (Up.quiet R this)
 case buildSlice t len parts =>
  have ht : t < P.types.size := by
   refine td_lt fun hd => ?_
   unfold abuildSlice at h; rw [hd] at h; exact h
  exact UpN.of_value (buildSlice_sound (fun e hu => wf_slice hw ht hu) h R hρ)
 case makeSlice t l c =>
  have ht : t < P.types.size := by
   refine td_lt fun hd => ?_
   unfold amakeSlice at h; rw [hd] at h; exact h
  exact UpN.of_value (makeSlice_sound (fun e hu => wf_slice hw ht hu) h R (hρ l) (hρ c))
 case load t a => exact UpN.of_value (Up.quiet R (load_sound h R (hρ a)))
 case store t a x =>
  have ht : t < P.types.size := td_lt (fun hd => by unfold astore known at h; rw [hd] at h; exact h)
  exact UpN.of_unit (store_sound (tok_self hw ht) h R (hρ a) (hρ x))
 case nilCheck x =>
  have hx := hρ x
  dsimp only
  generalize ρ' x = u at hx ⊢
  split at h
  ·rename_i i r c hx'; rw [hx'] at hx; cases hx with
   | ref _ _ _ hi => exact ⟨g, σ, _, Ext.refl _ _ _, R, .ref _ _ _ hi, h⟩
  ·rename_i row c hx'; rw [hx'] at hx; cases hx with
   | ip _ _ b o f q1 q2 q3 => exact ⟨g, σ, _, Ext.refl _ _ _, R, .ip _ _ b o f q1 q2 q3, h⟩
  ·rename_i f a b hx'; rw [hx'] at hx; cases hx with
   | fn _ _ _ vf vc q1 q2 q3 q4 => exact ⟨g, σ, _, Ext.refl _ _ _, R, .fn _ _ _ vf vc q1 q2 q3 q4, h⟩
  ·rename_i t v hx'; rw [hx'] at hx; cases hx with
   | ifc _ _ u q => exact ⟨g, σ, _, Ext.refl _ _ _, R, .ifc _ _ u q, h⟩
  ·exact h.elim
 case binOp op t x y yt => exact UpN.of_value (Up.quiet R (bin_sound h (nrm_ok (hρ x)) (nrm_ok (hρ y))))
 case unOp op t x => exact UpN.of_value (Up.quiet R (un_sound h (hρ x)))
 case convert src dst x =>
  exact UpN.of_value (conv_sound h R (hρ x) (fun e hu => by
   have hd : dst < P.types.size := td_lt (fun hd => by unfold aconv at h; rw [hd] at h; split at h <;> first | (rename_i hh; cases hh) | exact h | simp_all)
   exact wf_slice hw hd hu))
 case makeInterface t x =>
  have ht : (nth (tabOf P) t).d ≠ .iface ∧ (nth (tabOf P) t).d ≠ .other ∧ K (.ifc t (ρ x)) σ := by
   split at h
   ·exact h.elim
   ·exact h.elim
   ·rename_i h1 h2; exact ⟨h1, h2, h⟩
  obtain ⟨h1, h2, hK⟩ := ht
  refine UpN.of_value (Up.quiet R ⟨.iface t (ρ' x), _, ?_, .ifc t _ _ (hρ x), hK⟩)
  obtain ⟨d, hu⟩ := und_some h2
  simp only [Instr.makeInterface, Sem.run_bind, run_underlying hu, Result.andThen]
  have : ∀ ms, d ≠ .interface ms := fun ms hd => by
   subst hd
   rw [nth_of_d h2] at h1
   exact h1 (by show tdOf P t = _; simp [tdOf, hu])
  cases d <;> first | rfl | exact absurd rfl (this _)
 case makeFunc fn first captured =>
  refine UpN.of_value (Up.quiet R ⟨.func fn (first.map ρ') (captured.map ρ'), _, rfl, ?_, h⟩)
  have h1 := repL_map hρ first.toList
  have h2 := repL_map hρ captured.toList
  exact .fn fn _ _ _ _ (by simp) (by simp) (fun i a v ha hv => h1.2 i a v ha (by simpa using hv)) (fun i a v ha hv => h2.2 i a v ha (by simpa using hv))
 case makeMap t r =>
  cases r with
  | none => exact UpN.of_value (makeMap_sound h R)
  | some r => exact h.elim
 case slice t x lo hi mx =>
  split at h
  ·rename_i n e hd
   exact UpN.of_value (sliceArr_sound (und_arr hd) h R (hρ x) (repO_map hρ lo) (repO_map hρ hi) (repO_map hρ mx))
  ·exact UpN.of_value (Up.quiet R (slice_sound h R (dtd_ok (hρ x)) (repO_map hρ lo) (repO_map hρ hi) (repO_map hρ mx)))
 case fieldAddr s x f => exact UpN.of_value (Up.quiet R (fieldAddr_sound h (hρ x)))
 case field t x f =>
  refine UpN.of_value (Up.quiet R (field_sound (fun Fs F hu hF => ?_) h (hρ x)))
  have ht : t < P.types.size := td_lt (fun hd => by unfold afield at h; rw [hd] at h; exact h)
  exact (wf_struct hw ht hu F (List.mem_of_getElem? (by simpa using hF))).und
 case indexAddr t x i =>
  have ht : t < P.types.size := td_lt (fun hd => by unfold aindexAddr at h; rw [hd] at h; exact h)
  exact UpN.of_value (Up.quiet R (indexAddr_sound (fun n e hu => wf_arr hw ht hu) (fun e hu => wf_slice hw ht hu) h R (dtd_ok (hρ x)) (hρ i)))
 case index t x i =>
  have ht : t < P.types.size := td_lt (fun hd => by unfold aindex at h; rw [hd] at h; exact h)
  exact UpN.of_value (Up.quiet R (index_sound (fun n e hu => wf_arr hw ht hu) h (hρ x) (hρ i)))
 case lookup t m k ok =>
  have ht : t < P.types.size := td_lt (fun hd => by unfold alookup at h; rw [hd] at h; exact h)
  exact UpN.of_value (Up.quiet R (lookup_sound (fun k e hu => wf_map hw ht hu) h R (hρ m) (hρ k)))
 case mapUpdate t m k v => exact UpN.of_unit (mapUpdate_sound h R (hρ m) (hρ k) (nrm_ok (hρ v)))
 case insert t m k v => exact UpN.of_unit (mapUpdate_sound h R (hρ m) (hρ k) (nrm_ok (hρ v)))
 case range t x => exact UpN.of_value (range_sound h R (hρ x))
 case next it isS =>
  cases isS with
  | true => exact UpN.of_value (next_sound h R (hρ it))
  | false => exact h.elim
 case extract t ix =>
  have ht := hρ t
  split at h
  ·rename_i vs hvs
   rw [hvs] at ht
   split at h
   ·rename_i v hv
    generalize hu : ρ' t = u at ht
    cases ht with
    | tup _ cs hl hcs =>
    have hlt : ix < cs.size := by rw [← hl]; exact lt_of_some hv
    refine UpN.of_value (Up.quiet R ⟨cs[ix], v, ?_, hcs ix v _ hv (by simp [hlt]), h⟩)
    rw [hu]
    simp [Instr.extract, hlt]
   ·exact h.elim
  ·exact h.elim
 all_goals exact h.elim
theorem callFunc_run {f : FuncId} (h : Callable P f) (args : Array Value) (w : World) : (callFunc f args).run P w = .ok (.enter f args) w := by
 obtain ⟨fn, hf, hn, hb⟩ := h
 simp only [callFunc, Sem.run_bind, run_program, Result.andThen, hf]
 rw [if_neg (by rw [hn]; simp), if_neg (by rw [hb]; simp)]
 rfl
theorem callsAbs_run {f : FuncId} {args : List AV} {σ : Store} {K : AV → Store → Prop} (h : CallsAbs P f args σ K) {g : Ghost} {w : World} {vs : Array Value} (R : StoreRel P g σ w) (hL : RepL g w args vs.toList) :
  UpN (P := P) g σ w K ((callFunc f vs).run P w) := by
 rcases h with h | ⟨fn, e, h1, h2, h3, h4, h5, h6⟩
 ·rw [callFunc_run h.1]
  refine ⟨rfl, ?_⟩
  have := h.2 g w _ R hL
  rw [Array.toArray_toList] at this
  exact this
 ·rw [run_callFunc_extern h1 h2 h3 h4 h5]
  have := h6 g w _ R hL
  rw [Array.toArray_toList] at this
  cases hr : (e vs).run P w with
  | ok v w' => rw [hr] at this; exact this
  | halt x w' => rw [hr] at this; exact this.elim
theorem builtin_sound (hw : wfP P = true) {g : Ghost} {σ : Store} {w : World} {b : Builtin} {ts : Array TypeId} {ty : TypeId} {cs : Array Bool} {as : List AV} {vs : Array Value} {K : AV → Store → Prop} (h : abuiltin (tabOf P) σ b ts.toList as K) (R : StoreRel P g σ w) (hr : RepL g w as vs.toList) :
  UpN (P := P) g σ w K ((builtin b ts ty cs vs).run P w) := by
 unfold abuiltin at h
 split at h
 ·rename_i x
  obtain ⟨v, r, e1, hx, hr'⟩ := hr.uncons
  have e2 := hr'.unnil
  subst e2
  have evs : vs = #[v] := by
   have : vs = vs.toList.toArray := by simp
   rw [this, e1]
  subst evs
  split at h
  ·rename_i t rest hts
   have ets : ts = (t :: rest).toArray := by rw [← hts]
   subst ets
   exact UpN.of_value (Up.quiet R (len_sound h R hx))
  ·exact h.elim
 ·rename_i x y
  obtain ⟨v, r, e1, hx, hr'⟩ := hr.uncons
  obtain ⟨u, r', e2, hy, hr''⟩ := hr'.uncons
  have e3 := hr''.unnil
  subst e3; subst e2
  have evs : vs = #[v, u] := by
   have : vs = vs.toList.toArray := by simp
   rw [this, e1]
  subst evs
  have ets : ts = ts.toList.toArray := by simp
  have hel : ∀ t e, P.underlying t = some (.slice e) → t ∈ ts.toList → (∃ s, ts.toList = [t, s] ∧ (nth (tabOf P) t).d ≠ .other) → TOk P e := fun t e hu _ ⟨s, _, hd⟩ => wf_slice hw (td_lt hd) hu
  have key : Up (P := P) g σ w K ((Builtin.append_ ts.toList.toArray ty #[v, u]).run P w) := by
   refine append_sound (fun t e hu ht => ?_) h R hx hy
   unfold aappend at h
   split at h
   ·rename_i t1 u1 hts
    split at h
    ·rename_i e1' hd
     rw [hts] at ht
     simp only [List.mem_cons, List.not_mem_nil, or_false] at ht
     rcases ht with rfl | rfl
     ·exact wf_slice hw (td_lt (by rw [hd]; simp)) hu
     ·obtain ⟨_, _, _, _, _, _, _, _, _, _, hsu, _⟩ := h
      refine wf_slice hw (td_lt (fun hd => ?_)) hu
      rw [hd] at hsu; cases hsu
    ·exact h.elim
   ·exact h.elim
  simp only [Array.toArray_toList] at key
  exact UpN.of_value key
 ·rename_i x rest
  obtain ⟨v, r, e1, hx, hr'⟩ := hr.uncons
  split at h
  ·rename_i z hz
   obtain ⟨u, hu, hru⟩ := min_sound rest x r v z hz hx hr'
   refine UpN.of_value (Up.quiet R ⟨u, z, ?_, hru, h⟩)
   unfold Builtin.min_
   rw [e1]
   exact hu
  ·exact h.elim
 ·rename_i x rest
  obtain ⟨v, r, e1, hx, hr'⟩ := hr.uncons
  split at h
  ·rename_i z hz
   obtain ⟨u, hu, hru⟩ := max_sound rest x r v z hz hx hr'
   refine UpN.of_value (Up.quiet R ⟨u, z, ?_, hru, h⟩)
   unfold Builtin.max_
   rw [e1]
   exact hu
  ·exact h.elim
 ·exact h.elim
theorem call_sound (hw : wfP P = true) {g : Ghost} {σ : Store} {w : World} {ρ : Operand → AV} {ρ' : Operand → Value} {c : Call} {ty : TypeId} {K : AV → Store → Prop} (h : acall (tabOf P) P ρ σ c K) (R : StoreRel P g σ w) (hρ : ∀ x, RepA g w (ρ x) (ρ' x)) :
  UpN (P := P) g σ w K ((do let d ← resolve ρ' c ty; invoke d.target d.args : Sem Next).run P w) := by
 have hargs : RepL g w (c.args.toList.map ρ) (c.args.map ρ').toList := by
  rw [Array.toList_map]; exact repL_map hρ _
 have hargsN : RepL g w (c.args.toList.map (fun x => nrm (ρ x))) (c.args.map ρ').toList := by
  rw [Array.toList_map]; exact repL_map (fun x => nrm_ok (hρ x)) _
 unfold acall at h
 split at h
 ·rename_i b hc
  have hres : ∃ cs, (resolve ρ' c ty).run P w = .ok { target := .builtin b c.argTypes ty cs, args := c.args.map ρ' } w := by
   refine ⟨(c.args.map fun | .const _ => true | _ => false), ?_⟩
   simp only [resolve, hc]
   rfl
  obtain ⟨cs, hres⟩ := hres
  simp only [Sem.run_bind, hres, Result.andThen, invoke]
  exact builtin_sound hw h R hargs
 ·rename_i f hc
  split at h
  ·rename_i k first captured hf
   have hfv := hρ f
   rw [hf] at hfv
   generalize hu : ρ' f = u at hfv
   cases hfv with
   | fn _ _ _ vf vc hl1 hl2 hr1 hr2 =>
   have hres : (resolve ρ' c ty).run P w = .ok { target := .fn (.func k) vc, args := vf ++ c.args.map ρ' } w := by
    simp [resolve, hc, hu, Deferred.ofValue]
   simp only [Sem.run_bind, hres, Result.andThen, invoke]
   refine callsAbs_run h R ?_
   have hL : RepL g w (first ++ c.args.toList.map (fun x => nrm (ρ x)) ++ captured) (vf ++ c.args.map ρ' ++ vc).toList := by
    rw [Array.toList_append, Array.toList_append]
    exact RepL.append (RepL.append (repL_fn hl1 hr1) hargsN) (repL_fn hl2 hr2)
   exact hL
  ·exact h.elim
 ·rename_i recv name hc
  split at h
  ·rename_i t v hf
   obtain ⟨k, hm, h⟩ := h
   have hfv := hρ recv
   rw [hf] at hfv
   generalize hu : ρ' recv = u at hfv
   cases hfv with
   | ifc _ _ u' hv =>
   have hres : (resolve ρ' c ty).run P w = .ok { target := .fn (.method name) #[], args := #[.iface t u'] ++ c.args.map ρ' } w := by
    simp [resolve, hc, hu]
   have hmeth : ∀ n, (method (n + 1) t u' name).run P w = .ok (k, u') w := by
    intro n
    unfold methodOf at hm
    split at hm
    ·rename_i i hi
     split at hm
     ·rename_i m hmm
      have hpath : ∀ (b : m.path.isEmpty = true), m.path.toList = [] := by
       intro hb
       rw [Array.isEmpty_iff] at hb
       rw [hb]
      split at hm
      ·rename_i h1 h2 h3
       cases hm
       simp [method, typeInfo, hi, hmm, hpath h1, follow, h2, receiverAt, run_underlying h3, Place.get]
      ·cases hm
      ·rename_i f' d hne h1 h2 h3
       cases hm
       have hnp : ∀ e, d ≠ .pointer e := fun e he => by subst he; exact hne _ rfl
       simp only [method, typeInfo, Sem.run_bind, run_program, Result.andThen, hi, Sem.run_pure, hmm, hpath h1, follow, h2, receiverAt, run_underlying h3]
       cases d <;> first | rfl | exact absurd rfl (hnp _)
      ·cases hm
     ·cases hm
    ·cases hm
   simp only [Sem.run_bind, hres, Result.andThen, invoke]
   have e0 : (#[Value.iface t u'] ++ c.args.map ρ')[0]? = some (.iface t u') := by rw [Array.getElem?_append_left (by simp)]; rfl
   rw [e0]
   dsimp only
   have e1 : (#[Value.iface t u'] ++ c.args.map ρ').extract 1 (#[Value.iface t u'] ++ c.args.map ρ').size = c.args.map ρ' := by
    apply Array.ext'
    simp
    exact List.take_of_length_le (by simp)
   rw [e1]
   simp only [callMethod, Sem.run_bind, run_program, Result.andThen]
   have hd : P.types.size + Made.depth = (P.types.size + Made.depth - 1) + 1 := by unfold Made.depth; omega
   rw [hd, hmeth]
   simp only [Result.andThen]
   refine callsAbs_run h R ?_
   have hL : RepL g w (v :: c.args.toList.map (fun x => nrm (ρ x))) (#[u'] ++ c.args.map ρ').toList := by
    rw [Array.toList_append]
    exact RepL.cons hv hargsN
   exact hL
  ·exact h.elim
theorem step_sound (hw : wfP P = true) {g : Ghost} {σ : Store} {w : World} {s : St} {a : Act} {o : Oper} {K : AV → Store → Prop} (h : astep (tabOf P) P s σ o.op K) (hT : RelT N g w s a) (R : StoreRel P g σ w) : UpN (P := P) g σ w K ((execOp a.eval o).run P w) := by
 unfold astep at h
 split at h
 ·rename_i c hc
  have := call_sound hw (ty := o.type) h R (fun x => ev_ok hT x)
  unfold execOp
  rw [hc]
  exact this
 ·rename_i op hne
  exact op_sound hw h hne R (fun x => ev_ok hT x)
theorem put_ok {g : Ghost} {w : World} {s : St} {a : Act} {dst : Option Tmp} {r : AV} {v : Value} {K : St → Prop} (hT : RelT N g w s a) (hr : RepA g w r v) (h : aput N dst r s K) : ∃ s', RelT N g w s' (a.put dst v) ∧ K s' := by
 unfold aput at h
 cases dst with
 | none => exact ⟨s, hT, h⟩
 | some d =>
  dsimp only at h
  split at h
  ·rename_i hd
   have hlt : d < a.tmps.size := by rw [hT.size]; exact Nat.le_of_ble_eq_true hd
   refine ⟨(d, r) :: s, ⟨by simp [Act.put, hT.size], hT.defers, fun t => ?_⟩, h⟩
   simp only [Act.put, look_cons]
   by_cases hdt : d = t
   ·subst hdt
    rw [if_pos rfl]
    simpa [Array.getD, hlt] using hr
   ·rw [if_neg hdt]
    have := hT.rep t
    simpa [Array.getD_eq_getD_getElem?, Array.getElem?_setIfInBounds, hdt] using this
  ·exact h.elim
theorem aops0_sound (hw : wfP P = true) {l : List Oper} {K : St → Store → Prop} {Q : Exit → Act → World → Prop} :
  ∀ (rest : List Oper) (k : Nat) (s : St) (σ : Store) (g0 g : Ghost) (σ0 : Store) (w0 w : World) (a : Act), (∀ j, rest[j]? = l[k + j]?) → aops0 (tabOf P) P N l rest K s σ → RelT N g w s a → StoreRel P g σ w → B ≤ g.n → ExtB B g0 σ0 w0 g σ w →
   (∀ g' s' σ' a' w', K s' σ' → RelT N g' w' s' a' → ExtB B g0 σ0 w0 g' σ' w' → StoreRel P g' σ' w' → Q .normal a' w') →
   wpOps P l.toArray Q ((List.range rest.length).map (k + ·)) a w
 | [], k, s, σ, g0, g, σ0, w0, w, a, hl, h, hT, R, R0, hE, hQ => hQ g s σ a w h hT hE R
 | o :: rest, k, s, σ, g0, g, σ0, w0, w, a, hl, h, hT, R, R0, hE, hQ => by
  have hok : l.toArray[k]? = some o := by have := hl 0; simp at this; simp [← this]
  have hrest : ∀ j, rest[j]? = l[k + 1 + j]? := fun j => by have := hl (j + 1); simp at this; rw [this]; congr 1; omega
  have hlist : (List.range (o :: rest).length).map (k + ·) = k :: (List.range rest.length).map (k + 1 + ·) := by
   simp only [List.length_cons, List.range_succ_eq_map, List.map_cons, List.map_map, Nat.add_zero]
   congr 1
   apply List.map_congr_left
   intro j _
   simp; omega
  rw [hlist]
  simp only [wpOps, hok]
  have run : ∀ s, RelT N g w s a → astep (tabOf P) P s σ o.op (fun v σ' => aput N o.dst v s fun s' => aops0 (tabOf P) P N l rest K s' σ') → o.wp P a w (wpOps P l.toArray Q ((List.range rest.length).map (k + 1 + ·))) Q := by
   intro s hT hs
   have hup := step_sound hw hs hT R
   unfold Oper.wp
   generalize (execOp a.eval o).run P w = res at hup
   cases res with
   | halt x w' => exact hup.elim
   | ok n w' =>
    cases n with
    | value v =>
     obtain ⟨g', σ', r, h1, h2, h3, h4⟩ := hup
     obtain ⟨s', hT', h5⟩ := put_ok (hT.mono (h1.keeps R)) h3 h4
     exact aops0_sound hw rest (k + 1) s' σ' g0 g' σ0 w0 w' _ hrest h5 hT' h2 (Nat.le_trans R0 h1.n) (hE.trans (h1.toB R0)) hQ
    | skip =>
     obtain ⟨g', σ', h1, h2, h4⟩ := hup
     obtain ⟨s', hT', h5⟩ := put_ok (hT.mono (h1.keeps R)) (.top undef) h4
     exact aops0_sound hw rest (k + 1) s' σ' g0 g' σ0 w0 w' _ hrest h5 hT' h2 (Nat.le_trans R0 h1.n) (hE.trans (h1.toB R0)) hQ
    | enter f args =>
     obtain ⟨rfl, hc⟩ := hup
     refine hc.mono fun e w'' he => ?_
     obtain ⟨v, g', σ', r, rfl, h1, h2, h3, h4⟩ := he
     obtain ⟨s', hT', h5⟩ := put_ok (hT.mono (h1.keeps R)) h3 h4
     exact aops0_sound hw rest (k + 1) s' σ' g0 g' σ0 w0 w'' _ hrest h5 hT' h2 (Nat.le_trans R0 h1.n) (hE.trans (h1.toB R0)) hQ
    | _ => exact hup.elim
  have skip : ∀ s, RelT N g w s a → aput N o.dst (.tup []) s (fun s' => aops0 (tabOf P) P N l rest K s' σ) → wpOps P l.toArray Q ((List.range rest.length).map (k + 1 + ·)) (a.put o.dst undef) w := by
   intro s hT hs
   obtain ⟨s', hT', h5⟩ := put_ok hT (.tup [] #[] rfl (by simp) : RepA g w (.tup []) undef) hs
   exact aops0_sound hw rest (k + 1) s' σ g0 g σ0 w0 w _ hrest h5 hT' R R0 hE hQ
  unfold aops0 at h
  cases hg : o.guard with
  | none =>
   rw [hg] at h
   rw [if_pos (by simp [Region.wanted, hg])]
   exact .inl (run s hT h)
  | some jw =>
   obtain ⟨j, want⟩ := jw
   rw [hg] at h
   dsimp only at h
   have slot : ∀ (v : AV) (b : Bool), aguard l s j = v → (∀ u, RepA g w v u → u = .bool b) → v ≠ .top → yielded l.toArray a.tmps j = some b ∧ (∀ v' K', RepA g w v' (.bool b) → aknown l s j v' K' → ∃ s', RelT N g w s' a ∧ K' s') := by
    intro v b hv hvb hnt
    unfold aguard at hv
    unfold yielded aknown
    simp only [List.getElem?_toArray]
    cases hj : l[j]? with
    | none => rw [hj] at hv; exact absurd hv.symm hnt
    | some oj =>
     rw [hj] at hv
     dsimp only at hv ⊢
     cases hd : oj.dst with
     | none => rw [hd] at hv; exact absurd hv.symm hnt
     | some d =>
      rw [hd] at hv
      dsimp only at hv ⊢
      have hrep := hT.rep d
      rw [hv] at hrep
      have hval := hvb _ hrep
      have hlt : d < a.tmps.size := by
       rcases Nat.lt_or_ge d a.tmps.size with h' | h'
       ·exact h'
       ·exfalso
        rw [Array.getD_eq_getD_getElem?, Array.getElem?_eq_none h'] at hval
        cases hval
      have hsome : a.tmps[d]? = some (.bool b) := by
       rw [Array.getD_eq_getD_getElem?, Array.getElem?_eq_getElem hlt] at hval
       rw [Array.getElem?_eq_getElem hlt]
       simpa using hval
      refine ⟨by simp [hd, hsome], fun v' K' hr' hk' => ⟨(d, v') :: s, ⟨hT.size, hT.defers, fun t => ?_⟩, hk'⟩⟩
      rw [look_cons]
      split
      ·rename_i e; subst e; rw [hval]; exact hr'
      ·exact hT.rep t
   have hwant : ∀ b, yielded l.toArray a.tmps j = some b → Region.wanted o (yielded l.toArray a.tmps) = (b == want) := by
    intro b hy
    simp only [Region.wanted, hg, hy]
    cases b <;> cases want <;> rfl
   split at h
   ·rename_i hb
    have hy := (slot .tt true hb (fun u hu => by cases hu; rfl) (by simp)).1
    rw [hwant _ hy, if_pos (by decide)]; exact .inl (run s hT h)
   ·rename_i hb
    have hy := (slot .ff false hb (fun u hu => by cases hu; rfl) (by simp)).1
    rw [hwant _ hy, if_pos (by decide)]; exact .inl (run s hT h)
   ·rename_i hb
    have hy := (slot .tt true hb (fun u hu => by cases hu; rfl) (by simp)).1
    rw [hwant _ hy, if_neg (by decide)]; exact skip s hT h
   ·rename_i hb
    have hy := (slot .ff false hb (fun u hu => by cases hu; rfl) (by simp)).1
    rw [hwant _ hy, if_neg (by decide)]; exact skip s hT h
   ·rename_i b hb
    obtain ⟨hy, hkn⟩ := slot _ b hb (fun u hu => repA_bool hu) (by simp)
    rw [hwant _ hy]
    cases b with
    | true =>
     rw [if_pos (by decide)]
     obtain ⟨s', hT', h'⟩ := hkn _ _ .tt (h.1 rfl)
     exact .inl (run s' hT' h')
    | false =>
     rw [if_neg (by decide)]
     obtain ⟨s', hT', h'⟩ := hkn _ _ .ff (h.2 rfl)
     exact skip s' hT' h'
   ·rename_i b hb
    obtain ⟨hy, hkn⟩ := slot _ b hb (fun u hu => repA_bool hu) (by simp)
    rw [hwant _ hy]
    cases b with
    | true =>
     rw [if_neg (by decide)]
     obtain ⟨s', hT', h'⟩ := hkn _ _ .tt (h.2 rfl)
     exact skip s' hT' h'
    | false =>
     rw [if_pos (by decide)]
     obtain ⟨s', hT', h'⟩ := hkn _ _ .ff (h.1 rfl)
     exact .inl (run s' hT' h')
   ·rename_i hb
    have hy : yielded l.toArray a.tmps j = none := by
     unfold aguard at hb
     unfold yielded
     simp only [List.getElem?_toArray]
     cases hj : l[j]? with
     | none => rw [hj] at hb; cases hb
     | some oj =>
      rw [hj] at hb
      dsimp only at hb ⊢
      cases hd : oj.dst with
      | none => rw [hd] at hb; cases hb
      | some d =>
       rw [hd] at hb
       dsimp only at hb ⊢
       have hrep := hT.rep d
       rw [hb] at hrep
       generalize hv : a.tmps.getD d undef = u at hrep
       rw [Array.getD_eq_getD_getElem?] at hv
       simp only [Option.bind_some, hd]
       cases hrep with
       | tup _ cs hl _ =>
       cases ht : a.tmps[d]? with
       | none => rfl
       | some x => rw [ht] at hv; simp only [Option.getD_some] at hv; subst hv; rfl
    have hw0 : Region.wanted o (yielded l.toArray a.tmps) = false := by simp [Region.wanted, hg, hy]
    rw [hw0, if_neg (by decide)]; exact skip s hT h
   ·exact h.elim
theorem told_ok {g : Ghost} {w : World} {s : St} {a : Act} {c : Operand} {v : AV} (hT : RelT N g w s a) (hv : RepA g w v (a.eval c)) : RelT N g w (told c v s) a := by
 cases c with
 | tmp t =>
  refine ⟨hT.size, hT.defers, fun k => ?_⟩
  show RepA g w (look .top ((t, v) :: s) k) _
  rw [look_cons]
  split
  ·rename_i e; subst e; exact hv
  ·exact hT.rep k
 | _ => exact hT
theorem awp0_sound (hw : wfP P = true) : ∀ (c : Code) (K : Exit → St → Store → Prop) (s : St) (σ : Store), awp0 (tabOf P) P N B c K s σ → E P N B c K s σ
 | .skip, K, s, σ, h => fun g a w hB hT R => wp_skip ⟨s, σ, g, h, hT, ExtB.refl hB _ _, R⟩
 | .label _, K, s, σ, h => fun g a w hB hT R => wp_label ⟨s, σ, g, h, hT, ExtB.refl hB _ _, R⟩
 | .exit id, K, s, σ, h => fun g a w hB hT R => wp_exit ⟨s, σ, g, h, hT, ExtB.refl hB _ _, R⟩
 | .goto l, K, s, σ, h => fun g a w hB hT R => wp_goto ⟨s, σ, g, h, hT, ExtB.refl hB _ _, R⟩
 | .ret, K, s, σ, h => fun g a w hB hT R => wp_ret ⟨s, σ, g, h, hT, ExtB.refl hB _ _, R⟩
 | .seq x y, K, s, σ, h => fun g a w hB hT R => by
  refine wp_seq (wp_mono (awp0_sound hw x _ s σ h g a w hB hT R) fun e a' w' ⟨s', σ', g', h1, h2, h3, h4⟩ => ?_)
  cases e with
  | normal =>
   refine wp_mono (awp0_sound hw y K s' σ' h1 g' a' w' h3.n h2 h4) fun e a'' w'' ⟨s'', σ'', g'', q1, q2, q3, q4⟩ => ⟨s'', σ'', g'', q1, q2, h3.trans q3, q4⟩
  | _ => exact ⟨s', σ', g', h1, h2, h3, h4⟩
 | .cond c x y, K, s, σ, h => fun g a w hB hT R => by
  simp only [awp0] at h
  split at h
  ·rename_i hb
   have hc := ev_ok hT c
   rw [hb] at hc
   have hc' : a.eval c = .bool true := by generalize a.eval c = u at hc; cases hc; rfl
   exact wp_cond_true hc' (awp0_sound hw x K s σ h g a w hB hT R)
  ·rename_i hb
   have hc := ev_ok hT c
   rw [hb] at hc
   have hc' : a.eval c = .bool false := by generalize a.eval c = u at hc; cases hc; rfl
   exact wp_cond_false hc' (awp0_sound hw y K s σ h g a w hB hT R)
  ·rename_i b hb
   have hc := ev_ok hT c
   rw [hb] at hc
   refine wp_cond (repA_bool hc) ?_
   cases b with
   | true => exact awp0_sound hw x K _ σ (h.1 rfl) g a w hB (told_ok hT (by rw [repA_bool hc]; exact .tt)) R
   | false => exact awp0_sound hw y K _ σ (h.2 rfl) g a w hB (told_ok hT (by rw [repA_bool hc]; exact .ff)) R
  ·exact h.elim
 | .block id c, K, s, σ, h => fun g a w hB hT R => by
  refine wp_block (wp_mono (awp0_sound hw c _ s σ h g a w hB hT R) fun e a' w' ⟨s', σ', g', h1, h2, h3, h4⟩ => ?_)
  cases e with
  | exit j =>
   dsimp only at h1
   split at h1
   ·rename_i hj
    have := Nat.eq_of_beq_eq_true hj
    subst this
    simp only [Exit.inBlock, if_true]
    exact ⟨s', σ', g', h1, h2, h3, h4⟩
   ·rename_i hj
    have hne : j ≠ id := fun e => by subst e; rw [Nat.beq_refl] at hj; cases hj
    simp only [Exit.inBlock, hne, if_false]
    exact ⟨s', σ', g', h1, h2, h3, h4⟩
  | _ => exact ⟨s', σ', g', h1, h2, h3, h4⟩
 | .region id ops draw, K, s, σ, h => fun g a w hB hT R => by
  cases draw with
  | true => exact h g a w hB hT R
  | false =>
   refine wp_region ?_
   have := aops0_sound (P := P) (N := N) hw (l := ops.toList) (K := fun s σ => K .normal s σ) (Q := Post (P := P) N B g σ w K) ops.toList 0 s σ g g σ w w a (fun j => by simp) h hT R hB (ExtB.refl hB _ _)
    (fun g' s' σ' a' w' q1 q2 q3 q4 => ⟨s', σ', g', q1, q2, q3, q4⟩)
   simpa using this
 | .loop c, K, s, σ, h => h
 | .scope c, K, s, σ, h => h
 | .rangeFunc .., K, s, σ, h => h.elim
 | .refuse .., K, s, σ, h => h.elim
end
inductive Dec where
 | run | skip | ask (b : Bool) | bad
def decide' : AV → Bool → Dec
 | .tt, true => .run
 | .ff, false => .run
 | .tt, false => .skip
 | .ff, true => .skip
 | .d (.bool b), _ => .ask b
 | .tup [], _ => .skip
 | _, _ => .bad
def aopR (T : List TI) (P : Program) (N : Nat) (l : List Oper) (o : Oper) (ih : (St → Store → Prop) → St → Store → Prop) (K : St → Store → Prop) (s : St) (σ : Store) : Prop :=
 match o.guard with
 | none => astep T P s σ o.op fun v σ' => aput N o.dst v s fun s' => ih K s' σ'
 | some (j, want) => match decide' (aguard l s j) want with
  | .run => astep T P s σ o.op fun v σ' => aput N o.dst v s fun s' => ih K s' σ'
  | .skip => aput N o.dst (.tup []) s fun s' => ih K s' σ
  | .ask b => match want with
   | true => (b = true → aknown l s j .tt fun s => astep T P s σ o.op fun v σ' => aput N o.dst v s fun s' => ih K s' σ') ∧ (b = false → aknown l s j .ff fun s => aput N o.dst (.tup []) s fun s' => ih K s' σ)
   | false => (b = false → aknown l s j .ff fun s => astep T P s σ o.op fun v σ' => aput N o.dst v s fun s' => ih K s' σ') ∧ (b = true → aknown l s j .tt fun s => aput N o.dst (.tup []) s fun s' => ih K s' σ)
  | .bad => False
noncomputable def aops (T : List TI) (P : Program) (N : Nat) (l : List Oper) (rest : List Oper) : (St → Store → Prop) → St → Store → Prop :=
 List.rec (motive := fun _ => (St → Store → Prop) → St → Store → Prop) (fun K s σ => K s σ) (fun o _ ih => aopR T P N l o ih) rest
theorem aops_to {T : List TI} {P : Program} {N : Nat} {l : List Oper} : ∀ (rest : List Oper) (K : St → Store → Prop) (s : St) (σ : Store), aops T P N l rest K s σ = aops0 T P N l rest K s σ
 | [], K, s, σ => rfl
 | o :: rest, K, s, σ => by
  have ih : (fun K s σ => aops T P N l rest K s σ) = fun K s σ => aops0 T P N l rest K s σ := by funext K s σ; exact aops_to rest K s σ
  have ih' : aops T P N l rest = aops0 T P N l rest := ih
  show aopR T P N l o (aops T P N l rest) K s σ = _
  rw [ih']
  unfold aopR
  conv => rhs; unfold aops0
  cases o.guard with
  | none => rfl
  | some jw =>
   obtain ⟨j, want⟩ := jw
   dsimp only
   generalize aguard l s j = v
   cases v with
   | d x => cases x <;> cases want <;> rfl
   | tup vs => cases vs <;> cases want <;> rfl
   | _ => cases want <;> rfl
noncomputable def awp (T : List TI) (P : Program) (N B : Nat) (c : Code) : (Exit → St → Store → Prop) → St → Store → Prop :=
 Code.rec (motive := fun _ => (Exit → St → Store → Prop) → St → Store → Prop)
  (fun K s σ => K .normal s σ)
  (fun id ops draw K s σ => match draw with
   | false => aops T P N ops.toList ops.toList (fun s σ => K .normal s σ) s σ
   | true => E P N B (.region id ops true) K s σ)
  (fun _ _ iha ihb K s σ => iha (fun e s σ => match e with | .normal => ihb K s σ | e => K e s σ) s σ)
  (fun c _ _ ihx ihy K s σ => match ev s c with
   | .tt => ihx K s σ
   | .ff => ihy K s σ
   | .d (.bool b) => cbr b (ihx K (told c .tt s) σ) (ihy K (told c .ff s) σ)
   | _ => False)
  (fun id _ ih K s σ => ih (fun e s σ => match e with
   | .exit j => (match Nat.beq j id with | true => K .normal s σ | false => K (.exit j) s σ)
   | e => K e s σ) s σ)
  (fun c _ K s σ => E P N B (.loop c) K s σ)
  (fun _ _ _ _ _ _ _ _ _ => False)
  (fun id K s σ => K (.exit id) s σ)
  (fun c _ K s σ => E P N B (.scope c) K s σ)
  (fun _ K s σ => K .normal s σ)
  (fun l K s σ => K (.goto l) s σ)
  (fun K s σ => K .ret s σ)
  (fun _ _ _ _ => False) c
theorem awp_to {T : List TI} {P : Program} {N B : Nat} : ∀ (c : Code) (K : Exit → St → Store → Prop) (s : St) (σ : Store), awp T P N B c K s σ = awp0 T P N B c K s σ
 | .skip, _, _, _ | .label _, _, _, _ | .exit _, _, _, _ | .goto _, _, _, _ | .ret, _, _, _ | .loop _, _, _, _ | .scope _, _, _, _ | .rangeFunc .., _, _, _ | .refuse _, _, _, _ => rfl
 | .region id ops draw, K, s, σ => by
  cases draw with
  | true => rfl
  | false => exact aops_to _ _ s σ
 | .seq a b, K, s, σ => by
  have hb : awp T P N B b = awp0 T P N B b := by funext K s σ; exact awp_to b K s σ
  show awp T P N B a (fun e s σ => match e with | .normal => awp T P N B b K s σ | e => K e s σ) s σ = _
  rw [hb, awp_to a]
  rfl
 | .cond c x y, K, s, σ => by
  have hx : awp T P N B x = awp0 T P N B x := by funext K s σ; exact awp_to x K s σ
  have hy : awp T P N B y = awp0 T P N B y := by funext K s σ; exact awp_to y K s σ
  show (match ev s c with
   | .tt => awp T P N B x K s σ
   | .ff => awp T P N B y K s σ
   | .d (.bool b) => cbr b (awp T P N B x K (told c .tt s) σ) (awp T P N B y K (told c .ff s) σ)
   | _ => False) = _
  rw [hx, hy]
  rfl
 | .block id c, K, s, σ => by
  show awp T P N B c _ s σ = _
  rw [awp_to c]
  rfl
theorem awp_sound {P : Program} {N B : Nat} (hw : wfP P = true) (c : Code) (K : Exit → St → Store → Prop) (s : St) (σ : Store) (h : awp (tabOf P) P N B c K s σ) : E P N B c K s σ :=
 awp0_sound hw c K s σ ((awp_to c K s σ) ▸ h)
end Go.Aw

namespace Go.Aw
set_option linter.unusedVariables false
set_option linter.unusedSimpArgs false
def ares (T : List TI) (σ : Store) (s : St) : List ResultVar → (List AV → Prop) → Prop
 | [], K => K []
 | .tmp t :: r, K => ares T σ s r fun l => K (nrm (look .top s t) :: l)
 | .cell a t :: r, K => aload T σ t (look .top s a) fun v => ares T σ s r fun l => K (nrm v :: l)
def oneOf : List AV → AV
 | [v] => v
 | l => .tup l
def aret (T : List TI) (fn : Func) (R : AV → Store → Prop) : Exit → St → Store → Prop
 | .normal, s, σ => ares T σ s fn.results.toList fun l => R (oneOf l) σ
 | .ret, s, σ => ares T σ s fn.results.toList fun l => R (oneOf l) σ
 | _, _, _ => False
def initS : Nat → List AV → St
 | _, [] => []
 | k, a :: r => (k, a) :: initS (k + 1) r
section
variable {P : Program} {N B : Nat}
theorem init_rep {g : Ghost} {w : World} : ∀ (args : List AV) (vs : List Value) (k t : Nat), RepL g w args vs → k ≤ t → RepA g w (look .top (initS k args) t) (vs.getD (t - k) undef) ∨ look .top (initS k args) t = .top
 | [], vs, k, t, h, _ => .inr rfl
 | a :: args, vs, k, t, h, hk => by
  obtain ⟨v, r, rfl, ha, hr⟩ := h.uncons
  simp only [initS, look_cons]
  by_cases hkt : k = t
  ·subst hkt; rw [if_pos rfl]; left; simpa using ha
  ·rw [if_neg hkt]
   have := init_rep args r (k + 1) t hr (by omega)
   rw [show t - k = (t - (k + 1)) + 1 by omega]
   simpa using this
def resOne (tmps : Array Value) : ResultVar → Sem Value
 | .tmp t => pure (tmps.getD t undef)
 | .cell a t => do loadVar t (← asAddr (tmps.getD a undef))
theorem results_eq (fn : Func) (tmps : Array Value) : results fn tmps = (do let vs ← fn.results.mapM (resOne tmps); pure (if h : vs.size = 1 then vs[0] else .tuple vs)) := rfl
theorem results_run {g : Ghost} {σ : Store} {w : World} {s : St} {a : Act} (hT : RelT N g w s a) (R : StoreRel P g σ w) : ∀ (rs : List ResultVar) (K : List AV → Prop), ares (tabOf P) σ s rs K →
  ∃ vs l, (rs.mapM (resOne a.tmps)).run P w = .ok vs w ∧ RepL g w l vs ∧ K l
 | [], K, h => ⟨[], [], by simp, .nil, h⟩
 | .tmp t :: rs, K, h => by
  obtain ⟨vs, l, h1, h2, h3⟩ := results_run hT R rs _ h
  exact ⟨a.tmps.getD t undef :: vs, _, by simp [List.mapM_cons, resOne, h1], RepL.cons (nrm_ok (hT.rep t)) h2, h3⟩
 | .cell p t :: rs, K, h => by
  obtain ⟨u, r, hu, hr, hK⟩ := load_sound (P := P) h R (hT.rep p)
  obtain ⟨vs, l, h1, h2, h3⟩ := results_run hT R rs _ hK
  refine ⟨u :: vs, _, ?_, RepL.cons (nrm_ok hr) h2, h3⟩
  have : (resOne a.tmps (.cell p t)).run P w = .ok u w := by
   simp only [Instr.loadAt, resOne, Sem.run_bind] at hu ⊢
   cases hv : a.tmps.getD p undef with
   | pointer q => cases q with
    | none => rw [hv] at hu; simp [Instr.sureAddr] at hu
    | some q => rw [hv] at hu; simpa [Instr.sureAddr, asAddr] using hu
   | _ => rw [hv] at hu; simp [Instr.sureAddr] at hu
  simp only [List.mapM_cons, Sem.run_bind, this, Result.andThen, h1]
  rfl
theorem fn_okE (hw : wfP P = true) {f : FuncId} {fn : Func} {c : Code} {args : List AV} {σ : Store} {R : AV → Store → Prop} (hf : P.funcs[f]? = some fn) (hn : (fn.name == "runtime.NumGoroutine") = false) (hb : fn.body = some c) (hN : args.length ≤ fn.ntmps)
  (h : E P fn.ntmps σ.n c (aret (tabOf P) fn R) (initS 0 args) σ) : Enters P f args σ R := by
 refine ⟨⟨fn, hf, hn, by rw [hb]; rfl⟩, fun g w vs hS hL => ?_⟩
 have hT : RelT fn.ntmps g w (initS 0 args) { tmps := vs.toArray ++ Array.replicate (fn.ntmps - vs.toArray.size) undef, defers := [] } := by
  refine ⟨by simp; have := hL.len; omega, rfl, fun t => ?_⟩
  rcases init_rep args vs 0 t hL (Nat.zero_le _) with h | h
  ·by_cases ht : t < vs.length
   ·rw [Array.getD_eq_getD_getElem?, Array.getElem?_append_left (by simpa using ht)]
    simpa using h
   ·have : look .top (initS 0 args) t = .top ∨ True := .inr trivial
    rw [Nat.sub_zero, List.getD_eq_getElem?_getD, List.getElem?_eq_none (by omega)] at h
    have e : (vs.toArray ++ Array.replicate (fn.ntmps - vs.toArray.size) undef).getD t undef = undef := by
     rw [Array.getD_eq_getD_getElem?, Array.getElem?_append_right (by simp; omega)]
     simp only [Array.getElem?_replicate]
     split <;> rfl
    rw [e]; exact h
  ·rw [h]; exact .top _
 refine calls_of_wp hf hb (wp_mono (h g _ w (by rw [hS.n]; exact Nat.le_refl _) hT hS) fun e a' w' ⟨s', σ', g', h1, h2, h3, h4⟩ => ?_)
 rw [hS.n] at h3
 replace h3 := h3.toExt hS
 have key : ares (tabOf P) σ' s' fn.results.toList (fun l => R (oneOf l) σ') → a'.defers = [] ∧ ∃ v, (results fn a'.tmps).run P w' = .ok v w' ∧ ∃ v' g2 σ2 r, Ending.returned v = .returned v' ∧ Ext g σ w g2 σ2 w' ∧ StoreRel P g2 σ2 w' ∧ RepA g2 w' r v' ∧ R r σ2 := by
  intro hr
  obtain ⟨vs', l, q1, q2, q3⟩ := results_run h2 h4 _ _ hr
  refine ⟨h2.defers, (if hh : vs'.toArray.size = 1 then vs'.toArray[0] else .tuple vs'.toArray), ?_, _, g', σ', oneOf l, rfl, h3, h4, ?_, q3⟩
  ·have : (fn.results.mapM (resOne a'.tmps)).run P w' = .ok vs'.toArray w' := by
    rw [Array.mapM_eq_mapM_toList]
    simp only [Sem.run_map, q1, Result.andThen]
   rw [results_eq]
   simp only [Sem.run_bind, this, Result.andThen]
   rfl
  ·have hlen := q2.len
   match l, vs', q2, hlen with
   | [], [], q2, _ => simpa [oneOf] using repL_tup (cs := #[]) q2
   | [x], [v], q2, _ =>
    obtain ⟨v2, r2, e2, hx, _⟩ := q2.uncons
    cases e2
    simpa [oneOf] using hx
   | x :: y :: l, v :: u :: vs, q2, _ =>
    have := repL_tup (cs := (v :: u :: vs).toArray) (by simpa using q2)
    simpa [oneOf] using this
 cases e with
 | normal => exact key h1
 | ret => exact key h1
 | _ => exact h1.elim
theorem fn_ok (hw : wfP P = true) {f : FuncId} {fn : Func} {c : Code} {args : List AV} {σ : Store} {R : AV → Store → Prop} (hf : P.funcs[f]? = some fn) (hn : (fn.name == "runtime.NumGoroutine") = false) (hb : fn.body = some c) (hN : args.length ≤ fn.ntmps)
  (h : awp (tabOf P) P fn.ntmps σ.n c (aret (tabOf P) fn R) (initS 0 args) σ) : Enters P f args σ R := fn_okE hw hf hn hb hN (awp_sound hw c _ _ _ h)
end
end Go.Aw

namespace Go.Aw
set_option linter.unusedVariables false
set_option linter.unusedSimpArgs false
inductive VE where
 | old (k : Nat)
 | phan (sz : Nat)
def nthE : List VE → Nat → Option VE
 | [], _ => none
 | e :: _, 0 => some e
 | _ :: r, n + 1 => nthE r n
def phi (B : Nat) (r : List VE) (i : Nat) : Option VE := match Nat.ble B i with
 | false => some (.old i)
 | true => nthE r (i - B)
def drel (x : D) : AV → Prop
 | .d y => x = y
 | .tt => x = .bool true
 | .ff => x = .bool false
 | .nil => x = .sl []
 | .dt rows => x = .sl rows
 | _ => False
def isPhan : Option VE → Bool
 | some (.phan _) => true
 | _ => false
mutual
def vrel (f : Nat → Option VE) : AV → AV → Prop
 | .top, _ => True
 | .tt, b => (match b with | .tt => True | _ => False)
 | .ff, b => (match b with | .ff => True | _ => False)
 | .d x, b => drel x b
 | .nil, b => (match b with | .nil => True | _ => False)
 | .ref i r c, b => (match b with | .ref k r' c' => f i = some (.old k) ∧ r = r' ∧ c = c' | _ => False)
 | .nilp, b => (match b with | .nilp => True | _ => False)
 | .ip row c, b => (match b with | .ip row' c' => row = row' ∧ c = c' | _ => False)
 | .own i lo len, b => (match b with | .own k lo' len' => f i = some (.old k) ∧ lo = lo' ∧ len = len' | .nil => isPhan (f i) = true ∧ lo = 0 ∧ len = 0 | _ => False)
 | .tight i lo len, b => (match b with | .tight k lo' len' => f i = some (.old k) ∧ lo = lo' ∧ len = len' | _ => False)
 | .dt rows, b => (match b with | .dt rows' => rows = rows' | .nil => rows = [] | _ => False)
 | .mp i, b => (match b with | .mp k => f i = some (.old k) | _ => False)
 | .fn h a c, b => (match b with | .fn h' a' c' => h = h' ∧ vrelL f a a' ∧ vrelL f c c' | _ => False)
 | .nilf, b => (match b with | .nilf => True | _ => False)
 | .ifc t v, b => (match b with | .ifc t' v' => t = t' ∧ vrel f v v' | _ => False)
 | .nili, b => (match b with | .nili => True | _ => False)
 | .agg vs, b => (match b with | .agg us => vrelL f vs us | _ => False)
 | .tup vs, b => (match b with | .tup us => vrelL f vs us | _ => False)
 | .lit v, b => (match b with | .lit u => v = u | _ => False)
def vrelL (f : Nat → Option VE) : List AV → List AV → Prop
 | [], b => (match b with | [] => True | _ => False)
 | a :: r, b => (match b with | c :: q => vrel f a c ∧ vrelL f r q | _ => False)
end
theorem vrelL_len {f : Nat → Option VE} : ∀ {as bs : List AV}, vrelL f as bs → as.length = bs.length
 | [], [], _ => rfl
 | a :: as, b :: bs, h => by simp [vrelL_len h.2]
 | [], b :: bs, h => h.elim
 | a :: as, [], h => h.elim
theorem vrelL_get {f : Nat → Option VE} : ∀ {as bs : List AV} {i : Nat} {a : AV}, vrelL f as bs → as[i]? = some a → ∃ b, bs[i]? = some b ∧ vrel f a b
 | [], [], i, a, _, ha => by simp at ha
 | x :: as, y :: bs, 0, a, h, ha => by simp at ha; subst ha; exact ⟨y, by simp, h.1⟩
 | x :: as, y :: bs, i + 1, a, h, ha => by simp at ha; simpa using vrelL_get h.2 ha
 | [], b :: bs, i, a, h, _ => h.elim
 | a :: as, [], i, _, h, _ => h.elim
mutual
def AV.pure : AV → Bool
 | .ref _ _ _ => false
 | .own _ _ _ => false
 | .tight _ _ _ => false
 | .mp _ => false
 | .fn _ a b => pureL a && pureL b
 | .ifc _ v => v.pure
 | .agg vs => pureL vs
 | .tup vs => pureL vs
 | _ => true
def pureL : List AV → Bool
 | [] => true
 | a :: r => a.pure && pureL r
end
mutual
theorem vrel_self {f : Nat → Option VE} : ∀ (a : AV), a.pure = true → vrel f a a
 | .top, _ => trivial
 | .tt, _ => trivial
 | .ff, _ => trivial
 | .d x, _ => rfl
 | .nil, _ => trivial
 | .ref _ _ _, h => by cases h
 | .nilp, _ => trivial
 | .ip _ _, _ => ⟨rfl, rfl⟩
 | .own _ _ _, h => by cases h
 | .tight _ _ _, h => by cases h
 | .dt _, _ => rfl
 | .mp _, h => by cases h
 | .fn _ a b, h => by
  simp [AV.pure] at h
  exact ⟨rfl, vrelL_self a h.1, vrelL_self b h.2⟩
 | .nilf, _ => trivial
 | .ifc t v, h => ⟨rfl, vrel_self v h⟩
 | .nili, _ => trivial
 | .agg vs, h => vrelL_self vs h
 | .tup vs, h => vrelL_self vs h
 | .lit _, _ => rfl
theorem vrelL_self {f : Nat → Option VE} : ∀ (l : List AV), pureL l = true → vrelL f l l
 | [], _ => trivial
 | a :: r, h => by
  simp [pureL] at h
  exact ⟨vrel_self a h.1, vrelL_self r h.2⟩
end
structure Tr (f : Nat → Option VE) (g g' : Ghost) : Prop where
 old : ∀ i k, f i = some (.old k) → k < g.n → i < g'.n ∧ g'.blk i = g.blk k ∧ g'.sz i = g.sz k ∧ g'.cap i = g.cap k
 phan : ∀ i sz, f i = some (.phan sz) → i < g'.n ∧ g'.sz i = sz ∧ g'.cap i = 0
 imm : ∀ b, g.imm b → g'.imm b
theorem RepA.tr {f : Nat → Option VE} {g g' : Ghost} {w : World} (t : Tr f g g') {a : AV} {v : Value} (h : RepA g w a v) : ∀ a', vrel f a' a → RepA g' w a' v := by
 have hm : ∀ {x : D} {v : Value}, RepD g.imm w x v → RepD g'.imm w x v := fun h => h.mono fun b hb => ⟨t.imm b hb, rfl⟩
 have hd : ∀ {a : AV} {v : Value} {x : D}, RepA g w a v → drel x a → RepA g' w (.d x) v := by
  intro a v x h hx
  cases a <;> simp only [drel] at hx <;> (try exact hx.elim) <;> subst hx <;> cases h
  ·exact .d (.bool _)
  ·exact .d (.bool _)
  ·rename_i h; exact .d (hm h)
  ·exact .d (.sl0 _ _)
  ·rename_i h; exact .d (hm h)
 induction h with
 | top v => intro a' h; cases a' <;> simp only [vrel, drel] at h <;> first | exact h.elim | exact .top v
 | tt => intro a' h; cases a' <;> simp only [vrel] at h <;> first | exact h.elim | exact .top _ | exact .tt | exact hd .tt h
 | ff => intro a' h; cases a' <;> simp only [vrel] at h <;> first | exact h.elim | exact .top _ | exact .ff | exact hd .ff h
 | d hx => intro a' h; cases a' <;> simp only [vrel] at h <;> first | exact h.elim | exact .top _ | exact hd (.d hx) h
 | nil =>
  intro a' h; cases a' <;> simp only [vrel] at h
  case own i lo len =>
   obtain ⟨h1, rfl, rfl⟩ := h
   cases hf : f i with
   | none => rw [hf] at h1; cases h1
   | some e => cases e with
    | old k => rw [hf] at h1; cases h1
    | phan sz => exact .own0 i 0 (t.phan i sz hf).1
  case dt rows => subst h; exact .dt [] none (.sl0 _ _)
  all_goals first | exact h.elim | exact .top _ | exact .nil | exact hd .nil h
 | ref i r c hi =>
  intro a' h; cases a' <;> simp only [vrel, drel] at h
  case ref j r' c' =>
   obtain ⟨h1, rfl, rfl⟩ := h
   obtain ⟨q1, q2, q3, q4⟩ := t.old j i h1 hi
   rw [← q2, ← q3]; exact .ref j _ _ q1
  all_goals first | exact h.elim | exact .top _
 | nilp => intro a' h; cases a' <;> simp only [vrel, drel] at h <;> first | exact h.elim | exact .top _ | exact .nilp
 | ip row c b o k hI hc hr =>
  intro a' h; cases a' <;> simp only [vrel, drel] at h
  case ip row' c' =>
   obtain ⟨rfl, rfl⟩ := h
   exact .ip _ _ b o k (t.imm b hI) hc (fun j x hj => hm (hr j x hj))
  all_goals first | exact h.elim | exact .top _
 | own i lo len cap hi hc hl =>
  intro a' h; cases a' <;> simp only [vrel, drel] at h
  case own j lo' len' =>
   obtain ⟨h1, rfl, rfl⟩ := h
   obtain ⟨q1, q2, q3, q4⟩ := t.old j i h1 hi
   rw [← q2, ← q3]; exact .own j _ _ cap q1 (by rw [q4]; exact hc) hl
  all_goals first | exact h.elim | exact .top _
 | own0 i lo hi =>
  intro a' h; cases a' <;> simp only [vrel, drel] at h
  case own j lo' len' =>
   obtain ⟨h1, rfl, rfl⟩ := h
   exact .own0 j _ (t.old j i h1 hi).1
  all_goals first | exact h.elim | exact .top _
 | tight i lo len hi =>
  intro a' h; cases a' <;> simp only [vrel, drel] at h
  case tight j lo' len' =>
   obtain ⟨h1, rfl, rfl⟩ := h
   obtain ⟨q1, q2, q3, q4⟩ := t.old j i h1 hi
   rw [← q2, ← q3]; exact .tight j _ _ q1
  all_goals first | exact h.elim | exact .top _
 | tight0 i lo hi =>
  intro a' h; cases a' <;> simp only [vrel, drel] at h
  case tight j lo' len' =>
   obtain ⟨h1, rfl, rfl⟩ := h
   exact .tight0 j _ (t.old j i h1 hi).1
  all_goals first | exact h.elim | exact .top _
 | dt rows a hx =>
  intro a' h; cases a' <;> simp only [vrel, drel] at h
  case dt rows' => subst h; exact .dt _ a (hm hx)
  case d x => subst h; exact .d (hm hx)
  all_goals first | exact h.elim | exact .top _
 | mp i hi =>
  intro a' h; cases a' <;> simp only [vrel, drel] at h
  case mp j =>
   obtain ⟨q1, q2, q3, q4⟩ := t.old j i h hi
   rw [← q2]; exact .mp j q1
  all_goals first | exact h.elim | exact .top _
 | fn k first captured vf vc hf hc rf rc ihf ihc =>
  intro a' h; cases a' <;> simp only [vrel, drel] at h
  case fn k' a c =>
   obtain ⟨rfl, h1, h2⟩ := h
   refine .fn _ _ _ vf vc ((vrelL_len h1).trans hf) ((vrelL_len h2).trans hc) (fun i x v hx hv => ?_) (fun i x v hx hv => ?_)
   ·obtain ⟨y, hy, hxy⟩ := vrelL_get h1 hx
    exact ihf i y v hy hv x hxy
   ·obtain ⟨y, hy, hxy⟩ := vrelL_get h2 hx
    exact ihc i y v hy hv x hxy
  all_goals first | exact h.elim | exact .top _
 | nilf => intro a' h; cases a' <;> simp only [vrel, drel] at h <;> first | exact h.elim | exact .top _ | exact .nilf
 | ifc ty a v hx ih =>
  intro a' h; cases a' <;> simp only [vrel, drel] at h
  case ifc ty' b => obtain ⟨rfl, h1⟩ := h; exact .ifc _ _ v (ih b h1)
  all_goals first | exact h.elim | exact .top _
 | nili => intro a' h; cases a' <;> simp only [vrel, drel] at h <;> first | exact h.elim | exact .top _ | exact .nili
 | agg vs cs hl hx ih =>
  intro a' h; cases a' <;> simp only [vrel, drel] at h
  case agg us =>
   refine .agg _ cs ((vrelL_len h).trans hl) (fun i x v hx hv => ?_)
   obtain ⟨y, hy, hxy⟩ := vrelL_get h hx
   exact ih i y v hy hv x hxy
  all_goals first | exact h.elim | exact .top _
 | tup vs cs hl hx ih =>
  intro a' h; cases a' <;> simp only [vrel, drel] at h
  case tup us =>
   refine .tup _ cs ((vrelL_len h).trans hl) (fun i x v hx hv => ?_)
   obtain ⟨y, hy, hxy⟩ := vrelL_get h hx
   exact ih i y v hy hv x hxy
  all_goals first | exact h.elim | exact .top _
 | lit v =>
  intro a' h; cases a' <;> simp only [vrel, drel] at h
  case lit u => subst h; exact .lit _
  all_goals first | exact h.elim | exact .top _
theorem RepL.tr {f : Nat → Option VE} {g g' : Ghost} {w : World} (t : Tr f g g') {as bs : List AV} {vs : List Value} (h : RepL g w as vs) (hr : vrelL f bs as) : RepL g' w bs vs :=
 ⟨(vrelL_len hr).trans h.1, fun i a v ha hv => by
  obtain ⟨b, hb, hab⟩ := vrelL_get hr ha
  exact (h.2 i b v hb hv).tr t a hab⟩
def rrel (f : Nat → Option VE) : List (List AV) → List (List AV) → Prop
 | [], b => (match b with | [] => True | _ => False)
 | a :: r, b => (match b with | c :: q => vrelL f a c ∧ rrel f r q | _ => False)
theorem rrel_len {f : Nat → Option VE} : ∀ {as bs : List (List AV)}, rrel f as bs → as.length = bs.length
 | [], [], _ => rfl
 | a :: as, b :: bs, h => by simp [rrel_len h.2]
 | [], b :: bs, h => h.elim
 | a :: as, [], h => h.elim
theorem rrel_get {f : Nat → Option VE} : ∀ {as bs : List (List AV)} {i : Nat} {a : List AV}, rrel f as bs → as[i]? = some a → ∃ b, bs[i]? = some b ∧ vrelL f a b
 | [], [], i, a, _, ha => by simp at ha
 | x :: as, y :: bs, 0, a, h, ha => by simp at ha; subst ha; exact ⟨y, by simp, h.1⟩
 | x :: as, y :: bs, i + 1, a, h, ha => by simp at ha; simpa using rrel_get h.2 ha
 | [], b :: bs, i, a, h, _ => h.elim
 | a :: as, [], i, _, h, _ => h.elim
def mrel (f : Nat → Option VE) : List (AV × AV) → List (AV × AV) → Prop
 | [], b => (match b with | [] => True | _ => False)
 | a :: r, b => (match b with | c :: q => vrel f a.1 c.1 ∧ vrel f a.2 c.2 ∧ mrel f r q | _ => False)
theorem mrel_len {f : Nat → Option VE} : ∀ {as bs : List (AV × AV)}, mrel f as bs → as.length = bs.length
 | [], [], _ => rfl
 | a :: as, b :: bs, h => by simp [mrel_len h.2.2]
 | [], b :: bs, h => h.elim
 | a :: as, [], h => h.elim
theorem mrel_get {f : Nat → Option VE} : ∀ {as bs : List (AV × AV)} {i : Nat} {a : AV × AV}, mrel f as bs → as[i]? = some a → ∃ b, bs[i]? = some b ∧ vrel f a.1 b.1 ∧ vrel f a.2 b.2
 | [], [], i, a, _, ha => by simp at ha
 | x :: as, y :: bs, 0, a, h, ha => by simp at ha; subst ha; exact ⟨y, by simp, h.1, h.2.1⟩
 | x :: as, y :: bs, i + 1, a, h, ha => by simp at ha; simpa using mrel_get h.2.2 ha
 | [], b :: bs, i, a, h, _ => h.elim
 | a :: as, [], i, _, h, _ => h.elim
def orel (f : Nat → Option VE) : Ob → Ob → Prop
 | .dead, _ => True
 | .rows sz rs, b => (match b with | .rows sz' rs' => sz = sz' ∧ ((rs = rs' ∧ ∀ row ∈ rs, pureL row = true) ∨ rrel f rs rs') | _ => False)
 | .map es, b => (match b with | .map es' => (es = es' ∧ ∀ e ∈ es, e.1.pure = true ∧ e.2.pure = true) ∨ mrel f es es' | _ => False)
 | .iter s p, b => (match b with | .iter s' p' => s = s' ∧ p = p' | _ => False)
 | .bld T U s, b => (match b with | .bld T' U' s' => T = T' ∧ U = U' ∧ s = s' | _ => False)
 | .two T x y, b => (match b with | .two T' x' y' => T = T' ∧ vrel f x x' ∧ vrel f y y' | _ => False)
 | .kin sz l, b => (match b with | .kin sz' l' => sz = sz' ∧ l = l' | _ => False)
theorem orel_dead {f : Nat → Option VE} {o : Ob} (h : orel f o .dead) : o = .dead := by
 cases o <;> first | rfl | exact h.elim
theorem ObRel.tr {f : Nat → Option VE} {g g' : Ghost} {w : World} (t : Tr f g g') {i k : Nat} (hk : f i = some (.old k)) (hlt : k < g.n) (hown : ∀ b, g.kind b = .own k → g'.kind b = .own i) {o o' : Ob} (h : ObRel g w k o) (hr : orel f o' o) : ObRel g' w i o' := by
 obtain ⟨q1, q2, q3, q4⟩ := t.old i k hk hlt
 cases o' with
 | dead => trivial
 | rows sz rs =>
  cases o <;> simp only [orel] at hr <;> (try exact hr.elim)
  rename_i sz' rs'
  obtain ⟨rfl, hr⟩ := hr
  have hget : ∀ (r : Nat) row, rs[r]? = some row → ∃ row', rs'[r]? = some row' ∧ vrelL f row row' := by
   intro r row hrow
   rcases hr with ⟨rfl, hp⟩ | hr
   ·exact ⟨row, hrow, vrelL_self row (hp row (List.mem_of_getElem? hrow))⟩
   ·exact rrel_get hr hrow
  have hlen : rs.length = rs'.length := by
   rcases hr with ⟨rfl, _⟩ | hr
   ·rfl
   ·exact rrel_len hr
  rcases h with ⟨rfl, hz, hc⟩ | ⟨hk', hz, c, fr, hw, hf, hs, hl, hrr⟩
  ·exact .inl ⟨List.length_eq_zero_iff.1 (by simpa using hlen), by rw [q3]; exact hz, by rw [q4]; exact hc⟩
  ·refine .inr ⟨by rw [q2]; exact hown _ hk', by rw [q3]; exact hz, c, fr, by rw [q2]; exact hw, hf, by rw [q3, q4]; exact hs, by rw [q4, hlen]; exact hl, fun r row hrow => ?_⟩
   obtain ⟨row', hrow', hrel⟩ := hget r row hrow
   obtain ⟨p1, p2⟩ := hrr r row' hrow'
   refine ⟨by rw [q3, vrelL_len hrel]; exact p1, fun j a ha => ?_⟩
   obtain ⟨a0, ha0, haa⟩ := vrelL_get hrel ha
   obtain ⟨v, hv, hra, ho⟩ := p2 j a0 ha0
   exact ⟨v, by rw [q3]; exact hv, hra.tr t a haa, ho⟩
 | map es =>
  cases o <;> simp only [orel] at hr <;> (try exact hr.elim)
  rename_i es'
  have hget : ∀ (j : Nat) x, es[j]? = some x → ∃ x', es'[j]? = some x' ∧ vrel f x.1 x'.1 ∧ vrel f x.2 x'.2 := by
   intro j x hx
   rcases hr with ⟨rfl, hp⟩ | hr
   ·have := hp x (List.mem_of_getElem? hx)
    exact ⟨x, hx, vrel_self _ this.1, vrel_self _ this.2⟩
   ·exact mrel_get hr hx
  have hlen : es.length = es'.length := by
   rcases hr with ⟨rfl, _⟩ | hr
   ·rfl
   ·exact mrel_len hr
  obtain ⟨hk', entries, clock, hw, hs, hx⟩ := h
  refine ⟨by rw [q2]; exact hown _ hk', entries, clock, by rw [q2]; exact hw, by rw [hlen]; exact hs, fun j x e hj he => ?_⟩
  obtain ⟨x', hx', r1, r2⟩ := hget j x hj
  obtain ⟨p1, p2⟩ := hx j x' e hx' he
  exact ⟨p1.tr t _ r1, p2.tr t _ r2⟩
 | iter s p =>
  cases o <;> simp only [orel] at hr <;> (try exact hr.elim)
  obtain ⟨rfl, rfl⟩ := hr
  exact ⟨by rw [q2]; exact hown _ h.1, by rw [q2]; exact h.2⟩
 | kin sz l =>
  cases o <;> simp only [orel] at hr <;> (try exact hr.elim)
  obtain ⟨rfl, rfl⟩ := hr
  obtain ⟨bs, h⟩ := h
  exact ⟨bs, h.mono (fun b hb => ⟨t.imm b hb, rfl⟩) fun b _ hb => ⟨hown b hb, rfl⟩⟩
 | bld T U s =>
  cases o <;> simp only [orel] at hr <;> (try exact hr.elim)
  obtain ⟨rfl, rfl, rfl⟩ := hr
  obtain ⟨h1, h2, h3, p, v, h4, h5, h6⟩ := h
  refine ⟨by rw [q2]; exact hown _ h1, by rw [q3]; exact h2, by rw [q4]; exact h3, p, v, by rw [q2]; exact h4, by rw [q2]; exact h5, ?_⟩
  rcases h6 with h6 | ⟨b, cap, c, fr, r1, r2, r3, r4⟩
  ·exact .inl h6
  ·exact .inr ⟨b, cap, c, fr, r1, by rw [q2]; exact r2, hown _ r3, r4⟩
 | two T x y =>
  cases o <;> simp only [orel] at hr <;> (try exact hr.elim)
  obtain ⟨rfl, r1, r2⟩ := hr
  obtain ⟨h1, h2, h3, p, v, h4, h5, h6, h7⟩ := h
  exact ⟨by rw [q2]; exact hown _ h1, by rw [q3]; exact h2, by rw [q4]; exact h3, p, v, by rw [q2]; exact h4, h5.tr t _ r1, h6.tr t _ r2, h7⟩
end Go.Aw

namespace Go.Aw
set_option linter.unusedVariables false
set_option linter.unusedSimpArgs false
def idx : List VE → Nat → Nat → Option Nat
 | [], _, _ => none
 | .old j :: r, k, a => match Nat.beq j k with
  | true => some a
  | false => idx r k (a + 1)
 | .phan _ :: r, k, a => idx r k (a + 1)
def inv (B : Nat) (r : List VE) (k : Nat) : Option Nat := if k < B then some k else idx r k B
def goodr (B n : Nat) : List VE → Bool
 | [] => true
 | .old k :: r => Nat.ble B k && Nat.ble (k + 1) n && (idx r k 0).isNone && goodr B n r
 | .phan _ :: r => goodr B n r
theorem nthE_lt : ∀ {r : List VE} {i : Nat} {e : VE}, nthE r i = some e → i < r.length
 | e :: r, 0, _, _ => by simp
 | e :: r, i + 1, x, h => by have := nthE_lt (r := r) h; simp; omega
 | [], i, e, h => by cases h
theorem idx_some : ∀ {r : List VE} {k a i : Nat}, idx r k a = some i → ∃ j, i = a + j ∧ nthE r j = some (.old k)
 | .old m :: r, k, a, i, h => by
  simp only [idx] at h
  split at h
  ·rename_i hb
   have := Nat.eq_of_beq_eq_true hb
   subst this
   cases h
   exact ⟨0, rfl, rfl⟩
  ·obtain ⟨j, h1, h2⟩ := idx_some h
   exact ⟨j + 1, by omega, h2⟩
 | .phan _ :: r, k, a, i, h => by
  obtain ⟨j, h1, h2⟩ := idx_some (r := r) h
  exact ⟨j + 1, by omega, h2⟩
 | [], k, a, i, h => by cases h
theorem idx_none : ∀ {r : List VE} {k a : Nat}, idx r k a = none → ∀ j, nthE r j ≠ some (.old k)
 | .old m :: r, k, a, h, j => by
  simp only [idx] at h
  split at h
  ·cases h
  ·rename_i hb
   cases j with
   | zero => intro e; cases e; rw [Nat.beq_refl] at hb; cases hb
   | succ j => exact idx_none h j
 | .phan _ :: r, k, a, h, j => by
  cases j with
  | zero => intro e; cases e
  | succ j => exact idx_none (r := r) h j
 | [], k, a, h, j => by intro e; cases e
theorem idx_of_nth {B n : Nat} : ∀ {r : List VE} {j k a : Nat}, goodr B n r = true → nthE r j = some (.old k) → idx r k a = some (a + j)
 | .old m :: r, 0, k, a, hg, h => by cases h; simp [idx, Nat.beq_refl]
 | .old m :: r, j + 1, k, a, hg, h => by
  simp only [goodr, Bool.and_eq_true] at hg
  have hne : m ≠ k := fun e => by
   subst e
   have := idx_none (r := r) (k := m) (a := 0) (by simpa using hg.1.2) j
   exact this h
  have : Nat.beq m k = false := by
   cases hb : Nat.beq m k with
   | false => rfl
   | true => exact absurd (Nat.eq_of_beq_eq_true hb) hne
  simp only [idx, this]
  rw [idx_of_nth hg.2 h]; congr 1; omega
 | .phan _ :: r, 0, k, a, hg, h => by cases h
 | .phan _ :: r, j + 1, k, a, hg, h => by
  simp only [idx]
  rw [idx_of_nth (r := r) hg h]; congr 1; omega
 | [], j, k, a, hg, h => by cases h
theorem good_nth {B n : Nat} : ∀ {r : List VE} {j k : Nat}, goodr B n r = true → nthE r j = some (.old k) → B ≤ k ∧ k < n
 | .old m :: r, 0, k, hg, h => by
  cases h
  simp only [goodr, Bool.and_eq_true] at hg
  exact ⟨Nat.le_of_ble_eq_true hg.1.1.1, Nat.le_of_ble_eq_true hg.1.1.2⟩
 | .old m :: r, j + 1, k, hg, h => by
  simp only [goodr, Bool.and_eq_true] at hg
  exact good_nth hg.2 h
 | .phan _ :: r, 0, k, hg, h => by cases h
 | .phan _ :: r, j + 1, k, hg, h => good_nth (r := r) hg h
 | [], j, k, hg, h => by cases h
theorem phi_lo {B : Nat} {r : List VE} {i : Nat} (h : i < B) : phi B r i = some (.old i) := by
 unfold phi
 have : Nat.ble B i = false := by
  cases hb : Nat.ble B i with
  | false => rfl
  | true => have := Nat.le_of_ble_eq_true hb; omega
 rw [this]
theorem phi_hi {B : Nat} {r : List VE} {i : Nat} (h : B ≤ i) : phi B r i = nthE r (i - B) := by
 unfold phi
 rw [Nat.ble_eq_true_of_le h]
theorem phi_lt {B : Nat} {r : List VE} {i : Nat} {e : VE} (h : phi B r i = some e) : i < B + r.length := by
 rcases Nat.lt_or_ge i B with h' | h'
 ·omega
 ·rw [phi_hi h'] at h
  have := nthE_lt h
  omega
theorem phi_old {B n : Nat} {r : List VE} {i k : Nat} (hg : goodr B n r = true) (hB : B ≤ n) (h : phi B r i = some (.old k)) : k < n ∧ inv B r k = some i := by
 rcases Nat.lt_or_ge i B with h' | h'
 ·rw [phi_lo h'] at h; cases h; exact ⟨by omega, by simp [inv, h']⟩
 ·rw [phi_hi h'] at h
  obtain ⟨q1, q2⟩ := good_nth hg h
  refine ⟨q2, ?_⟩
  unfold inv
  rw [if_neg (by omega), idx_of_nth hg h]
  congr 1; omega
theorem inv_phi {B : Nat} {r : List VE} {i k : Nat} (h : inv B r k = some i) : phi B r i = some (.old k) := by
 unfold inv at h
 split at h
 ·cases h; exact phi_lo (by assumption)
 ·obtain ⟨j, rfl, hj⟩ := idx_some h
  rw [phi_hi (by omega), Nat.add_sub_cancel_left]; exact hj
def entry (f : Nat → Option VE) (σ : Store) (i : Nat) (o : Ob) : Prop := match f i with
 | some (.old k) => orel f o (σ.get k)
 | some (.phan sz) => (match o with | .rows sz' [] => sz = sz'.1 | .dead => True | _ => False)
 | none => (match o with | .dead => True | _ => False)
def orelS (f : Nat → Option VE) (σ : Store) : List (Nat × Ob) → Prop
 | [] => True
 | (i, o) :: r => entry f σ i o ∧ orelS f σ r
theorem orelS_look {f : Nat → Option VE} {σ : Store} : ∀ {objs : List (Nat × Ob)} {i : Nat}, orelS f σ objs → look .dead objs i = .dead ∨ entry f σ i (look .dead objs i)
 | [], i, _ => .inl rfl
 | (j, o) :: r, i, h => by
  rw [look_cons]
  split
  ·rename_i e; subst e; exact .inr h.1
  ·exact orelS_look h.2
structure View (B : Nat) (r : List VE) (σ σ' : Store) : Prop where
 hB : B ≤ σ.n
 n : σ'.n = B + r.length
 good : goodr B σ.n r = true
 obs : orelS (phi B r) σ σ'.objs
def Ghost.view (g : Ghost) (B : Nat) (r : List VE) : Ghost where
 n := B + r.length
 blk i := match phi B r i with | some (.old k) => g.blk k | _ => 0
 sz i := match phi B r i with | some (.old k) => g.sz k | some (.phan s) => s | none => 0
 cap i := match phi B r i with | some (.old k) => g.cap k | _ => 0
 kind b := match g.kind b with
  | .own k => (match inv B r k with | some i => .own i | none => .free)
  | x => x
theorem tr_view (g : Ghost) (B : Nat) (r : List VE) : Tr (phi B r) g (g.view B r) where
 old i k h hk := ⟨phi_lt h, by simp [Ghost.view, h], by simp [Ghost.view, h], by simp [Ghost.view, h]⟩
 phan i sz h := ⟨phi_lt h, by simp [Ghost.view, h], by simp [Ghost.view, h]⟩
 imm b h := by
  have h' : g.kind b = .imm := h
  simp [Ghost.imm, Ghost.view, h']
theorem view_store {P : Program} {g : Ghost} {w : World} {B : Nat} {r : List VE} {σ σ' : Store} (R : StoreRel P g σ w) (h : View B r σ σ') : StoreRel P (g.view B r) σ' w := by
 have hBn : B ≤ g.n := by rw [← R.n]; exact h.hB
 have hgood : goodr B g.n r = true := by rw [← R.n]; exact h.good
 refine ⟨h.n, fun b hb => R.lt b (fun hf => hb ?_), fun b i hb => ?_, fun i hi => ?_, fun i hi => ?_, fun x hx => ⟨by have hi : g.kind x = .imm := (R.glob x hx).1; simp [Ghost.imm, Ghost.view, hi], (R.glob x hx).2⟩⟩
 ·simp [Ghost.view, hf]
 ·simp only [Ghost.view] at hb ⊢
  cases hk : g.kind b with
  | own k =>
   rw [hk] at hb
   dsimp only at hb
   split at hb
   ·rename_i j hj
    cases hb
    exact phi_lt (inv_phi hj)
   ·cases hb
  | _ => rw [hk] at hb; cases hb
 ·have hn : phi B r i = none := by
   cases hp : phi B r i with
   | none => rfl
   | some e => have := phi_lt hp; simp only [Ghost.view] at hi; omega
  rcases orelS_look (i := i) h.obs with h1 | h1
  ·exact h1
  ·unfold entry at h1
   rw [hn] at h1
   dsimp only at h1
   show look .dead σ'.objs i = .dead
   split at h1
   ·assumption
   ·exact h1.elim
 ·rcases orelS_look (i := i) h.obs with h1 | h1
  ·show ObRel _ _ _ (look .dead σ'.objs i)
   rw [h1]; trivial
  ·show ObRel _ _ _ (look .dead σ'.objs i)
   generalize look .dead σ'.objs i = o at h1
   unfold entry at h1
   split at h1
   ·rename_i k hk
    obtain ⟨q1, q2⟩ := phi_old hgood hBn hk
    refine (R.ob k q1).tr (tr_view g B r) hk q1 (fun b hb => ?_) h1
    simp [Ghost.view, hb, q2]
   ·rename_i sz hk
    split at h1
    ·subst h1
     exact Or.inl ⟨rfl, by simp [Ghost.view, hk], by simp [Ghost.view, hk]⟩
    ·trivial
    ·exact h1.elim
   ·split at h1
    ·trivial
    ·exact h1.elim
theorem view_ext {P : Program} {g : Ghost} {w : World} {B : Nat} {r : List VE} {σ σ' : Store} (R : StoreRel P g σ w) (h : View B r σ σ') : ExtB B g σ w (g.view B r) σ' w := by
 refine ⟨by simp [Ghost.view], fun i hi => ?_, fun i hi hd => ?_, Nat.le_refl _, fun b hb ho => ⟨?_, rfl⟩, rfl, rfl, rfl⟩
 ·simp [Ghost.view, phi_lo hi]
 ·rcases orelS_look (i := i) h.obs with h1 | h1
  ·exact h1
  ·unfold entry at h1
   rw [phi_lo hi] at h1
   dsimp only at h1
   rw [hd] at h1
   exact orel_dead h1
 ·simp only [Ghost.view]
  cases hk : g.kind b with
  | own k =>
   have := (ho k hk).1
   simp [inv, this]
  | _ => rfl
def vrelS (f : Nat → Option VE) (s : St) : St → Prop
 | [] => True
 | (k, v) :: r => vrel f v (look .top s k) ∧ vrelS f s r
theorem vrelS_look {f : Nat → Option VE} {s : St} : ∀ {s' : St} {t : Nat}, vrelS f s s' → vrel f (look .top s' t) (look .top s t)
 | [], t, h => by simp [look, vrel]
 | (k, v) :: r, t, h => by
  rw [look_cons]
  split
  ·rename_i e; subst e; exact h.1
  ·exact vrelS_look h.2
def Mv (B : Nat) (s : St) (σ : Store) (s' : St) (σ' : Store) : Prop := ∃ r, View B r σ σ' ∧ vrelS (phi B r) s s'
theorem Mv.of {B : Nat} {s s' : St} {σ σ' : Store} (r : List VE) (hB : Nat.ble B σ.n = true) (hn : σ'.n = B + r.length) (hg : goodr B σ.n r = true) (ho : orelS (phi B r) σ σ'.objs) (hs : vrelS (phi B r) s s') : Mv B s σ s' σ' :=
 ⟨r, ⟨Nat.le_of_ble_eq_true hB, hn, hg, ho⟩, hs⟩
section
variable {P : Program} {N B : Nat}
theorem RelT.view {g : Ghost} {w : World} {r : List VE} {s s' : St} {a : Act} (h : vrelS (phi B r) s s') (hT : RelT N g w s a) : RelT N (g.view B r) w s' a :=
 ⟨hT.size, hT.defers, fun t => (hT.rep t).tr (tr_view g B r) _ (vrelS_look h)⟩
theorem E.view {c : Code} {K : Exit → St → Store → Prop} {s s' : St} {σ σ' : Store} (hm : Mv B s σ s' σ') (h : E P N B c K s' σ') : E P N B c K s σ := fun g a w hB hT R => by
 obtain ⟨r, hv, hs⟩ := hm
 have hE := view_ext R hv
 exact wp_mono (h (g.view B r) a w hE.n (hT.view hs) (view_store R hv)) fun e a' w' ⟨s2, σ2, g2, q1, q2, q3, q4⟩ => ⟨s2, σ2, g2, q1, q2, hE.trans q3, q4⟩
theorem E.loop {c : Code} {K : Exit → St → Store → Prop} (I : Nat → St → Store → Prop)
  (round : ∀ n s σ, I n s σ → E P N B c (fun e s' σ' => match e with | .normal => ∃ n' s'' σ'', I n' s'' σ'' ∧ n' < n ∧ Mv B s' σ' s'' σ'' | e => K e s' σ') s σ)
  {n : Nat} {s : St} {σ : Store} (h0 : I n s σ) : E P N B (.loop c) K s σ := fun g a w hB hT R => by
 have key : ∀ n, ∀ (s : St) (σ : Store) (g1 : Ghost) (a1 : Act) (w1 : World), I n s σ → B ≤ g1.n → RelT N g1 w1 s a1 → StoreRel P g1 σ w1 →
   ∀ (b : Frame) (k : List Item) (cs : List Frame), ∃ e a' w', Post (P := P) N B g1 σ w1 K e a' w' ∧ Arrives P (lone (b.at a1 (.code c :: .inLoop c :: k)) cs w1) b k cs e a' w' := by
  intro n
  induction n using Nat.strongRecOn with
  | _ n ih =>
   intro s σ g1 a1 w1 hI hB1 hT1 R1 b k cs
   obtain ⟨e, a', w', ⟨s', σ', g', q1, q2, q3, q4⟩, harr⟩ := (round n s σ hI) g1 a1 w1 hB1 hT1 R1 b (.inLoop c :: k) cs
   cases e with
   | normal =>
    obtain ⟨n', s'', σ'', hI', hlt, r, hv, hs⟩ := q1
    have hE := view_ext q4 hv
    obtain ⟨e2, a2, w2, ⟨s2, σ2, g2, p1, p2, p3, p4⟩, harr2⟩ := ih n' hlt s'' σ'' (g'.view B r) a' w' hI' hE.n (q2.view hs) (view_store q4 hv) b k cs
    exact ⟨e2, a2, w2, ⟨s2, σ2, g2, p1, p2, (q3.trans hE).trans p3, p4⟩, .of_steps (Steps.trans harr (.one step_inLoop)) harr2⟩
   | exit id => exact ⟨_, a', w', ⟨s', σ', g', q1, q2, q3, q4⟩, .pass (x := .inLoop c) rfl (fun _ _ => .inl (by simp)) harr⟩
   | goto l => exact ⟨_, a', w', ⟨s', σ', g', q1, q2, q3, q4⟩, .pass (x := .inLoop c) rfl (fun _ _ => .inl (by simp)) harr⟩
   | ret => exact ⟨_, a', w', ⟨s', σ', g', q1, q2, q3, q4⟩, .pass (x := .inLoop c) rfl (fun _ _ => .inl (by simp)) harr⟩
   | panic ch => exact ⟨_, a', w', ⟨s', σ', g', q1, q2, q3, q4⟩, .pass (x := .inLoop c) rfl (fun _ _ => .inl (by simp)) harr⟩
   | outgrown => exact ⟨_, a', w', ⟨s', σ', g', q1, q2, q3, q4⟩, .pass (x := .inLoop c) rfl (fun _ _ => .inl (by simp)) harr⟩
 intro b k cs
 obtain ⟨e, a', w', hq, harr⟩ := key n s σ g a w h0 hB hT R b k cs
 exact ⟨e, a', w', hq, .of_steps (.one step_loop) harr⟩
theorem loopT (hw : wfP P = true) {T : List TI} (hT : tabOf P = T) {c : Code} {K : Exit → St → Store → Prop} (I : Nat → St → Store → Prop)
  {n : Nat} {s s0 : St} {σ σ0 : Store} (h0 : I n s0 σ0) (hl : Mv B s σ s0 σ0)
  (round : ∀ n s σ, I n s σ → awp T P N B c (fun e s' σ' => match e with | .normal => ∃ n' s'' σ'', I n' s'' σ'' ∧ n' < n ∧ Mv B s' σ' s'' σ'' | e => K e s' σ') s σ) : E P N B (.loop c) K s σ := by
 subst hT
 exact (E.loop I (fun n s σ h => awp_sound hw c _ s σ (round n s σ h)) h0).view hl
theorem loopE {c : Code} {K : Exit → St → Store → Prop} (I : Nat → St → Store → Prop)
  {n : Nat} {s s0 : St} {σ σ0 : Store} (h0 : I n s0 σ0) (hl : Mv B s σ s0 σ0)
  (round : ∀ n s σ, I n s σ → E P N B c (fun e s' σ' => match e with | .normal => ∃ n' s'' σ'', I n' s'' σ'' ∧ n' < n ∧ Mv B s' σ' s'' σ'' | e => K e s' σ') s σ) : E P N B (.loop c) K s σ :=
 (E.loop I round h0).view hl
theorem E.seq {x y : Code} {K : Exit → St → Store → Prop} {s : St} {σ : Store} (h : E P N B x (fun e s σ => match e with | .normal => E P N B y K s σ | e => K e s σ) s σ) : E P N B (.seq x y) K s σ := fun g a w hB hT R => by
 refine wp_seq (wp_mono (h g a w hB hT R) fun e a' w' ⟨s', σ', g', h1, h2, h3, h4⟩ => ?_)
 cases e with
 | normal => exact wp_mono (h1 g' a' w' h3.n h2 h4) fun e a'' w'' ⟨s'', σ'', g'', q1, q2, q3, q4⟩ => ⟨s'', σ'', g'', q1, q2, h3.trans q3, q4⟩
 | _ => exact ⟨s', σ', g', h1, h2, h3, h4⟩
theorem E.of (hw : wfP P = true) {T : List TI} (hT : tabOf P = T) {c : Code} {K : Exit → St → Store → Prop} {s : St} {σ : Store} (h : awp T P N B c K s σ) : E P N B c K s σ := by
 subst hT; exact awp_sound hw c K s σ h
def FinMove (σ0 : Store) (r : AV) (σ : Store) (r' : AV) (σ' : Store) : Prop :=
 ∀ (P : Program) (g0 g : Ghost) (w0 w : World) (v : Value), StoreRel P g0 σ0 w0 → Ext g0 σ0 w0 g σ w → StoreRel P g σ w → RepA g w r v → ∃ g', Ext g0 σ0 w0 g' σ' w ∧ StoreRel P g' σ' w ∧ RepA g' w r' v
theorem FinMove.refl (σ0 : Store) (r : AV) (σ : Store) : FinMove σ0 r σ r σ := fun _ g0 g w0 w v R0 hE R hr => ⟨g, hE, R, hr⟩
theorem FinMove.trans {σ0 : Store} {r r' r'' : AV} {σ σ' σ'' : Store} (h : FinMove σ0 r σ r' σ') (k : FinMove σ0 r' σ' r'' σ'') : FinMove σ0 r σ r'' σ'' := fun _ g0 g w0 w v R0 hE R hr => by
 obtain ⟨g1, h1, h2, h3⟩ := h _ g0 g w0 w v R0 hE R hr
 exact k _ g0 g1 w0 w v R0 h1 h2 h3
theorem Enters.fin {f : FuncId} {args : List AV} {σ : Store} {R : AV → Store → Prop} (h : Enters P f args σ fun r σ1 => ∃ r' σ', FinMove σ r σ1 r' σ' ∧ R r' σ') : Enters P f args σ R := by
 refine ⟨h.1, fun g w vs hS hL => (h.2 g w vs hS hL).mono fun e w' ⟨v, g1, σ1, r, he, h1, h2, h3, r', σ', hm, hR⟩ => ?_⟩
 obtain ⟨g2, q1, q2, q3⟩ := hm _ g g1 w w' v hS h1 h2 h3
 exact ⟨v, g2, σ', r', he, q1, q2, q3, hR⟩
theorem fin_view {σ0 σ σ' : Store} {r r' : AV} (q : List VE) (hv : View σ0.n q σ σ') (hr : vrel (phi σ0.n q) r' r) : FinMove σ0 r σ r' σ' := fun _ g0 g w0 w v R0 hE R hrep => by
 have h1 := view_ext R hv
 refine ⟨g.view σ0.n q, ?_, view_store R hv, hrep.tr (tr_view g _ q) _ hr⟩
 have hn : σ0.n = g0.n := R0.n
 have h2 : ExtB g0.n g σ w (g.view σ0.n q) σ' w := hn ▸ h1
 exact ((hE.toB (Nat.le_refl _)).trans h2).toExt R0
theorem fin_mv {σ0 σ σ' : Store} {r r' : AV} (q : List VE) (hB : Nat.ble σ0.n σ.n = true) (hn : σ'.n = σ0.n + q.length) (hg : goodr σ0.n σ.n q = true) (ho : orelS (phi σ0.n q) σ σ'.objs) (hr : vrel (phi σ0.n q) r' r) : FinMove σ0 r σ r' σ' :=
 fin_view q ⟨Nat.le_of_ble_eq_true hB, hn, hg, ho⟩ hr
def keys : List (Nat × Ob) → List Nat
 | [] => []
 | (i, _) :: r => i :: keys r
def covers (l : List Nat) : List VE → Bool
 | [] => true
 | .old k :: r => l.any (Nat.beq k) && covers l r
 | .phan _ :: r => covers l r
theorem covers_nth {l : List Nat} : ∀ {r : List VE} {j k : Nat}, covers l r = true → nthE r j = some (.old k) → k ∈ l
 | .old m :: r, 0, k, hc, h => by
  cases h
  simp only [covers, Bool.and_eq_true, List.any_eq_true] at hc
  obtain ⟨⟨x, hx, hb⟩, _⟩ := hc
  rw [Nat.eq_of_beq_eq_true hb]; exact hx
 | .old m :: r, j + 1, k, hc, h => by
  simp only [covers, Bool.and_eq_true] at hc
  exact covers_nth hc.2 h
 | .phan _ :: r, 0, k, hc, h => by cases h
 | .phan _ :: r, j + 1, k, hc, h => covers_nth (r := r) hc h
 | [], j, k, hc, h => by cases h
theorem look_app {news objs : List (Nat × Ob)} {i : Nat} : (i ∈ keys news → look .dead (news ++ objs) i = look .dead news i) ∧ (i ∉ keys news → look .dead (news ++ objs) i = look .dead objs i) := by
 induction news with
 | nil => exact ⟨fun h => by simp [keys] at h, fun _ => rfl⟩
 | cons x r ih =>
  obtain ⟨j, o⟩ := x
  simp only [List.cons_append, look_cons, keys, List.mem_cons]
  by_cases hj : j = i
  ·subst hj; simp
  ·simp only [if_neg hj]
   refine ⟨fun h => ih.1 ?_, fun h => ih.2 fun h' => h (.inr h')⟩
   rcases h with h | h
   ·exact absurd h.symm hj
   ·exact h
def back (q : List VE) (n k0 n1 : Nat) (i : Nat) : Option VE := match Nat.ble n i with
 | true => (match Nat.ble (i + k0 + 1) (n1 + n) with | true => some (.old (i + k0 - n)) | false => none)
 | false => (match idx q i 0 with | some k => some (.old k) | none => none)
theorem frame_core {P : Program} {g g1 : Ghost} {σ σ0 σ1 : Store} {w w' : World} {q : List VE} {r0 r : AV} {v : Value} {news : List (Nat × Ob)} (R : StoreRel P g σ w) (hv : View 0 q σ σ0) (hE : Ext (g.view 0 q) σ0 w g1 σ1 w') (S1 : StoreRel P g1 σ1 w') (hr : RepA g1 w' r0 v)
  (hobs : orelS (back q σ.n σ0.n σ1.n) σ1 news) (hcov : covers (keys news) q = true) (hrel : vrel (back q σ.n σ0.n σ1.n) r r0) :
  ∃ g2, Ext g σ w g2 ⟨σ.n + (σ1.n - σ0.n), news ++ σ.objs⟩ w' ∧ StoreRel P g2 ⟨σ.n + (σ1.n - σ0.n), news ++ σ.objs⟩ w' ∧ RepA g2 w' r v := by
 have S0 := view_store R hv
 have hgood : goodr 0 σ.n q = true := hv.good
 have hk0 : σ0.n = q.length := by have := hv.n; simpa using this
 have hgn : g.n = σ.n := R.n.symm
 have hg1n : g1.n = σ1.n := S1.n.symm
 have hle : σ0.n ≤ σ1.n := by rw [← hg1n, S0.n]; exact hE.n
 have hphi : ∀ i, phi 0 q i = nthE q i := fun i => by rw [phi_hi (Nat.zero_le _)]; rfl
 have hinv : ∀ k, inv 0 q k = idx q k 0 := fun k => by simp [inv]
 have hnlt : ∀ j e, nthE q j = some e → j < σ0.n := fun j e h => by rw [hk0]; exact nthE_lt h
 have kv : ∀ b, (g.view 0 q).kind b = match g.kind b with | .own k => (match idx q k 0 with | some i => .own i | none => .free) | x => x := fun b => by
  show (match g.kind b with | .own k => (match inv 0 q k with | some i => Kind.own i | none => .free) | x => x) = _
  cases g.kind b <;> simp [hinv]
 let g2 : Ghost := ⟨g.n + (g1.n - σ0.n), fun i => if i < g.n then g.blk i else g1.blk (i + σ0.n - g.n), fun i => if i < g.n then g.sz i else g1.sz (i + σ0.n - g.n), fun i => if i < g.n then g.cap i else g1.cap (i + σ0.n - g.n),
  fun b => match g1.kind b with
   | .imm => .imm
   | .own j => if j < σ0.n then (match nthE q j with | some (.old i) => .own i | _ => .free) else .own (j + g.n - σ0.n)
   | .free => (match g.kind b with | .own i => (if b < w.heap.size ∧ idx q i 0 = none then .own i else .free) | _ => .free)⟩
 have hdead0 : ∀ i k, idx q i 0 = some k → σ.get i = .dead → σ0.get k = .dead := by
  intro i k hi hd
  obtain ⟨j, rfl, hj⟩ := idx_some hi
  rcases orelS_look (i := 0 + j) hv.obs with h1 | h1
  ·exact h1
  ·unfold entry at h1
   rw [hphi, Nat.zero_add, hj] at h1
   dsimp only at h1
   rw [hd] at h1
   show look .dead σ0.objs (0 + j) = .dead
   rw [Nat.zero_add]; exact orel_dead h1
 have hbk_lo : ∀ i, i < g.n → back q σ.n σ0.n σ1.n i = (match idx q i 0 with | some k => some (.old k) | none => none) := by
  intro i hi
  unfold back
  have : Nat.ble σ.n i = false := by
   cases hb : Nat.ble σ.n i with
   | false => rfl
   | true => have := Nat.le_of_ble_eq_true hb; omega
  rw [this]
 have hbk_hi : ∀ i, g.n ≤ i → back q σ.n σ0.n σ1.n i = if i < g2.n then some (.old (i + σ0.n - g.n)) else none := by
  intro i hi
  unfold back
  rw [Nat.ble_eq_true_of_le (by omega)]
  dsimp only
  by_cases h : i < g2.n
  ·rw [if_pos h, Nat.ble_eq_true_of_le (by simp only [g2] at h; omega), hgn]
  ·rw [if_neg h]
   have : Nat.ble (i + σ0.n + 1) (σ1.n + σ.n) = false := by
    cases hb : Nat.ble (i + σ0.n + 1) (σ1.n + σ.n) with
    | false => rfl
    | true => have := Nat.le_of_ble_eq_true hb; simp only [g2] at h; omega
   rw [this]
 have T2 : Tr (back q σ.n σ0.n σ1.n) g1 g2 := by
  refine ⟨fun i k h hk => ?_, fun i sz h => ?_, fun b hb => ?_⟩
  ·rcases Nat.lt_or_ge i g.n with hi | hi
   ·rw [hbk_lo i hi] at h
    split at h
    ·rename_i k' hk'
     cases h
     obtain ⟨j, rfl, hj⟩ := idx_some hk'
     rw [Nat.zero_add] at hk ⊢
     have hjl := hnlt j _ hj
     obtain ⟨p1, p2, p3⟩ := hE.place j (by rw [← S0.n]; exact hjl)
     have hpj : phi 0 q j = some (.old i) := by rw [hphi]; exact hj
     refine ⟨by simp only [g2]; omega, ?_, ?_, ?_⟩
     ·simp only [g2, if_pos hi]; rw [p1]; simp [Ghost.view, hpj]
     ·simp only [g2, if_pos hi]; rw [p2]; simp [Ghost.view, hpj]
     ·simp only [g2, if_pos hi]; rw [p3]; simp [Ghost.view, hpj]
    ·cases h
   ·rw [hbk_hi i hi] at h
    split at h
    ·rename_i hi2
     cases h
     have hn : ¬ i < g.n := by omega
     exact ⟨hi2, by simp [g2, hn], by simp [g2, hn], by simp [g2, hn]⟩
    ·cases h
  ·exfalso
   unfold back at h
   repeat' split at h
   all_goals cases h
  ·have : g1.kind b = .imm := hb
   simp [Ghost.imm, g2, this]
 have keepI : ∀ b, g.kind b = .imm → g2.kind b = .imm ∧ w'.heap[b]? = w.heap[b]? := by
  intro b hb
  have hlt := R.lt b (by rw [hb]; intro q; cases q)
  have h0 : (g.view 0 q).kind b = .imm := by rw [kv, hb]
  obtain ⟨p1, p2⟩ := hE.keep b hlt (fun j hj => by rw [h0] at hj; cases hj)
  rw [h0] at p1
  exact ⟨by simp [g2, p1], p2⟩
 have keepO : ∀ b i, g.kind b = .own i → idx q i 0 = none → g2.kind b = .own i ∧ w'.heap[b]? = w.heap[b]? := by
  intro b i hb hi
  have hlt := R.lt b (by rw [hb]; intro q; cases q)
  have h0 : (g.view 0 q).kind b = .free := by rw [kv, hb]; simp [hi]
  obtain ⟨p1, p2⟩ := hE.keep b hlt (fun j hj => by rw [h0] at hj; cases hj)
  rw [h0] at p1
  exact ⟨by simp [g2, p1, hb, hi, hlt], p2⟩
 have keepD : ∀ b i k, b < w.heap.size → g.kind b = .own i → idx q i 0 = some k → σ.get i = .dead → g2.kind b = .own i ∧ w'.heap[b]? = w.heap[b]? := by
  intro b i k hlt hb hi hd
  have h0 : (g.view 0 q).kind b = .own k := by rw [kv, hb]; simp [hi]
  have hd0 := hdead0 i k hi hd
  obtain ⟨p1, p2⟩ := hE.keep b hlt (fun j hj => by rw [h0] at hj; cases hj; exact hd0)
  rw [h0] at p1
  obtain ⟨j, rfl, hj⟩ := idx_some hi
  rw [Nat.zero_add] at p1
  exact ⟨by simp [g2, p1, hnlt j _ hj, hj], p2⟩
 have keepF : ∀ b, b < w.heap.size → g.kind b = .free → g2.kind b = .free ∧ w'.heap[b]? = w.heap[b]? := by
  intro b hlt hb
  have h0 : (g.view 0 q).kind b = .free := by rw [kv, hb]
  obtain ⟨p1, p2⟩ := hE.keep b hlt (fun j hj => by rw [h0] at hj; cases hj)
  rw [h0] at p1
  exact ⟨by simp [g2, p1, hb], p2⟩
 have hkeeps : Keeps g w g2 w' := ⟨by simp only [g2]; omega, fun i hi => by simp [g2, hi], fun b hb => keepI b hb⟩
 have hnews : ∀ i, i ∈ keys news → look .dead (news ++ σ.objs) i = .dead ∨ entry (back q σ.n σ0.n σ1.n) σ1 i (look .dead (news ++ σ.objs) i) := by
  intro i hi
  rw [look_app.1 hi]
  exact orelS_look hobs
 refine ⟨g2, ?_, ?_, hr.tr T2 r hrel⟩
 ·refine ⟨by simp only [g2]; omega, fun i hi => by simp [g2, hi], fun i hi hd => ?_, hE.size, fun b hb ho => ?_, hE.os, hE.tape, hE.output⟩
  ·show look .dead (news ++ σ.objs) i = .dead
   by_cases hk : i ∈ keys news
   ·rcases hnews i hk with h1 | h1
    ·exact h1
    ·unfold entry at h1
     rw [hbk_lo i hi] at h1
     cases hx : idx q i 0 with
     | none =>
      rw [hx] at h1
      dsimp only at h1
      split at h1
      ·assumption
      ·exact h1.elim
     | some k =>
      rw [hx] at h1
      dsimp only at h1
      have hd0 := hdead0 i k hx hd
      have hkn : k < σ0.n := by obtain ⟨j, rfl, hj⟩ := idx_some hx; rw [Nat.zero_add]; exact hnlt j _ hj
      have hd1 := hE.dead k (by rw [← S0.n]; exact hkn) hd0
      rw [hd1] at h1
      exact orel_dead h1
   ·rw [look_app.2 hk]; exact hd
  ·cases hk : g.kind b with
   | imm => exact keepI b hk
   | free => exact keepF b hb hk
   | own i =>
    cases hx : idx q i 0 with
    | none => exact keepO b i hk hx
    | some k => exact keepD b i k hb hk hx (ho i hk)
 ·refine ⟨by show σ.n + (σ1.n - σ0.n) = g.n + (g1.n - σ0.n); rw [hgn, hg1n], fun b hb => ?_, fun b i hb => ?_, fun i hi => ?_, fun i hi => ?_, glob_keep hkeeps R.glob⟩
  ·simp only [g2] at hb
   cases h1 : g1.kind b with
   | imm => exact S1.lt b (by rw [h1]; intro q; cases q)
   | own i => exact S1.lt b (by rw [h1]; intro q; cases q)
   | free =>
    rw [h1] at hb
    dsimp only at hb
    cases h2 : g.kind b with
    | own i =>
     rw [h2] at hb
     dsimp only at hb
     split at hb
     ·rename_i hh; exact Nat.lt_of_lt_of_le hh.1 hE.size
     ·exact absurd rfl hb
    | _ => rw [h2] at hb; exact absurd rfl hb
  ·simp only [g2] at hb ⊢
   cases h1 : g1.kind b with
   | imm => rw [h1] at hb; cases hb
   | own j =>
    rw [h1] at hb
    dsimp only at hb
    have hj1 := S1.owner b j h1
    split at hb
    ·split at hb
     ·rename_i i' hj
      cases hb
      have := (good_nth hgood hj).2
      omega
     ·cases hb
    ·cases hb; omega
   | free =>
    rw [h1] at hb
    dsimp only at hb
    cases h2 : g.kind b with
    | own j =>
     rw [h2] at hb
     dsimp only at hb
     split at hb
     ·cases hb; have := R.owner b i h2; omega
     ·cases hb
    | _ => rw [h2] at hb; cases hb
  ·show look .dead (news ++ σ.objs) i = .dead
   have hi' : g.n ≤ i := by simp only [g2] at hi; omega
   by_cases hk : i ∈ keys news
   ·rcases hnews i hk with h1 | h1
    ·exact h1
    ·unfold entry at h1
     rw [hbk_hi i hi', if_neg (by omega)] at h1
     dsimp only at h1
     split at h1
     ·assumption
     ·exact h1.elim
   ·rw [look_app.2 hk]; exact R.dead i hi'
  ·show ObRel g2 w' i (look .dead (news ++ σ.objs) i)
   by_cases hk : i ∈ keys news
   ·rcases hnews i hk with h1 | h1
    ·rw [h1]; trivial
    ·unfold entry at h1
     split at h1
     ·rename_i k hbk
      have hk1 : k < g1.n ∧ ∀ b, g1.kind b = .own k → g2.kind b = .own i := by
       rcases Nat.lt_or_ge i g.n with hi' | hi'
       ·rw [hbk_lo i hi'] at hbk
        split at hbk
        ·rename_i k' hk'
         cases hbk
         obtain ⟨j, rfl, hj⟩ := idx_some hk'
         rw [Nat.zero_add]
         have := hnlt j _ hj
         exact ⟨by omega, fun b hb => by simp [g2, hb, this, hj]⟩
        ·cases hbk
       ·rw [hbk_hi i hi', if_pos hi] at hbk
        cases hbk
        have hi2 : i < g.n + (g1.n - σ0.n) := hi
        refine ⟨by omega, fun b hb => ?_⟩
        have hnl : ¬ (i + σ0.n - g.n < σ0.n) := by omega
        simp only [g2, hb, if_neg hnl]
        congr 1; omega
      exact (S1.ob k hk1.1).tr T2 hbk hk1.1 hk1.2 h1
     ·exfalso
      rename_i sz hbk
      unfold back at hbk
      repeat' split at hbk
      all_goals cases hbk
     ·split at h1
      ·rename_i heq; rw [heq]; trivial
      ·exact h1.elim
   ·rw [look_app.2 hk]
    rcases Nat.lt_or_ge i g.n with hi' | hi'
    ·have hx : idx q i 0 = none := by
      cases hx : idx q i 0 with
      | none => rfl
      | some k =>
       obtain ⟨j, _, hj⟩ := idx_some hx
       exact absurd (covers_nth hcov hj) hk
     exact (R.ob i hi').mono hkeeps hi' (fun b hb => keepO b i hb hx)
    ·have := R.dead i hi'
     show ObRel g2 w' i (σ.get i)
     rw [this]; trivial
theorem CallsAbs.frame {f : FuncId} {args args0 : List AV} {σ σ0 : Store} {R K : AV → Store → Prop} (h : CallsAbs P f args0 σ0 R) (q : List VE) (hv : View 0 q σ σ0) (ha : vrelL (phi 0 q) args0 args)
  (hR : ∀ r0 σ1, R r0 σ1 → ∃ r news, orelS (back q σ.n σ0.n σ1.n) σ1 news ∧ covers (keys news) q = true ∧ vrel (back q σ.n σ0.n σ1.n) r r0 ∧ K r ⟨σ.n + (σ1.n - σ0.n), news ++ σ.objs⟩) : CallsAbs P f args σ K := by
 have core : ∀ {g : Ghost} {w w' : World} {v : Value}, StoreRel P g σ w → (∃ g1 σ1 r0, Ext (g.view 0 q) σ0 w g1 σ1 w' ∧ StoreRel P g1 σ1 w' ∧ RepA g1 w' r0 v ∧ R r0 σ1) → ∃ g' σ' r, Ext g σ w g' σ' w' ∧ StoreRel P g' σ' w' ∧ RepA g' w' r v ∧ K r σ' := by
  rintro g w w' v hS ⟨g1, σ1, r0, hE, S1, hr, hRr⟩
  obtain ⟨r, news, h1, h2, h3, h4⟩ := hR r0 σ1 hRr
  obtain ⟨g2, q1, q2, q3⟩ := frame_core hS hv hE S1 hr h1 h2 h3
  exact ⟨g2, _, r, q1, q2, q3, h4⟩
 rcases h with h | ⟨fn, e, h1, h2, h3, h4, h5, h6⟩
 ·refine .inl ⟨h.1, fun g w vs hS hL => (h.2 (g.view 0 q) w vs (view_store hS hv) (hL.tr (tr_view g 0 q) ha)).mono fun e w' ⟨v, g1, σ1, r0, he, hE, S1, hr, hRr⟩ => ?_⟩
  obtain ⟨g', σ', r, q1, q2, q3, q4⟩ := core hS ⟨g1, σ1, r0, hE, S1, hr, hRr⟩
  exact ⟨v, g', σ', r, he, q1, q2, q3, q4⟩
 ·refine .inr ⟨fn, e, h1, h2, h3, h4, h5, fun g w vs hS hL => ?_⟩
  have := h6 (g.view 0 q) w vs (view_store hS hv) (hL.tr (tr_view g 0 q) ha)
  cases hr : (e vs.toArray).run P w with
  | ok v w' => rw [hr] at this; exact core hS this
  | halt x w' => rw [hr] at this; exact this.elim
def PureC (P : Program) (f : FuncId) (args : List AV) (r : AV) : Prop := ∀ σ, CallsAbs P f args σ fun r' σ' => r' = r ∧ σ' = σ
theorem PureC.use {f : FuncId} {args : List AV} {r : AV} {σ : Store} {K : AV → Store → Prop} (h : PureC P f args r) (hK : K r σ) : CallsAbs P f args σ K :=
 (h σ).mono fun r' σ' ⟨h1, h2⟩ => by subst h1; subst h2; exact hK
theorem PureC.of {f : FuncId} {args : List AV} {r : AV} (ha : pureL args = true) (hr : r.pure = true) (h : CallsAbs P f args ⟨0, []⟩ fun r' σ' => r' = r ∧ σ'.n = 0) : PureC P f args r := fun σ => by
 refine CallsAbs.frame h [] ⟨Nat.zero_le _, rfl, rfl, trivial⟩ (vrelL_self args ha) (fun r0 σ1 ⟨h1, h2⟩ => ?_)
 subst h1
 refine ⟨r0, [], trivial, rfl, vrel_self r0 hr, rfl, ?_⟩
 cases σ; simp [h2]
end
end Go.Aw

namespace Go.Aw
set_option linter.unusedVariables false
set_option linter.unusedSimpArgs false
section
variable {P : Program} {N B : Nat}
def frz1 (i : Nat) (ds : List (List D)) : AV → AV
 | .own j lo len => match Nat.beq i j with
  | true => .d (.sl ((ds.drop lo).take len))
  | false => .own j lo len
 | v => v
mutual
def frz (i : Nat) (ds : List (List D)) : AV → AV
 | .own j lo len => frz1 i ds (.own j lo len)
 | .agg vs => .agg (frzL i ds vs)
 | .tup vs => .tup (frzL i ds vs)
 | v => v
def frzL (i : Nat) (ds : List (List D)) : List AV → List AV
 | [] => []
 | a :: r => frz i ds a :: frzL i ds r
end
def rowsD : List (List AV) → Option (List (List D))
 | [] => some []
 | r :: rs => match toDs r, rowsD rs with
  | some x, some xs => some (x :: xs)
  | _, _ => none
theorem rowsD_get : ∀ {rs : List (List AV)} {ds : List (List D)}, rowsD rs = some ds → ds.length = rs.length ∧ ∀ (i : Nat) row, rs[i]? = some row → ∃ d, ds[i]? = some d ∧ toDs row = some d
 | [], ds, h => by cases h; exact ⟨rfl, by simp⟩
 | r :: rs, ds, h => by
  simp only [rowsD] at h
  split at h
  ·rename_i x xs hx hxs
   cases h
   obtain ⟨h1, h2⟩ := rowsD_get hxs
   refine ⟨by simp [h1], fun i row hi => ?_⟩
   cases i with
   | zero => simp at hi; subst hi; exact ⟨x, by simp, hx⟩
   | succ i => simp at hi; obtain ⟨d, q1, q2⟩ := h2 i row hi; exact ⟨d, by simpa using q1, q2⟩
  ·cases h
theorem toDs_length : ∀ {row : List AV} {d : List D}, toDs row = some d → d.length = row.length
 | [], d, h => by cases h; rfl
 | a :: row, d, h => by
  cases a with
  | d x => simp only [toDs, Option.map_eq_some_iff] at h; obtain ⟨e, he, rfl⟩ := h; simp [toDs_length he]
  | nil => simp only [toDs, Option.map_eq_some_iff] at h; obtain ⟨e, he, rfl⟩ := h; simp [toDs_length he]
  | _ => simp [toDs] at h
theorem frozen_rows {g : Ghost} {w : World} {i : Nat} {sz : Nat × Nat} {rs : List (List AV)} {ds : List (List D)} (hob : ObRel g w i (.rows sz rs)) (hds : rowsD rs = some ds) {g' : Ghost} (hg : ∀ b, g.imm b → g'.imm b) (hb : g'.imm (g.blk i)) (lo len cap : Nat) (hcap : len ≤ cap) (hlen : lo + len ≤ rs.length) :
  RepD g'.imm w (.sl ((ds.drop lo).take len)) (.slice (some ⟨g.blk i, lo * g.sz i, none⟩) len cap) := by
 rcases hob with ⟨rfl, _, _⟩ | hob
 ·have h0 : len = 0 := by simp at hlen; omega
  subst h0
  rw [List.take_zero]; exact .sl0 _ _
 obtain ⟨hk, hz, c, fr, hw, hf, hsz, hl, hrr⟩ := hob
 obtain ⟨hd1, hd2⟩ := rowsD_get hds
 have hll : ((ds.drop lo).take len).length = len := by simp; omega
 have hval : ∀ (r j : Nat) row d x, rs[r]? = some row → toDs row = some d → d[j]? = some x → ∃ v, c[r * g.sz i + j]? = some v ∧ RepD g'.imm w x v := by
  intro r j row d x hr hd hx
  obtain ⟨q1, q2⟩ := hrr r row hr
  obtain ⟨vs, hvl, hvs⟩ := pick_list (R := fun j a v => c[r * g.sz i + j]? = some v ∧ RepA g w a v) row (fun j a ha => by
   obtain ⟨v, hv, hra, _⟩ := q2 j a ha; exact ⟨v, hv, hra⟩)
  obtain ⟨_, hdr⟩ := toDs_ok hd (g := g) (w := w) (vs := vs) ⟨hvl.symm, fun j a u ha hu => (hvs j a u ha hu).2⟩
  have hj := lt_of_some hx
  rw [toDs_length hd] at hj
  obtain ⟨a, ha⟩ := getElem?_of_lt hj
  obtain ⟨u, hu⟩ := getElem?_of_lt (l := vs) (j := j) (by rw [hvl]; exact hj)
  exact ⟨u, (hvs j a u ha hu).1, (hdr j x u hx hu).mono fun b hb => ⟨hg b hb, rfl⟩⟩
 have hrow : ∀ (r : Nat) d, ((ds.drop lo).take len)[r]? = some d → ∃ row, rs[lo + r]? = some row ∧ toDs row = some d := by
  intro r d hr
  rw [List.getElem?_take] at hr
  split at hr
  ·rw [List.getElem?_drop] at hr
   have hlt := lt_of_some hr
   rw [hd1] at hlt
   obtain ⟨row, hrow⟩ := getElem?_of_lt hlt
   obtain ⟨d', q1, q2⟩ := hd2 _ row hrow
   rw [hr] at q1
   cases q1
   exact ⟨row, hrow, q2⟩
  ·cases hr
 have hgoal : RepD g'.imm w (.sl ((ds.drop lo).take len)) (.slice (some ⟨g.blk i, lo * g.sz i, none⟩) ((ds.drop lo).take len).length cap) := by
  refine .sl _ (g.blk i) (lo * g.sz i) cap (g.sz i) (fun r j => c.getD ((lo + r) * g.sz i + j) undef) hb (by omega) (fun r d hr => ?_) (fun r j d x hr hx => ?_) (fun r j d x hr hx => ?_)
  ·obtain ⟨row, q1, q2⟩ := hrow r d hr
   rw [toDs_length q2]; exact (hrr _ row q1).1
  ·obtain ⟨row, q1, q2⟩ := hrow r d hr
   obtain ⟨v, hv, _⟩ := hval _ j row d x q1 q2 hx
   rw [cell_at hw, show lo * g.sz i + (r * g.sz i + j) = (lo + r) * g.sz i + j by rw [Nat.add_mul]; omega, hv]
   rw [Array.getD_eq_getD_getElem?, hv]; rfl
  ·obtain ⟨row, q1, q2⟩ := hrow r d hr
   obtain ⟨v, hv, hrep⟩ := hval _ j row d x q1 q2 hx
   rw [Array.getD_eq_getD_getElem?, hv]
   exact hrep
 rw [hll] at hgoal
 exact hgoal
mutual
def frzOk (i n : Nat) : AV → Prop
 | .own j lo len => Nat.beq i j = true → lo + len ≤ n
 | .agg vs => frzOkL i n vs
 | .tup vs => frzOkL i n vs
 | _ => True
def frzOkL (i n : Nat) : List AV → Prop
 | [] => True
 | a :: r => frzOk i n a ∧ frzOkL i n r
end
theorem frzOkL_get {i n : Nat} : ∀ {l : List AV} {k : Nat} {a : AV}, frzOkL i n l → l[k]? = some a → frzOk i n a
 | x :: l, 0, a, h, hi => by simp at hi; subst hi; exact h.1
 | x :: l, k + 1, a, h, hi => by simp at hi; exact frzOkL_get h.2 hi
 | [], k, a, h, hi => by simp at hi
theorem frzL_get {i : Nat} {ds : List (List D)} : ∀ {l : List AV} {k : Nat} {a : AV}, (frzL i ds l)[k]? = some a → ∃ b, l[k]? = some b ∧ a = frz i ds b
 | x :: l, 0, a, h => by simp [frzL] at h; exact ⟨x, by simp, h.symm⟩
 | x :: l, k + 1, a, h => by simp [frzL] at h; obtain ⟨b, h1, h2⟩ := frzL_get h; exact ⟨b, by simpa using h1, h2⟩
 | [], k, a, h => by simp [frzL] at h
theorem frzL_length {i : Nat} {ds : List (List D)} : ∀ {l : List AV}, (frzL i ds l).length = l.length
 | [] => rfl
 | a :: l => by simp [frzL, frzL_length]
theorem frz_rep {g g' : Ghost} {w : World} {i n : Nat} {ds : List (List D)} {a : AV} {v : Value}
  (hk : Keeps g w g' w) (hz : ∀ lo len cap, len ≤ cap → lo + len ≤ n → RepD g'.imm w (.sl ((ds.drop lo).take len)) (.slice (some ⟨g.blk i, lo * g.sz i, none⟩) len cap)) (hr : RepA g w a v) : frzOk i n a → RepA g' w (frz i ds a) v := by
 induction hr with
 | own j lo len cap h hc hl =>
  intro hle
  simp only [frz, frz1]
  split
  ·rename_i hij
   have e := Nat.eq_of_beq_eq_true hij
   subst e
   exact .d (hz lo len cap hl (hle hij))
  ·exact (RepA.own j lo len cap h hc hl).mono hk
 | own0 j lo h =>
  intro hle
  simp only [frz, frz1]
  split
  ·rw [List.take_zero]; exact .d (.sl0 _ _)
  ·exact (RepA.own0 j lo h).mono hk
 | agg vs cs hl h ih =>
  intro hle
  refine .agg _ cs (by rw [frzL_length]; exact hl) (fun k a v ha hv => ?_)
  obtain ⟨b, hb, rfl⟩ := frzL_get ha
  exact ih k b v hb hv (frzOkL_get hle hb)
 | tup vs cs hl h ih =>
  intro hle
  refine .tup _ cs (by rw [frzL_length]; exact hl) (fun k a v ha hv => ?_)
  obtain ⟨b, hb, rfl⟩ := frzL_get ha
  exact ih k b v hb hv (frzOkL_get hle hb)
 | top v => exact fun _ => .top v
 | tt => exact fun _ => .tt
 | ff => exact fun _ => .ff
 | d h => exact fun _ => (RepA.d h).mono hk
 | nil => exact fun _ => .nil
 | ref i r c h => exact fun _ => (RepA.ref i r c h).mono hk
 | nilp => exact fun _ => .nilp
 | ip row c b o f hI hc hr => exact fun _ => (RepA.ip row c b o f hI hc hr).mono hk
 | tight i lo len h => exact fun _ => (RepA.tight i lo len h).mono hk
 | tight0 i lo h => exact fun _ => (RepA.tight0 i lo h).mono hk
 | dt rows a h => exact fun _ => (RepA.dt rows a h).mono hk
 | mp i h => exact fun _ => (RepA.mp i h).mono hk
 | fn f first captured vf vc hf hc rf rc ihf ihc => exact fun _ => (RepA.fn f first captured vf vc hf hc rf rc).mono hk
 | nilf => exact fun _ => .nilf
 | lit v => exact fun _ => .lit v
 | ifc t a v h ih => exact fun _ => (RepA.ifc t a v h).mono hk
 | nili => exact fun _ => .nili
theorem fin_freeze {σ0 σ : Store} {r : AV} (i : Nat) {sz : Nat × Nat} {rs : List (List AV)} {ds : List (List D)} (ho : σ.get i = .rows sz rs) (hds : rowsD rs = some ds) (hle : frzOk i rs.length r) : FinMove σ0 r σ (frz i ds r) (σ.set i .dead) := fun _ g0 g w0 w v R0 hE R hrep => by
 have hi : i < g.n := by
  rcases Nat.lt_or_ge i g.n with h | h
  ·exact h
  ·have := R.dead i h; rw [ho] at this; cases this
 have hob := R.ob i hi
 rw [ho] at hob
 have hob' := hob
 rcases hob' with ⟨rfl, _, _⟩ | hat
 ·have hR := kill_ok R i hi
  have hX : Ext g σ w g (σ.set i .dead) w := (Ext.refl g (σ.set i .dead) w).of_kill
  refine ⟨g, hE.trans R0 hX, hR.1, frz_rep (n := 0) (Ext.refl g σ w |>.keeps R) (fun lo len cap h1 h2 => ?_) hrep hle⟩
  have : len = 0 := by omega
  subst this
  rw [List.take_zero]; exact .sl0 _ _
 ·have hR := freeze_ok R i hi hat.1 (by rw [ho]; intro q; cases q)
  exact ⟨_, hE.trans R0 hR.1, hR.2, frz_rep (hR.1.keeps R) (fun lo len cap h1 h2 => frozen_rows hob hds (fun b hb => ((hR.1.keeps R).imm b hb).1) (by simp [Ghost.imm]) lo len cap h1 h2) hrep hle⟩
def Sub (a b : AV) : Prop := ∀ (g : Ghost) (w : World) (v : Value), RepA g w a v → RepA g w b v
theorem Sub.refl (a : AV) : Sub a a := fun _ _ _ h => h
theorem Sub.top (a : AV) : Sub a .top := fun _ _ v _ => .top v
theorem Sub.tt : Sub .tt (.d (.bool true)) := fun _ _ v h => by cases h; exact .d (.bool true)
theorem Sub.ff : Sub .ff (.d (.bool false)) := fun _ _ v h => by cases h; exact .d (.bool false)
theorem Sub.nil : Sub .nil (.d (.sl [])) := fun _ _ v h => by cases h; exact .d (.sl0 _ _)
theorem Sub.agg {as bs : List AV} (hl : as.length = bs.length) (h : ∀ (i : Nat) a b, as[i]? = some a → bs[i]? = some b → Sub a b) : Sub (.agg as) (.agg bs) := fun g w v hr => by
 cases hr with
 | agg _ cs hcl hcs =>
 refine .agg bs cs (by rw [← hl]; exact hcl) (fun i b u hb hu => ?_)
 obtain ⟨a, ha⟩ := getElem?_of_lt (l := as) (j := i) (by rw [hl]; exact lt_of_some hb)
 exact h i a b ha hb g w u (hcs i a u ha hu)
theorem Sub.tup {as bs : List AV} (hl : as.length = bs.length) (h : ∀ (i : Nat) a b, as[i]? = some a → bs[i]? = some b → Sub a b) : Sub (.tup as) (.tup bs) := fun g w v hr => by
 cases hr with
 | tup _ cs hcl hcs =>
 refine .tup bs cs (by rw [← hl]; exact hcl) (fun i b u hb hu => ?_)
 obtain ⟨a, ha⟩ := getElem?_of_lt (l := as) (j := i) (by rw [hl]; exact lt_of_some hb)
 exact h i a b ha hb g w u (hcs i a u ha hu)
theorem fin_sub {σ0 σ : Store} {r r' : AV} (h : Sub r r') : FinMove σ0 r σ r' σ := fun _ g0 g w0 w v R0 hE R hr => ⟨g, hE, R, h _ _ _ hr⟩
theorem bytesA_pure (s : List UInt8) : ∀ row ∈ bytesA s, pureL row = true := by
 intro row h
 simp only [bytesA, List.mem_map] at h
 obtain ⟨b, _, rfl⟩ := h
 rfl
theorem pureL_d : ∀ r : List D, pureL (r.map .d) = true
 | [] => rfl
 | x :: r => by simp [pureL, AV.pure, pureL_d r]
theorem dataA_pure (rows : List (List D)) : ∀ row ∈ rows.map (fun r => r.map AV.d), pureL row = true := by
 intro row h
 simp only [List.mem_map] at h
 obtain ⟨r, _, rfl⟩ := h
 exact pureL_d r
theorem bytesA_append (a b : List UInt8) : bytesA (a ++ b) = bytesA a ++ bytesA b := by simp [bytesA]
theorem toDs_d : ∀ r : List D, toDs (r.map .d) = some r
 | [] => rfl
 | x :: r => by simp [toDs, toDs_d r]
theorem rowsD_d : ∀ rows : List (List D), rowsD (rows.map fun r => r.map .d) = some rows
 | [] => rfl
 | r :: rows => by simp [rowsD, toDs_d, rowsD_d rows]
theorem rowsOne {n : Nat} {row : List AV} (h : row.length = n) (h1 : row.all AV.one = true) : ∀ r ∈ [row], r.length = n ∧ ∀ a ∈ r, a.one = true := by
 intro r hr
 simp only [List.mem_singleton] at hr
 subst hr
 exact ⟨h, fun a ha => List.all_eq_true.1 h1 a ha⟩
theorem rowsNone {n : Nat} : ∀ r ∈ ([] : List (List AV)), r.length = n ∧ ∀ a ∈ r, a.one = true := by
 intro r hr; cases hr
theorem bytesRows (s : List UInt8) : ∀ r ∈ bytesA s, r.length = 1 ∧ ∀ a ∈ r, a.one = true := by
 intro r h
 simp only [bytesA, List.mem_map] at h
 obtain ⟨b, _, rfl⟩ := h
 exact ⟨rfl, by intro a ha; simp at ha; subst ha; rfl⟩
theorem dataRows {n : Nat} {rows : List (List D)} (h : ∀ r ∈ rows, r.length = n) : ∀ r ∈ rows.map (fun r => r.map AV.d), r.length = n ∧ ∀ a ∈ r, a.one = true := by
 intro r hr
 simp only [List.mem_map] at hr
 obtain ⟨x, hx, rfl⟩ := hr
 refine ⟨by simp [h x hx], fun a ha => ?_⟩
 simp only [List.mem_map] at ha
 obtain ⟨y, _, rfl⟩ := ha
 rfl
theorem takeAll {α : Type} {l : List α} {n : Nat} (h : l.length = n) : (l.drop 0).take n = l := by subst h; simp
theorem bytesA_len (s : List UInt8) : (bytesA s).length = s.length := by simp [bytesA]
theorem fn_okT (hw : wfP P = true) {T : List TI} (hT : tabOf P = T) {f : FuncId} {fn : Func} {c : Code} {args : List AV} {σ : Store} {R : AV → Store → Prop} (hf : P.funcs[f]? = some fn) (hn : (fn.name == "runtime.NumGoroutine") = false) (hb : fn.body = some c) (hN : Nat.ble args.length fn.ntmps = true)
  (h : awp T P fn.ntmps σ.n c (aret T fn fun r σ1 => ∃ r' σ', FinMove σ r σ1 r' σ' ∧ R r' σ') (initS 0 args) σ) : CallsAbs P f args σ R := by
 subst hT; exact .inl (Enters.fin (fn_ok hw hf hn hb (Nat.le_of_ble_eq_true hN) h))
theorem fn_okTE (hw : wfP P = true) {T : List TI} (hT : tabOf P = T) {f : FuncId} {fn : Func} {c : Code} {args : List AV} {σ : Store} {R : AV → Store → Prop} (hf : P.funcs[f]? = some fn) (hn : (fn.name == "runtime.NumGoroutine") = false) (hb : fn.body = some c) (hN : Nat.ble args.length fn.ntmps = true)
  (h : E P fn.ntmps σ.n c (aret T fn fun r σ1 => ∃ r' σ', FinMove σ r σ1 r' σ' ∧ R r' σ') (initS 0 args) σ) : CallsAbs P f args σ R := by
 subst hT; exact .inl (Enters.fin (fn_okE hw hf hn hb (Nat.le_of_ble_eq_true hN) h))
theorem pure_okT (hw : wfP P = true) {T : List TI} (hT : tabOf P = T) {f : FuncId} {fn : Func} {c : Code} {args : List AV} {r : AV} (hf : P.funcs[f]? = some fn) (hn : (fn.name == "runtime.NumGoroutine") = false) (hb : fn.body = some c) (hN : Nat.ble args.length fn.ntmps = true) (ha : pureL args = true) (hr : r.pure = true)
  (h : awp T P fn.ntmps 0 c (aret T fn fun r1 σ1 => ∃ r2 σ2, FinMove ⟨0, []⟩ r1 σ1 r2 σ2 ∧ r2 = r) (initS 0 args) ⟨0, []⟩) : PureC P f args r := by
 subst hT
 refine PureC.of ha hr (.inl (Enters.fin ((fn_ok hw hf hn hb (Nat.le_of_ble_eq_true hN) h).mono fun r1 σ1 ⟨r2, σ2, hm, he⟩ => ?_)))
 subst he
 exact ⟨r2, ⟨0, []⟩, hm.trans (fin_view (σ0 := ⟨0, []⟩) [] ⟨Nat.zero_le _, rfl, rfl, trivial⟩ (vrel_self r2 hr)), rfl, rfl⟩
end
end Go.Aw

namespace Go.Aw
set_option linter.unusedVariables false
set_option linter.unusedSimpArgs false
section
variable {P : Program} {N B : Nat}
theorem bytesA_get (s : List UInt8) (i : Nat) (x : UInt8) (h : s[i]? = some x) : (bytesA s)[i]? = some [.d (.int .u8 x.toNat)] := by simp [bytesA, h]
theorem E.open {c : Code} {K : Exit → St → Store → Prop} {st : St} {σ : Store} {i : Nat} {T U : TypeId} {s : List UInt8} (ho : σ.get i = .bld T U s)
  (h : ∀ pv, (pv = .nilp ∨ pv = .ref i 0 0) → (s = [] → E P N B c K st ⟨σ.n, (i, .two T pv .nil) :: σ.objs⟩) ∧ (s ≠ [] → E P N B c K st ⟨σ.n + 1, (i, .two T pv (.own σ.n 0 s.length)) :: (σ.n, .rows (1, U) (bytesA s)) :: σ.objs⟩)) : E P N B c K st σ := fun g a w hB hT R => by
 have hi : i < g.n := by
  rcases Nat.lt_or_ge i g.n with h | h
  ·exact h
  ·have := R.dead i h; rw [ho] at this; cases this
 have hob := R.ob i hi
 rw [ho] at hob
 obtain ⟨hk, hz, hc, p, v, hw, hp, hv⟩ := hob
 have hget : ∀ (n : Nat) (o : Ob) (r : List (Nat × Ob)) (j : Nat), (Store.mk n ((i, o) :: r)).get j = if i = j then o else look .dead r j := fun n o r j => by simp only [Store.get, look_cons]
 rcases hv with ⟨rfl, rfl⟩ | ⟨b, cap, cs, fr, rfl, hne, hkb, hwb, hfz, hcs, hcap, hs, hcell⟩
 ·-- nothing written yet
  have go : ∀ pv, (pv = .nilp ∨ pv = .ref i 0 0) → RepA g w pv p → p.oneCell' = true → c.wp P (Post (P := P) N B g σ w K) a w := by
   intro pv hpv hrp hop
   have hR : StoreRel P g ⟨σ.n, (i, .two T pv .nil) :: σ.objs⟩ w := by
    refine ⟨R.n, R.lt, R.owner, fun j hj => ?_, fun j hj => ?_, R.glob⟩
    ·rw [hget, if_neg (by omega)]; exact R.dead j hj
    ·rw [hget]
     split
     ·rename_i e; subst e; exact ⟨hk, hz, hc, p, _, hw, hrp, .nil, hop, rfl⟩
     ·exact R.ob j hj
   have hX : ExtB B g σ w g ⟨σ.n, (i, .two T pv .nil) :: σ.objs⟩ w := by
    refine ⟨hB, fun _ _ => ⟨rfl, rfl, rfl⟩, fun j hj hd => ?_, Nat.le_refl _, fun _ _ _ => ⟨rfl, rfl⟩, rfl, rfl, rfl⟩
    rw [hget, if_neg (fun e => by subst e; rw [ho] at hd; cases hd)]; exact hd
   exact wp_mono ((h pv hpv).1 rfl g a w hB hT hR) fun e a' w' ⟨s2, σ2, g2, q1, q2, q3, q4⟩ => ⟨s2, σ2, g2, q1, q2, hX.trans q3, q4⟩
  rcases hp with rfl | rfl
  ·exact go _ (.inl rfl) .nilp rfl
  ·exact go _ (.inr rfl) (by simpa using RepA.ref (g := g) (w := w) i 0 0 hi) rfl
 ·-- the buffer becomes an object
  let g' : Ghost := ⟨g.n + 1, fun j => if j = g.n then b else g.blk j, fun j => if j = g.n then 1 else g.sz j, fun j => if j = g.n then cap else g.cap j, fun x => if x = b then .own g.n else g.kind x⟩
  have hK : Keeps g w g' w := ⟨by simp [g'], fun j hj => by simp [g', Nat.ne_of_lt hj], fun x hx => ⟨by
   have : x ≠ b := fun e => by subst e; rw [show g.kind x = .imm from hx] at hkb; cases hkb
   show g'.kind x = .imm
   simp [g', this]; exact hx, rfl⟩⟩
  have hbi : g'.kind (g'.blk i) = .own i := by
   have h1 : g'.blk i = g.blk i := (hK.place i hi).1
   rw [h1]
   simp [g', Ne.symm hne, hk]
  have go : ∀ pv, (pv = .nilp ∨ pv = .ref i 0 0) → RepA g w pv p → p.oneCell' = true → c.wp P (Post (P := P) N B g σ w K) a w := by
   intro pv hpv hrp hop
   have hR : StoreRel P g' ⟨σ.n + 1, (i, .two T pv (.own σ.n 0 s.length)) :: (σ.n, .rows (1, U) (bytesA s)) :: σ.objs⟩ w := by
    refine ⟨by simp [g', R.n], fun x hx => ?_, fun x j hx => ?_, fun j hj => ?_, fun j hj => ?_, glob_keep hK R.glob⟩
    ·by_cases hxb : x = b
     ·subst hxb; exact R.lt x (by rw [hkb]; intro q; cases q)
     ·simp [g', hxb] at hx; exact R.lt x hx
    ·by_cases hxb : x = b
     ·subst hxb; simp [g'] at hx ⊢; omega
     ·simp [g', hxb] at hx; have := R.owner x j hx; simp [g']; omega
    ·have hj' : g.n + 1 ≤ j := hj
     have hn := R.n
     rw [hget, if_neg (by omega), look_cons, if_neg (by omega)]; exact R.dead j (by omega)
    ·rw [hget]
     have hn := R.n
     split
     ·rename_i e; subst e
      refine ⟨hbi, by rw [(hK.place i hi).2.1]; exact hz, by rw [(hK.place i hi).2.2]; exact hc, p, _, by rw [(hK.place i hi).1]; exact hw, hrp.mono hK, ?_, hop, rfl⟩
      have : RepA g' w (.own g.n 0 s.length) (.slice (some ⟨g'.blk g.n, 0 * g'.sz g.n, none⟩) s.length cap) := .own g.n 0 _ cap (by simp [g']) (by simp [g']) hcap
      rw [hn]; simpa [g'] using this
     ·rw [look_cons]
      split
      ·rename_i e; subst e
       have hsz : g'.sz σ.n = 1 := by simp [g', hn]
       refine .inr ⟨by simp [g', hn], hsz, cs, fr, by simpa [g', hn] using hwb, hfz, by rw [hsz]; simp [g', hn, hcs], by simp [g', hn, bytesA]; exact hcap, fun r row hrow => ?_⟩
       rw [hsz]
       simp only [bytesA, List.getElem?_map] at hrow
       cases hx : s[r]? with
       | none => rw [hx] at hrow; cases hrow
       | some x =>
        rw [hx] at hrow; cases hrow
        refine ⟨rfl, fun j a ha => ?_⟩
        cases j with
        | zero => simp at ha; subst ha; exact ⟨.int .u8 x.toNat, by simpa using hcell r x hx, .d (.int _ _), rfl⟩
        | succ j => simp at ha
      ·rename_i hij hnj
       have hjn : j < g.n := by have : j < g.n + 1 := hj; omega
       refine (R.ob j hjn).mono hK hjn (fun x hx => ⟨?_, rfl⟩)
       have : x ≠ b := fun e => by subst e; rw [hkb] at hx; cases hx; exact hij rfl
       simp [g', this, hx]
   have hX : ExtB B g σ w g' ⟨σ.n + 1, (i, .two T pv (.own σ.n 0 s.length)) :: (σ.n, .rows (1, U) (bytesA s)) :: σ.objs⟩ w := by
    have hn := R.n
    refine ⟨by simp [g']; omega, fun j hj => hK.place j (by omega), fun j hj hd => ?_, Nat.le_refl _, fun x hx hox => ⟨?_, rfl⟩, rfl, rfl, rfl⟩
    ·rw [hget, if_neg (fun e => by subst e; rw [ho] at hd; cases hd), look_cons, if_neg (by omega)]; exact hd
    ·have : x ≠ b := fun e => by subst e; have := (hox i hkb).2; rw [ho] at this; cases this
     simp [g', this]
   exact wp_mono ((h pv hpv).2 hs g' a w hX.n (hT.mono hK) hR) fun e a' w' ⟨s2, σ2, g2, q1, q2, q3, q4⟩ => ⟨s2, σ2, g2, q1, q2, hX.trans q3, q4⟩
  rcases hp with rfl | rfl
  ·exact go _ (.inl rfl) .nilp rfl
  ·exact go _ (.inr rfl) (by simpa using RepA.ref (g := g) (w := w) i 0 0 hi) rfl
theorem fin_close0 {σ0 σ : Store} {r : AV} (i : Nat) (T U : TypeId) {pv : AV} (hpv : pv = .nilp ∨ pv = .ref i 0 0) (ho : σ.get i = .two T pv .nil) : FinMove σ0 r σ r ⟨σ.n, (i, .bld T U []) :: σ.objs⟩ := fun _ g0 g w0 w v R0 hE R hrep => by
 have hi : i < g.n := by
  rcases Nat.lt_or_ge i g.n with h | h
  ·exact h
  ·have := R.dead i h; rw [ho] at this; cases this
 have hob := R.ob i hi
 rw [ho] at hob
 obtain ⟨hk, hz, hc, x, y, hw, h1, h2, _⟩ := hob
 have hget : ∀ j, (Store.mk σ.n ((i, .bld T U []) :: σ.objs)).get j = if i = j then .bld T U [] else σ.get j := fun j => by simp only [Store.get, look_cons]
 refine ⟨g, ⟨hE.n, hE.place, fun j hj hd => ?_, hE.size, hE.keep, hE.os, hE.tape, hE.output⟩, ⟨R.n, R.lt, R.owner, fun j hj => ?_, fun j hj => ?_, R.glob⟩, hrep⟩
 ·have := hE.dead j hj hd
  rw [hget, if_neg (fun e => by subst e; rw [ho] at this; cases this)]; exact this
 ·rw [hget, if_neg (by omega)]; exact R.dead j hj
 ·rw [hget]
  split
  ·rename_i e; subst e
   cases h2
   refine ⟨hk, hz, hc, x, _, hw, ?_, .inl ⟨rfl, rfl⟩⟩
   rcases hpv with rfl | rfl
   ·cases h1; exact .inl rfl
   ·cases h1; exact .inr (by simp)
  ·exact R.ob j hj
theorem fin_close {σ0 σ : Store} {r : AV} (i j : Nat) (T U : TypeId) (s : List UInt8) {pv : AV} (hpv : pv = .nilp ∨ pv = .ref i 0 0) (ho : σ.get i = .two T pv (.own j 0 s.length)) (hj : σ.get j = .rows (1, U) (bytesA s)) (hs : s ≠ []) (hn : σ0.n ≤ j) (hr : r.pure = true) :
  FinMove σ0 r σ r ⟨σ.n, (i, .bld T U s) :: (j, .dead) :: σ.objs⟩ := fun _ g0 g w0 w v R0 hE R hrep => by
 have lt : ∀ k, σ.get k ≠ .dead → k < g.n := fun k hk => by
  rcases Nat.lt_or_ge k g.n with h | h
  ·exact h
  ·exact absurd (R.dead k h) hk
 have hi := lt i (by rw [ho]; intro q; cases q)
 have hjn := lt j (by rw [hj]; intro q; cases q)
 have hij : i ≠ j := fun e => by subst e; rw [ho] at hj; cases hj
 have hob := R.ob i hi
 rw [ho] at hob
 obtain ⟨hk, hz, hc, x, y, hw, h1, h2, _⟩ := hob
 have hobj := R.ob j hjn
 rw [hj] at hobj
 obtain ⟨s0, hs0⟩ : ∃ x, s[0]? = some x := by
  cases s with
  | nil => exact absurd rfl hs
  | cons a r => exact ⟨a, rfl⟩
 have hrow0 := bytesA_get s 0 s0 hs0
 obtain ⟨jk, jz, cs, fr, jw, jf, js, jl, jr⟩ := hobj.at hrow0
 have hget : ∀ k, (Store.mk σ.n ((i, .bld T U s) :: (j, .dead) :: σ.objs)).get k = if i = k then .bld T U s else if j = k then .dead else σ.get k := fun k => by simp only [Store.get, look_cons]
 let g' : Ghost := { g with kind := fun x => if x = g.blk j then .own i else g.kind x }
 have hne : g.blk j ≠ g.blk i := fun e => by rw [e, hk] at jk; cases jk; exact hij rfl
 have hK : Keeps g w g' w := ⟨Nat.le_refl _, fun _ _ => ⟨rfl, rfl, rfl⟩, fun x hx => ⟨by
  have : x ≠ g.blk j := fun e => by subst e; rw [show g.kind (g.blk j) = .imm from hx] at jk; cases jk
  show g'.kind x = .imm
  simp [g', this]; exact hx, rfl⟩⟩
 refine ⟨g', ⟨hE.n, hE.place, fun k hk hd => ?_, hE.size, fun b hb hob => ?_, hE.os, hE.tape, hE.output⟩, ⟨R.n, fun b hb => ?_, fun b k hb => ?_, fun k hk => ?_, fun k hk' => ?_, glob_keep hK R.glob⟩, hrep.mono hK⟩
 ·have := hE.dead k hk hd
  rw [hget, if_neg (fun e => by subst e; rw [ho] at this; cases this)]
  split
  ·rfl
  ·exact this
 ·obtain ⟨q1, q2⟩ := hE.keep b hb hob
  refine ⟨?_, q2⟩
  have : b ≠ g.blk j := fun e => by
   subst e
   rw [jk] at q1
   have hbb := R0.owner (g.blk j) j q1.symm
   rw [← R0.n] at hbb
   omega
  simp [g', this, q1]
 ·by_cases hbj : b = g.blk j
  ·subst hbj; exact R.lt _ (by rw [jk]; intro q; cases q)
  ·simp [g', hbj] at hb; exact R.lt b hb
 ·by_cases hbj : b = g.blk j
  ·subst hbj; simp [g'] at hb; rw [← hb]; exact hi
  ·simp [g', hbj] at hb; exact R.owner b k hb
 ·have hk' : g.n ≤ k := hk
  rw [hget, if_neg (by omega), if_neg (by omega)]; exact R.dead k hk'
 ·rw [hget]
  split
  ·rename_i e; subst e
   have h2' := h2
   generalize hln : s.length = ln at h2'
   cases h2' with
   | own0 => exact absurd (List.length_eq_zero_iff.1 hln) hs
   | own _ _ _ cap _ hcap hl =>
   subst hln
   refine ⟨by simp only [g', if_neg (Ne.symm hne)]; exact hk, hz, hc, x, _, hw, ?_, .inr ⟨g.blk j, cap, cs, fr, by simp, hne, by simp [g'], jw, jf, by rw [js, jz, ← hcap]; omega, hl, hs, fun k x hx => ?_⟩⟩
   ·rcases hpv with rfl | rfl
    ·cases h1; exact .inl rfl
    ·cases h1; exact .inr (by simp [g'])
   ·obtain ⟨_, q2⟩ := jr k _ (bytesA_get s k x hx)
    obtain ⟨u, hu, hru, _⟩ := q2 0 _ rfl
    have := repA_int hru
    subst this
    rw [jz] at hu
    simpa using hu
  ·split
   ·trivial
   ·rename_i hik hjk
    refine (R.ob k hk').mono hK hk' (fun b hb => ⟨?_, rfl⟩)
    have : b ≠ g.blk j := fun e => by subst e; rw [jk] at hb; cases hb; exact hjk rfl
    simp [g', this, hb]
end
end Go.Aw

