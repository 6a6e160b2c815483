/- What is proved here serves the claim: the walk over the code and the plain laws, part 6 of 16. -/
import Derived.Test.YtkgdplfcanonhaaDoorPkSty5
import Derived.Lib.Builder
import Derived.Scope
namespace Go.Aw
set_option linter.unusedVariables false
set_option linter.unusedSimpArgs false
section
variable {P : Program}
theorem rep_ref0 {g : Ghost} {w : World} {vs : List Value} (hL : RepL g w [.ref 0 0 0] vs) : vs = [.pointer (some ⟨g.blk 0, 0, none⟩)] := by
  obtain ⟨v, r, rfl, h1, h2⟩ := hL.uncons
  rw [h2.unnil]
  cases h1
  simp
theorem all_dead {g : Ghost} {w' : World} {n : Nat} (hn : n = g.n) (lt : ∀ b, g.kind b ≠ .free → b < w'.heap.size) (owner : ∀ b i, g.kind b = .own i → i < g.n) (glob : ∀ h, Gl P h → g.imm h ∧ ∃ m, w'.cell? ⟨h, 0, none⟩ = some (.int .i64 m)) : StoreRel P g ⟨n, []⟩ w' :=
  ⟨hn, lt, owner, fun _ _ => rfl, fun _ _ => trivial, glob⟩
theorem glob_same {g : Ghost} {w w' : World} (h : ∀ b, g.imm b → w'.heap[b]? = w.heap[b]?) (k : ∀ h, Gl P h → g.imm h ∧ ∃ m, w.cell? ⟨h, 0, none⟩ = some (.int .i64 m)) : ∀ h, Gl P h → g.imm h ∧ ∃ m, w'.cell? ⟨h, 0, none⟩ = some (.int .i64 m) :=
  glob_keep (g := g) (g' := g) ⟨Nat.le_refl _, fun _ _ => ⟨rfl, rfl, rfl⟩, fun b hb => ⟨hb, h b hb⟩⟩ k
variable {N B : Nat}
/-- One thing behind another, and what holds between. -/
theorem midE {x y : Code} {K : Exit → St → Store → Prop} {s : St} {σ : Store} (Q : St → Store → Prop)
    (h1 : E P N B x (fun e s σ => match e with | .normal => ∃ s' σ', Q s' σ' ∧ Mv B s σ s' σ' | e => K e s σ) s σ) (h2 : ∀ s σ, Q s σ → E P N B y K s σ) : E P N B (.seq x y) K s σ := by
  refine E.seq (h1.mono fun e s σ h => ?_)
  cases e with
  | normal =>
    obtain ⟨s', σ', hQ, hm⟩ := h
    exact (h2 s' σ' hQ).view hm
  | _ => exact h
theorem midT (hw : wfP P = true) {T : List TI} (hT : tabOf P = T) {x y : Code} {K : Exit → St → Store → Prop} {s : St} {σ : Store} (Q : St → Store → Prop)
    (h1 : awp T P N B x (fun e s σ => match e with | .normal => ∃ s' σ', Q s' σ' ∧ Mv B s σ s' σ' | e => K e s σ) s σ) (h2 : ∀ s σ, Q s σ → E P N B y K s σ) : E P N B (.seq x y) K s σ :=
  midE Q (E.of hw hT h1) h2
/-- Arguments told otherwise. -/
theorem CallsAbs.args {f : FuncId} {args args' : List AV} {σ σ' : Store} {K : AV → Store → Prop} (h : CallsAbs P f args' σ' K)
    (hm : ∀ (g : Ghost) (w : World) (vs : List Value), StoreRel P g σ w → RepL g w args vs → ∃ g', Ext g σ w g' σ' w ∧ StoreRel P g' σ' w ∧ RepL g' w args' vs) : CallsAbs P f args σ K := by
  rcases h with h | ⟨fn, e, h1, h2, h3, h4, h5, h6⟩
  · refine .inl ⟨h.1, fun g w vs hS hL => ?_⟩
    obtain ⟨g', hE, hS', hL'⟩ := hm g w vs hS hL
    exact (h.2 g' w vs hS' hL').mono fun e w' ⟨v, g2, σ2, r, q1, q2, q3, q4, q5⟩ => ⟨v, g2, σ2, r, q1, hE.trans hS q2, q3, q4, q5⟩
  · refine .inr ⟨fn, e, h1, h2, h3, h4, h5, fun g w vs hS hL => ?_⟩
    obtain ⟨g', hE, hS', hL'⟩ := hm g w vs hS hL
    have := h6 g' w vs hS' hL'
    cases hr : (e vs.toArray).run P w with
    | ok v w' => rw [hr] at this; obtain ⟨g2, σ2, r, q2, q3, q4, q5⟩ := this; exact ⟨g2, σ2, r, hE.trans hS q2, q3, q4, q5⟩
    | halt x w' => rw [hr] at this; exact this.elim
/-- An object is frozen ahead of a call. -/
theorem CallsAbs.freeze {f : FuncId} {args : List AV} {σ : Store} {K : AV → Store → Prop} (i : Nat) {sz : Nat × Nat} {rs : List (List AV)} {ds : List (List D)} (ho : σ.get i = .rows sz rs) (hds : rowsD rs = some ds) (hle : frzOkL i rs.length args)
    (h : CallsAbs P f (frzL i ds args) (σ.set i .dead) K) : CallsAbs P f args σ K := by
  refine h.args fun g w vs R hL => ?_
  obtain ⟨g', q1, q2, q3⟩ := fin_freeze (σ0 := σ) (r := .agg args) i ho hds hle _ g g w w (.agg vs.toArray) R (Ext.refl g σ w) R (repL_agg (by simpa using hL))
  refine ⟨g', q1, q2, ?_⟩
  cases q3 with
  | agg _ cs hl hx => exact ⟨by simpa using hl, fun j a v ha hv => hx j a v ha (by simpa using hv)⟩
/-- Plainer arguments. -/
theorem CallsAbs.sub {f : FuncId} {args args' : List AV} {σ : Store} {K : AV → Store → Prop} (hs : Sub (.agg args) (.agg args')) (h : CallsAbs P f args' σ K) : CallsAbs P f args σ K := by
  refine h.args fun g w vs R hL => ⟨g, Ext.refl g σ w, R, ?_⟩
  have := hs g w (.agg vs.toArray) (repL_agg (by simpa using hL))
  cases this with
  | agg _ cs hl hx => exact ⟨by simpa using hl, fun j a v ha hv => hx j a v ha (by simpa using hv)⟩
end
end Go.Aw
