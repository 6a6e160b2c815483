/- What is proved here serves the claim: the walk over the code and the plain laws, part 6 of 18. -/
import Derived.Test.YthngplknbbcecaaGreatDoorPkSnp5
import Derived.Lib.Builder
import Derived.Scope
namespace Go.Aw
set_option linter.unusedVariables false
set_option linter.unusedSimpArgs false
section
variable {P : Program}
theorem rep_ref0 {g : Ghost} {w : World} {vs : List Value} (hL : RepL g w [.ref 0 0 0] vs) : vs = [.pointer (some ⟨g.blk 0, 0, none⟩)] := by
 obtain ⟨v, r, rfl, h1, h2⟩ := hL.uncons
 rw [h2.unnil]
 cases h1
 simp
theorem copyCheck_abs {f : FuncId} {T U : TypeId} (hc : Callable P f)
  (hused : ∀ (b : Nat) (w : World), w.cell? ⟨b, 0, none⟩ = some (.pointer (some ⟨b, 0, none⟩)) → Calls P f #[.pointer (some ⟨b, 0, none⟩)] w fun e w' => e = .returned (.tuple #[]) ∧ w' = w)
  (hfresh : ∀ (b : Nat) (w : World), w.cell? ⟨b, 0, none⟩ = some (.pointer none) → w.shape? b = some (T, 2) → w.frozen? ⟨b, 0, none⟩ = false →
   Calls P f #[.pointer (some ⟨b, 0, none⟩)] w fun e w' => e = .returned (.tuple #[]) ∧ w' = w.setCell ⟨b, 0, none⟩ (.pointer (some ⟨b, 0, none⟩))) (s : List UInt8) :
  CallsAbs P f [.ref 0 0 0] ⟨1, [(0, .bld T U s)]⟩ fun r σ' => r = .tup [] ∧ σ' = ⟨1, [(0, .bld T U s)]⟩ := by
 refine .inl ⟨hc, fun g w vs R hL => ?_⟩
 rw [rep_ref0 hL]
 have hn : g.n = 1 := R.n.symm
 have hi : 0 < g.n := by omega
 have hob : BldAt g w 0 T U s := R.ob 0 hi
 obtain ⟨hk, hz, hcp, p, v, hw, hp, hv⟩ := hob
 have hc0 : w.cell? ⟨g.blk 0, 0, none⟩ = some p := by rw [Lib.cell_of_heap hw]; rfl
 rcases hp with rfl | rfl
 ·refine (hfresh (g.blk 0) w hc0 (by simp [World.shape?, hw]) (Lib.frozen_of_heap hw 0)).mono fun e w' ⟨he, hw'⟩ => ?_
  have hw'' : w' = w.setCells (g.blk 0) 0 [.pointer (some ⟨g.blk 0, 0, none⟩)] := hw'
  obtain ⟨s1, s2, s3, s4, _⟩ := setCells_same (g.blk 0) [.pointer (some ⟨g.blk 0, 0, none⟩)] 0 w
  have hheap := heap_setCells (g.blk 0) [.pointer (some ⟨g.blk 0, 0, none⟩)] 0 w #[.pointer none, v] T (0, 0) hw (by simp)
  have hother : ∀ b, b ≠ g.blk 0 → (w.setCells (g.blk 0) 0 [.pointer (some ⟨g.blk 0, 0, none⟩)]).heap[b]? = w.heap[b]? := fun b hb => heap_setCells_ne _ hb _ _ _
  subst hw''
  have hR := set_ok R 0 (.bld T U s) hi (by intro q; cases q) (w' := w.setCells (g.blk 0) 0 [.pointer (some ⟨g.blk 0, 0, none⟩)])
   (fun b hb => hother b (fun e => hb (e ▸ hk))) s1 s2 s3 s4 (by
    refine ⟨hk, hz, hcp, .pointer (some ⟨g.blk 0, 0, none⟩), v, by rw [hheap]; simp, .inr rfl, ?_⟩
    rcases hv with hv | ⟨b, cap, c, fr, q1, q2, q3, q4, q5⟩
    ·exact .inl hv
    ·exact .inr ⟨b, cap, c, fr, q1, q2, q3, by rw [hother b q2]; exact q4, q5⟩)
  refine ⟨_, g, ⟨1, [(0, .bld T U s)]⟩, .tup [], he, ?_, ?_, .tup [] #[] rfl (by simp), rfl, rfl⟩
  ·have := hR.1
   exact ⟨this.n, this.place, fun i hi hd => by
    by_cases h0 : 0 = i
    ·subst h0; cases hd
    ·exact hd, this.size, this.keep, this.os, this.tape, this.output⟩
  ·have := hR.2
   refine ⟨R.n, this.lt, this.owner, R.dead, fun i hi => ?_, this.glob⟩
   have h0 := this.ob i hi
   have hi0 : i = 0 := by omega
   subst hi0
   exact h0
 ·refine (hused (g.blk 0) w hc0).mono fun e w' ⟨he, hw'⟩ => ?_
  subst hw'
  exact ⟨_, g, _, .tup [], he, Ext.refl _ _ _, R, .tup [] #[] rfl (by simp), rfl, rfl⟩
theorem all_dead {g : Ghost} {w' : World} {n : Nat} (hn : n = g.n) (lt : ∀ b, g.kind b ≠ .free → b < w'.heap.size) (owner : ∀ b i, g.kind b = .own i → i < g.n) (glob : ∀ h, Gl P h → g.imm h ∧ ∃ m, w'.cell? ⟨h, 0, none⟩ = some (.int .i64 m)) : StoreRel P g ⟨n, []⟩ w' :=
 ⟨hn, lt, owner, fun _ _ => rfl, fun _ _ => trivial, glob⟩
theorem glob_same {g : Ghost} {w w' : World} (h : ∀ b, g.imm b → w'.heap[b]? = w.heap[b]?) (k : ∀ h, Gl P h → g.imm h ∧ ∃ m, w.cell? ⟨h, 0, none⟩ = some (.int .i64 m)) : ∀ h, Gl P h → g.imm h ∧ ∃ m, w'.cell? ⟨h, 0, none⟩ = some (.int .i64 m) :=
 glob_keep (g := g) (g' := g) ⟨Nat.le_refl _, fun _ _ => ⟨rfl, rfl, rfl⟩, fun b hb => ⟨hb, h b hb⟩⟩ k
theorem String_abs {f : FuncId} {T U : TypeId} (hc : Callable P f)
  (hnil : ∀ (b : Nat) (p : Value) (w : World), w.heap[b]? = some (.cells #[p, .slice none 0 0] T (0, 0)) → Calls P f #[.pointer (some ⟨b, 0, none⟩)] w fun e w' => e = .returned (.string ⟨#[]⟩) ∧ w' = w.drew)
  (hrow : ∀ (b g cap : Nat) (p : Value) (l : List UInt8) (cur : Array Value) (fr : Nat × Nat) (w : World), l ≠ [] → l.length ≤ cap → l.length ≤ 9223372036854775807 →
   w.heap[b]? = some (.cells #[p, .slice (some ⟨g, 0, none⟩) l.length cap] T (0, 0)) → w.heap[g]? = some (.cells cur U fr) → l.length ≤ cur.size → (∀ (j : Nat) x, l[j]? = some x → cur[j]? = some (.int .u8 x.toNat)) →
   Calls P f #[.pointer (some ⟨b, 0, none⟩)] w fun e w' => e = .returned (.string ⟨l.toArray⟩) ∧ w' = w.drew.freeze ⟨g, 0, none⟩ l.length) (s : List UInt8) (hs : s.length ≤ 9223372036854775807) :
  CallsAbs P f [.ref 0 0 0] ⟨1, [(0, .bld T U s)]⟩ fun r σ' => r = .d (.str s) ∧ σ' = ⟨1, []⟩ := by
 refine .inl ⟨hc, fun g w vs R hL => ?_⟩
 rw [rep_ref0 hL]
 have hn : g.n = 1 := R.n.symm
 have hi : 0 < g.n := by omega
 have hob : BldAt g w 0 T U s := R.ob 0 hi
 obtain ⟨hk, hz, hcp, p, v, hw, hp, hv⟩ := hob
 have ext : ∀ w' : World, w'.heap.size = w.heap.size → w'.os = w.os → w'.tape = w.tape → w'.output = w.output → (∀ b, g.kind b ≠ .own 0 → w'.heap[b]? = w.heap[b]?) → Ext g ⟨1, [(0, .bld T U s)]⟩ w g ⟨1, []⟩ w' := by
  intro w' h1 h2 h3 h4 h5
  refine ⟨Nat.le_refl _, fun _ _ => ⟨rfl, rfl, rfl⟩, fun _ _ _ => rfl, by omega, fun b hb ho => ⟨rfl, h5 b (fun h0 => ?_)⟩, h2, h3, h4⟩
  have := ho 0 h0
  cases this
 rcases hv with ⟨rfl, rfl⟩ | ⟨b, cap, c, fr, rfl, hne, hkb, hwb, hfz, hcs, hcap, hs0, hcell⟩
 ·refine (hnil (g.blk 0) p w hw).mono fun e w' ⟨he, hw'⟩ => ?_
  subst hw'
  exact ⟨_, g, ⟨1, []⟩, .d (.str []), he, ext _ rfl rfl rfl rfl (fun _ _ => rfl), all_dead hn.symm R.lt R.owner R.glob, .d (.str []), rfl, rfl⟩
 ·refine (hrow (g.blk 0) b cap p s c fr w hs0 hcap hs hw hwb (by omega) hcell).mono fun e w' ⟨he, hw'⟩ => ?_
  have hsize : (w.drew.freeze ⟨b, 0, none⟩ s.length).heap.size = w.heap.size := by
   unfold World.freeze
   split
   ·rfl
   ·simp
  have hoth : ∀ x, x ≠ b → (w.drew.freeze ⟨b, 0, none⟩ s.length).heap[x]? = w.heap[x]? := by
   intro x hx
   unfold World.freeze
   split
   ·rfl
   ·simp only [Array.getElem?_modify, if_neg (Ne.symm hx)]; rfl
  subst hw'
  refine ⟨_, g, ⟨1, []⟩, .d (.str s), he, ext _ hsize ?_ ?_ ?_ (fun x hx => hoth x (fun e => hx (e ▸ hkb))), all_dead hn.symm (fun x hx => by rw [hsize]; exact R.lt x hx) R.owner (glob_same (w := w) (fun x hx => hoth x (fun e => by subst e; rw [show g.kind x = .imm from hx] at hkb; cases hkb)) R.glob), .d (.str s), rfl, rfl⟩ <;>
   ·unfold World.freeze; split <;> rfl
variable {N B : Nat}
theorem scopeE {c : Code} {K : Exit → St → Store → Prop} {s : St} {σ : Store} (h : E P N B c (fun e s σ => match e with | .goto _ => False | e => K e s σ) s σ) : E P N B (.scope c) K s σ := fun g a w hB hS R => by
 refine wp_scope_straight (wp_mono (h g a w hB hS R) fun e a' w' ⟨s', σ', g', h1, h2⟩ => ?_)
 cases e with
 | goto l => exact h1.elim
 | _ => exact ⟨s', σ', g', h1, h2⟩
theorem scopeJ {c : Code} {K : Exit → St → Store → Prop} (J : Nat → Nat → St → Store → Prop)
  (pass : ∀ l n s σ, J l n s σ → ∃ r, findLabel c l = some r ∧ E P N B r (fun e s' σ' => match e with | .goto l' => ∃ n' s'' σ'', J l' n' s'' σ'' ∧ n' < n ∧ Mv B s' σ' s'' σ'' | e => K e s' σ') s σ)
  {s : St} {σ : Store} (first : E P N B c (fun e s' σ' => match e with | .goto l' => ∃ n' s'' σ'', J l' n' s'' σ'' ∧ Mv B s' σ' s'' σ'' | e => K e s' σ') s σ) : E P N B (.scope c) K s σ := fun g a w hB hT R => by
 have key : ∀ n l (s : St) (σ : Store) (g1 : Ghost) (a1 : Act) (w1 : World), J l n s σ → B ≤ g1.n → RelT N g1 w1 s a1 → StoreRel P g1 σ w1 → ∀ r, findLabel c l = some r →
   ∀ (b : Frame) (k : List Item) (cs : List Frame), ∃ e a' w', Post (P := P) N B g1 σ w1 K e a' w' ∧ Arrives P (lone (b.at a1 (.code r :: .inScope c :: k)) cs w1) b k cs e a' w' := by
  intro n
  induction n using Nat.strongRecOn with
  | _ n ih =>
   intro l s σ g1 a1 w1 hJ hB1 hT1 R1 r0 hr0 b k cs
   obtain ⟨r, hr, hE0⟩ := pass l n s σ hJ
   rw [hr0] at hr; cases hr
   obtain ⟨e, a', w', ⟨s', σ', g', q1, q2, q3, q4⟩, harr⟩ := hE0 g1 a1 w1 hB1 hT1 R1 b (.inScope c :: k) cs
   cases e with
   | normal => exact ⟨.normal, a', w', ⟨s', σ', g', q1, q2, q3, q4⟩, Steps.trans harr (.one step_inScope)⟩
   | exit id => exact ⟨.exit id, a', w', ⟨s', σ', g', q1, q2, q3, q4⟩, fun k' hk => harr k' (by simp [exitTo, hk])⟩
   | goto l' =>
    obtain ⟨n', s'', σ'', hJ', hlt, x, hv, hs⟩ := q1
    have hE := view_ext q4 hv
    obtain ⟨r', hr', _⟩ := pass l' n' s'' σ'' hJ'
    obtain ⟨e2, a2, w2, ⟨s2, σ2, g2, p1, p2, p3, p4⟩, harr2⟩ := ih n' hlt l' s'' σ'' (g'.view B x) a' w' hJ' hE.n (q2.view hs) (view_store q4 hv) r' hr' b k cs
    exact ⟨e2, a2, w2, ⟨s2, σ2, g2, p1, p2, (q3.trans hE).trans p3, p4⟩, .of_steps (harr _ (by simp [gotoIn, hr'])) harr2⟩
   | ret => exact ⟨_, a', w', ⟨s', σ', g', q1, q2, q3, q4⟩, harr⟩
   | panic ch => exact ⟨_, a', w', ⟨s', σ', g', q1, q2, q3, q4⟩, harr⟩
   | outgrown => exact ⟨_, a', w', ⟨s', σ', g', q1, q2, q3, q4⟩, harr⟩
 intro b k cs
 obtain ⟨e, a', w', ⟨s', σ', g', q1, q2, q3, q4⟩, harr⟩ := first g a w hB hT R b (.inScope c :: k) cs
 cases e with
 | normal => exact ⟨.normal, a', w', ⟨s', σ', g', q1, q2, q3, q4⟩, .head step_scope (Steps.trans harr (.one step_inScope))⟩
 | exit id => exact ⟨.exit id, a', w', ⟨s', σ', g', q1, q2, q3, q4⟩, fun k' hk => .head step_scope (harr k' (by simp [exitTo, hk]))⟩
 | goto l' =>
  obtain ⟨n', s'', σ'', hJ', x, hv, hs⟩ := q1
  have hE := view_ext q4 hv
  obtain ⟨r', hr', _⟩ := pass l' n' s'' σ'' hJ'
  obtain ⟨e2, a2, w2, ⟨s2, σ2, g2, p1, p2, p3, p4⟩, harr2⟩ := key n' l' s'' σ'' (g'.view B x) a' w' hJ' hE.n (q2.view hs) (view_store q4 hv) r' hr' b k cs
  exact ⟨e2, a2, w2, ⟨s2, σ2, g2, p1, p2, (q3.trans hE).trans p3, p4⟩, .of_steps (.head step_scope (harr _ (by simp [gotoIn, hr']))) harr2⟩
 | ret => exact ⟨_, a', w', ⟨s', σ', g', q1, q2, q3, q4⟩, .of_steps (.one step_scope) harr⟩
 | panic ch => exact ⟨_, a', w', ⟨s', σ', g', q1, q2, q3, q4⟩, .of_steps (.one step_scope) harr⟩
 | outgrown => exact ⟨_, a', w', ⟨s', σ', g', q1, q2, q3, q4⟩, .of_steps (.one step_scope) harr⟩
theorem midE {x y : Code} {K : Exit → St → Store → Prop} {s : St} {σ : Store} (Q : St → Store → Prop)
  (h1 : E P N B x (fun e s σ => match e with | .normal => ∃ s' σ', Q s' σ' ∧ Mv B s σ s' σ' | e => K e s σ) s σ) (h2 : ∀ s σ, Q s σ → E P N B y K s σ) : E P N B (.seq x y) K s σ := by
 refine E.seq (h1.mono fun e s σ h => ?_)
 cases e with
 | normal =>
  obtain ⟨s', σ', hQ, hm⟩ := h
  exact (h2 s' σ' hQ).view hm
 | _ => exact h
theorem blockE {id : Nat} {c : Code} {K : Exit → St → Store → Prop} {s : St} {σ : Store} (h : E P N B c (fun e s σ => match e with
  | .exit j => (match Nat.beq j id with | true => K .normal s σ | false => K (.exit j) s σ)
  | e => K e s σ) s σ) : E P N B (.block id c) K s σ := fun g a w hB hT R => by
 refine wp_block (wp_mono (h g a w hB hT R) fun e a' w' ⟨s', σ', g', h1, h2, h3, h4⟩ => ?_)
 cases e with
 | exit j =>
  dsimp only at h1
  split at h1
  ·rename_i hj
   have := Nat.eq_of_beq_eq_true hj
   subst this
   simp only [Exit.inBlock, if_true]
   exact ⟨s', σ', g', h1, h2, h3, h4⟩
  ·rename_i hj
   have hne : j ≠ id := fun e => by subst e; rw [Nat.beq_refl] at hj; cases hj
   simp only [Exit.inBlock, hne, if_false]
   exact ⟨s', σ', g', h1, h2, h3, h4⟩
 | _ => exact ⟨s', σ', g', h1, h2, h3, h4⟩
theorem midT (hw : wfP P = true) {T : List TI} (hT : tabOf P = T) {x y : Code} {K : Exit → St → Store → Prop} {s : St} {σ : Store} (Q : St → Store → Prop)
  (h1 : awp T P N B x (fun e s σ => match e with | .normal => ∃ s' σ', Q s' σ' ∧ Mv B s σ s' σ' | e => K e s σ) s σ) (h2 : ∀ s σ, Q s σ → E P N B y K s σ) : E P N B (.seq x y) K s σ :=
 midE Q (E.of hw hT h1) h2
theorem CallsAbs.args {f : FuncId} {args args' : List AV} {σ σ' : Store} {K : AV → Store → Prop} (h : CallsAbs P f args' σ' K)
  (hm : ∀ (g : Ghost) (w : World) (vs : List Value), StoreRel P g σ w → RepL g w args vs → ∃ g', Ext g σ w g' σ' w ∧ StoreRel P g' σ' w ∧ RepL g' w args' vs) : CallsAbs P f args σ K := by
 rcases h with h | ⟨fn, e, h1, h2, h3, h4, h5, h6⟩
 ·refine .inl ⟨h.1, fun g w vs hS hL => ?_⟩
  obtain ⟨g', hE, hS', hL'⟩ := hm g w vs hS hL
  exact (h.2 g' w vs hS' hL').mono fun e w' ⟨v, g2, σ2, r, q1, q2, q3, q4, q5⟩ => ⟨v, g2, σ2, r, q1, hE.trans hS q2, q3, q4, q5⟩
 ·refine .inr ⟨fn, e, h1, h2, h3, h4, h5, fun g w vs hS hL => ?_⟩
  obtain ⟨g', hE, hS', hL'⟩ := hm g w vs hS hL
  have := h6 g' w vs hS' hL'
  cases hr : (e vs.toArray).run P w with
  | ok v w' => rw [hr] at this; obtain ⟨g2, σ2, r, q2, q3, q4, q5⟩ := this; exact ⟨g2, σ2, r, hE.trans hS q2, q3, q4, q5⟩
  | halt x w' => rw [hr] at this; exact this.elim
theorem CallsAbs.freeze {f : FuncId} {args : List AV} {σ : Store} {K : AV → Store → Prop} (i : Nat) {sz : Nat × Nat} {rs : List (List AV)} {ds : List (List D)} (ho : σ.get i = .rows sz rs) (hds : rowsD rs = some ds) (hle : frzOkL i rs.length args)
  (h : CallsAbs P f (frzL i ds args) (σ.set i .dead) K) : CallsAbs P f args σ K := by
 refine h.args fun g w vs R hL => ?_
 obtain ⟨g', q1, q2, q3⟩ := fin_freeze (σ0 := σ) (r := .agg args) i ho hds hle _ g g w w (.agg vs.toArray) R (Ext.refl g σ w) R (repL_agg (by simpa using hL))
 refine ⟨g', q1, q2, ?_⟩
 cases q3 with
 | agg _ cs hl hx => exact ⟨by simpa using hl, fun j a v ha hv => hx j a v ha (by simpa using hv)⟩
theorem CallsAbs.sub {f : FuncId} {args args' : List AV} {σ : Store} {K : AV → Store → Prop} (hs : Sub (.agg args) (.agg args')) (h : CallsAbs P f args' σ K) : CallsAbs P f args σ K := by
 refine h.args fun g w vs R hL => ⟨g, Ext.refl g σ w, R, ?_⟩
 have := hs g w (.agg vs.toArray) (repL_agg (by simpa using hL))
 cases this with
 | agg _ cs hl hx => exact ⟨by simpa using hl, fun j a v ha hv => hx j a v ha (by simpa using hv)⟩
end
end Go.Aw

