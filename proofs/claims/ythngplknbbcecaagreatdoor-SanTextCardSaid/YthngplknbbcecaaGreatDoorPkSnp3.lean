/- What is proved here serves the claim: the walk over the code and the plain laws, part 3 of 18. -/
import Derived.Test.YthngplknbbcecaaGreatDoorPkSnp2
import Derived.Laws.IdiomCopy
import Derived.Laws.IdiomStrings
import Derived.Lib.ConvBytes
import Derived.Great.BuildSlice
import Derived.Laws.MakeOwn
namespace Go.Aw
set_option linter.unusedVariables false
set_option linter.unusedSimpArgs false
section
variable {P : Program}
def Ghost.grow (g : Ghost) (b sz cap : Nat) : Ghost :=
 { n := g.n + 1, blk := fun i => if i = g.n then b else g.blk i, sz := fun i => if i = g.n then sz else g.sz i, cap := fun i => if i = g.n then cap else g.cap i, kind := fun x => if x = b then .own g.n else g.kind x }
theorem grow_keeps {g : Ghost} {σ : Store} {w w' : World} (R : StoreRel P g σ w) {b sz cap : Nat} (hb : ¬ g.imm b) (h : ∀ x, g.imm x → w'.heap[x]? = w.heap[x]?) : Keeps g w (g.grow b sz cap) w' := by
 refine ⟨by simp [Ghost.grow], fun i hi => ?_, fun x hx => ⟨?_, h x hx⟩⟩
 ·simp [Ghost.grow, Nat.ne_of_lt hi]
 ·have : x ≠ b := fun e => hb (e ▸ hx)
  simp only [Ghost.imm, Ghost.grow, this, if_false]
  exact hx
theorem add_ok {g : Ghost} {σ : Store} {w w' : World} (R : StoreRel P g σ w) (o : Ob) (sz cap : Nat) (hheap : ∀ b, b < w.heap.size → w'.heap[b]? = w.heap[b]?) (hsize : w'.heap.size = w.heap.size + 1)
  (os : w'.os = w.os) (tape : w'.tape = w.tape) (output : w'.output = w.output) (hob : ObRel (g.grow w.heap.size sz cap) w' g.n o) :
  Ext g σ w (g.grow w.heap.size sz cap) (σ.add o) w' ∧ StoreRel P (g.grow w.heap.size sz cap) (σ.add o) w' := by
 have hfree : ∀ b, g.kind b ≠ .free → b ≠ w.heap.size := fun b hb e => by have := R.lt b hb; omega
 have himm : ∀ b, g.imm b → b ≠ w.heap.size := fun b hb => hfree b (by rw [show g.kind b = .imm from hb]; intro e; cases e)
 have hk : Keeps g w (g.grow w.heap.size sz cap) w' := grow_keeps R (fun h => himm _ h rfl) (fun x hx => hheap x (R.lt x (by rw [show g.kind x = .imm from hx]; intro e; cases e)))
 have hget : ∀ i, (σ.add o).get i = if σ.n = i then o else σ.get i := fun i => by simp only [Store.get, Store.add, look_cons]
 refine ⟨⟨hk.n, hk.place, fun i hi hd => ?_, by omega, fun b hb ho => ?_, os, tape, output⟩, ?_⟩
 ·rw [hget, if_neg (by rw [R.n]; omega)]; exact hd
 ·exact ⟨by simp [Ghost.grow, Nat.ne_of_lt hb], hheap b hb⟩
 ·refine StoreRel.step R (by simp [Ghost.grow, R.n]) hk (fun b hb => ?_) (fun b i hb => ?_) (fun i hi => ?_) (fun _ => False) (fun i hi _ => ⟨?_, .inr fun b hb => ⟨?_, ?_⟩⟩) (fun i hi hi' => ?_)
  ·simp only [Ghost.grow] at hb
   split at hb
   ·rename_i e; omega
   ·have := R.lt b hb; omega
  ·simp only [Ghost.grow] at hb ⊢
   split at hb
   ·cases hb; omega
   ·have := R.owner b i hb; omega
  ·simp only [Ghost.grow] at hi
   rw [hget, if_neg (by rw [R.n]; omega)]
   exact R.dead i (by omega)
  ·rw [hget, if_neg (by rw [R.n]; omega)]
  ·have : b ≠ w.heap.size := hfree b (by rw [hb]; intro e; cases e)
   simp [Ghost.grow, this, hb]
  ·exact hheap b (R.lt b (by rw [hb]; intro e; cases e))
  ·have hin : i = g.n := by
    rcases hi' with h | h
    ·exact h.elim
    ·simp only [Ghost.grow] at hi; omega
   subst hin
   rw [hget, if_pos R.n]
   exact hob
def Ghost.nowhere (g : Ghost) (b sz : Nat) : Ghost :=
 { n := g.n + 1, blk := fun i => if i = g.n then b else g.blk i, sz := fun i => if i = g.n then sz else g.sz i, cap := fun i => if i = g.n then 0 else g.cap i, kind := g.kind }
theorem nowhere_ok {g : Ghost} {σ : Store} {w : World} (R : StoreRel P g σ w) (b : Nat) (sz : Nat × Nat) :
  Ext g σ w (g.nowhere b sz.1) (σ.add (.rows sz [])) w ∧ StoreRel P (g.nowhere b sz.1) (σ.add (.rows sz [])) w := by
 have hk : Keeps g w (g.nowhere b sz.1) w := ⟨by simp [Ghost.nowhere], fun i hi => by simp [Ghost.nowhere, Nat.ne_of_lt hi], fun x hx => ⟨hx, rfl⟩⟩
 have hget : ∀ i, (σ.add (.rows sz [])).get i = if σ.n = i then (.rows sz []) else σ.get i := fun i => by simp only [Store.get, Store.add, look_cons]
 refine ⟨⟨hk.n, hk.place, fun i hi hd => ?_, Nat.le_refl _, fun b hb ho => ⟨rfl, rfl⟩, rfl, rfl, rfl⟩, ?_⟩
 ·rw [hget, if_neg (by rw [R.n]; omega)]; exact hd
 ·refine StoreRel.step R (by simp [Ghost.nowhere, R.n]) hk R.lt (fun b i hb => ?_) (fun i hi => ?_) (fun _ => False) (fun i hi _ => ⟨?_, .inr fun b hb => ⟨hb, rfl⟩⟩) (fun i hi hi' => ?_)
  ·have := R.owner b i hb; simp [Ghost.nowhere]; omega
  ·simp only [Ghost.nowhere] at hi
   rw [hget, if_neg (by rw [R.n]; omega)]
   exact R.dead i (by omega)
  ·rw [hget, if_neg (by rw [R.n]; omega)]
  ·have hin : i = g.n := by
    rcases hi' with h | h
    ·exact h.elim
    ·simp only [Ghost.nowhere] at hi; omega
   subst hin
   rw [hget, if_pos R.n]
   exact .inl ⟨rfl, by simp [Ghost.nowhere], by simp [Ghost.nowhere]⟩
theorem set_ok {g : Ghost} {σ : Store} {w w' : World} (R : StoreRel P g σ w) (i : Nat) (o : Ob) (hi : i < g.n) (live : σ.get i ≠ .dead) (hheap : ∀ b, g.kind b ≠ .own i → w'.heap[b]? = w.heap[b]?) (hsize : w'.heap.size = w.heap.size)
  (os : w'.os = w.os) (tape : w'.tape = w.tape) (output : w'.output = w.output) (hob : ObRel g w' i o) : Ext g σ w g (σ.set i o) w' ∧ StoreRel P g (σ.set i o) w' := by
 have hget : ∀ j, (σ.set i o).get j = if i = j then o else σ.get j := fun j => by simp only [Store.get, Store.set, look_cons]
 have hk : Keeps g w g w' := ⟨Nat.le_refl _, fun _ _ => ⟨rfl, rfl, rfl⟩, fun b hb => ⟨hb, hheap b (by rw [show g.kind b = .imm from hb]; intro e; cases e)⟩⟩
 refine ⟨⟨hk.n, hk.place, fun j hj hd => ?_, by omega, fun b hb ho => ⟨rfl, hheap b (fun e => live (ho i e))⟩, os, tape, output⟩, ?_⟩
 ·rw [hget]
  split
  ·rename_i e; subst e; exact absurd hd live
  ·exact hd
 ·refine StoreRel.step R R.n hk (fun b hb => by have := R.lt b hb; omega) R.owner (fun j hj => ?_) (fun j => j = i) (fun j hj hne => ⟨?_, .inr fun b hb => ⟨hb, hheap b (fun e => hne (by rw [hb] at e; cases e; rfl))⟩⟩) (fun j hj h => ?_)
  ·rw [hget, if_neg (by omega)]; exact R.dead j hj
  ·rw [hget, if_neg (fun e => hne e.symm)]
  ·rcases h with rfl | h
   ·rw [hget, if_pos rfl]; exact hob
   ·omega
theorem kill_ok {g : Ghost} {σ : Store} {w : World} (R : StoreRel P g σ w) (i : Nat) (hi : i < g.n) : StoreRel P g (σ.set i .dead) w ∧ ∀ j, (σ.set i .dead).get j = if i = j then .dead else σ.get j := by
 have hget : ∀ j, (σ.set i .dead).get j = if i = j then Ob.dead else σ.get j := fun j => by simp only [Store.get, Store.set, look_cons]
 refine ⟨⟨R.n, R.lt, R.owner, fun j hj => ?_, fun j hj => ?_, R.glob⟩, hget⟩
 ·rw [hget, if_neg (by omega)]; exact R.dead j hj
 ·rw [hget]
  split
  ·trivial
  ·exact R.ob j hj
theorem Ext.of_kill {g g' : Ghost} {σ σ' : Store} {w w' : World} {i : Nat} (h : Ext g (σ.set i .dead) w g' σ' w') : Ext g σ w g' σ' w' := by
 have hget : ∀ j, (σ.set i .dead).get j = if i = j then Ob.dead else σ.get j := fun j => by simp only [Store.get, Store.set, look_cons]
 refine ⟨h.n, h.place, fun j hj hd => h.dead j hj (by rw [hget, hd]; split <;> rfl), h.size, fun b hb ho => h.keep b hb (fun j hj => by rw [hget, ho j hj]; split <;> rfl), h.os, h.tape, h.output⟩
theorem over_ok {g : Ghost} {σ : Store} {w w' : World} (R : StoreRel P g σ w) (i : Nat) (o : Ob) (hi : i < g.n) (hown : g.kind (g.blk i) = .own i) (live : σ.get i ≠ .dead) (honly : ∀ b, g.kind b = .own i → b = g.blk i ∨ True)
  (hheap : ∀ b, b ≠ g.blk i → w'.heap[b]? = w.heap[b]?) (hsize : w'.heap.size = w.heap.size) (os : w'.os = w.os) (tape : w'.tape = w.tape) (output : w'.output = w.output)
  (hob : ObRel (g.grow (g.blk i) (g.sz i) (g.cap i)) w' g.n o) :
  Ext g σ w (g.grow (g.blk i) (g.sz i) (g.cap i)) ((σ.set i .dead).add o) w' ∧ StoreRel P (g.grow (g.blk i) (g.sz i) (g.cap i)) ((σ.set i .dead).add o) w' := by
 have himm : ¬ g.imm (g.blk i) := by unfold Ghost.imm; rw [hown]; intro e; cases e
 have hne : ∀ x, g.imm x → x ≠ g.blk i := fun x hx e => himm (e ▸ hx)
 have hk : Keeps g w (g.grow (g.blk i) (g.sz i) (g.cap i)) w' := grow_keeps R himm (fun x hx => hheap x (hne x hx))
 have hget : ∀ j, ((σ.set i .dead).add o).get j = if σ.n = j then o else if i = j then .dead else σ.get j := fun j => by simp only [Store.get, Store.add, Store.set, look_cons]
 refine ⟨⟨hk.n, hk.place, fun j hj hd => ?_, by omega, fun b hb ho => ?_, os, tape, output⟩, ?_⟩
 ·rw [hget, if_neg (by rw [R.n]; omega)]; split
  ·rfl
  ·exact hd
 ·have hb' : b ≠ g.blk i := fun e => live (ho i (e ▸ hown))
  exact ⟨by simp [Ghost.grow, hb'], hheap b hb'⟩
 ·refine StoreRel.step R (by simp [Ghost.grow, R.n]) hk (fun b hb => ?_) (fun b j hb => ?_) (fun j hj => ?_) (fun j => j = i) (fun j hj hji => ⟨?_, .inr fun b hb => ?_⟩) (fun j hj hj' => ?_)
  ·simp only [Ghost.grow] at hb
   split at hb
   ·rename_i e; subst e; have := R.lt (g.blk i) (by rw [hown]; intro e; cases e); omega
   ·have := R.lt b hb; omega
  ·simp only [Ghost.grow] at hb ⊢
   split at hb
   ·cases hb; omega
   ·have := R.owner b j hb; omega
  ·simp only [Ghost.grow] at hj
   rw [hget, if_neg (by rw [R.n]; omega), if_neg (by omega)]
   exact R.dead j (by omega)
  ·rw [hget, if_neg (by rw [R.n]; omega), if_neg (fun e => hji e.symm)]
  ·have hb' : b ≠ g.blk i := fun e => by subst e; rw [hown] at hb; cases hb; exact hji rfl
   exact ⟨by simp [Ghost.grow, hb', hb], hheap b hb'⟩
  ·rw [hget]
   by_cases hjn : j = g.n
   ·subst hjn; rw [if_pos R.n]; exact hob
   ·rw [if_neg (by rw [R.n]; omega)]
    rcases hj' with rfl | h
    ·rw [if_pos rfl]; trivial
    ·simp only [Ghost.grow] at hj; omega
theorem freeze_ok {g : Ghost} {σ : Store} {w : World} (R : StoreRel P g σ w) (i : Nat) (hi : i < g.n) (hown : g.kind (g.blk i) = .own i) (live : σ.get i ≠ .dead) :
  Ext g σ w { g with kind := fun x => if x = g.blk i then .imm else g.kind x } (σ.set i .dead) w ∧ StoreRel P { g with kind := fun x => if x = g.blk i then .imm else g.kind x } (σ.set i .dead) w := by
 have hget : ∀ j, (σ.set i .dead).get j = if i = j then Ob.dead else σ.get j := fun j => by simp only [Store.get, Store.set, look_cons]
 have hk : Keeps g w { g with kind := fun x => if x = g.blk i then .imm else g.kind x } w := ⟨Nat.le_refl _, fun _ _ => ⟨rfl, rfl, rfl⟩, fun b hb => ⟨by show (if b = g.blk i then Kind.imm else g.kind b) = .imm; split <;> first | rfl | exact hb, rfl⟩⟩
 refine ⟨⟨hk.n, hk.place, fun j hj hd => ?_, Nat.le_refl _, fun b hb ho => ⟨?_, rfl⟩, rfl, rfl, rfl⟩, ?_⟩
 ·rw [hget]; split
  ·rfl
  ·exact hd
 ·have hb' : b ≠ g.blk i := fun e => live (ho i (e ▸ hown))
  simp [hb']
 ·refine StoreRel.step R R.n hk (fun b hb => ?_) (fun b j hb => ?_) (fun j hj => ?_) (fun j => j = i) (fun j hj hji => ⟨?_, .inr fun b hb => ?_⟩) (fun j hj hj' => ?_)
  ·dsimp only at hb
   split at hb
   ·rename_i e; subst e; exact R.lt (g.blk i) (by rw [hown]; intro e; cases e)
   ·exact R.lt b hb
  ·dsimp only at hb
   split at hb
   ·cases hb
   ·exact R.owner b j hb
  ·have hj' : g.n ≤ j := hj
   rw [hget, if_neg (by omega)]; exact R.dead j hj
  ·rw [hget, if_neg (fun e => hji e.symm)]
  ·have hb' : b ≠ g.blk i := fun e => by subst e; rw [hown] at hb; cases hb; exact hji rfl
   exact ⟨by simp [hb', hb], rfl⟩
  ·have hj0 : j < g.n := hj
   rcases hj' with rfl | h
   ·rw [hget, if_pos rfl]; trivial
   ·omega
def Up (g : Ghost) (σ : Store) (w : World) (K : AV → Store → Prop) : Result Value → Prop
 | .ok v w' => ∃ g' σ' r, Ext g σ w g' σ' w' ∧ StoreRel P g' σ' w' ∧ RepA g' w' r v ∧ K r σ'
 | _ => False
def UpU (g : Ghost) (σ : Store) (w : World) (K : Store → Prop) : Result Unit → Prop
 | .ok _ w' => ∃ g' σ', Ext g σ w g' σ' w' ∧ StoreRel P g' σ' w' ∧ K σ'
 | _ => False
theorem Up.quiet {g : Ghost} {σ : Store} {w : World} {K : AV → Store → Prop} (R : StoreRel P g σ w) {s : Result Value} (h : ∃ u r, s = .ok u w ∧ RepA g w r u ∧ K r σ) : Up (P := P) g σ w K s := by
 obtain ⟨u, r, rfl, hr, hK⟩ := h
 exact ⟨g, σ, r, Ext.refl _ _ _, R, hr, hK⟩
theorem freezeW_ok {g : Ghost} {σ : Store} {w w' : World} (R : StoreRel P g σ w) (i : Nat) (hi : i < g.n) (hown : g.kind (g.blk i) = .own i) (live : σ.get i ≠ .dead)
  (hheap : ∀ b, b ≠ g.blk i → w'.heap[b]? = w.heap[b]?) (hsize : w'.heap.size = w.heap.size) (os : w'.os = w.os) (tape : w'.tape = w.tape) (output : w'.output = w.output) :
  Ext g σ w { g with kind := fun x => if x = g.blk i then .imm else g.kind x } (σ.set i .dead) w' ∧ StoreRel P { g with kind := fun x => if x = g.blk i then .imm else g.kind x } (σ.set i .dead) w' := by
 have hget : ∀ j, (σ.set i .dead).get j = if i = j then Ob.dead else σ.get j := fun j => by simp only [Store.get, Store.set, look_cons]
 have hk : Keeps g w { g with kind := fun x => if x = g.blk i then .imm else g.kind x } w' := ⟨Nat.le_refl _, fun _ _ => ⟨rfl, rfl, rfl⟩, fun b hb => ⟨by show (if b = g.blk i then Kind.imm else g.kind b) = .imm; split <;> first | rfl | exact hb,
  hheap b (fun e => by subst e; rw [show g.kind (g.blk i) = .imm from hb] at hown; cases hown)⟩⟩
 refine ⟨⟨hk.n, hk.place, fun j hj hd => ?_, by omega, fun b hb ho => ?_, os, tape, output⟩, ?_⟩
 ·rw [hget]; split
  ·rfl
  ·exact hd
 ·have hb' : b ≠ g.blk i := fun e => live (ho i (e ▸ hown))
  exact ⟨by simp [hb'], hheap b hb'⟩
 ·refine StoreRel.step R R.n hk (fun b hb => ?_) (fun b j hb => ?_) (fun j hj => ?_) (fun j => j = i) (fun j hj hji => ⟨?_, .inr fun b hb => ?_⟩) (fun j hj hj' => ?_)
  ·rw [hsize]
   dsimp only at hb
   split at hb
   ·rename_i e; subst e; exact R.lt (g.blk i) (by rw [hown]; intro e; cases e)
   ·exact R.lt b hb
  ·dsimp only at hb
   split at hb
   ·cases hb
   ·exact R.owner b j hb
  ·have hj' : g.n ≤ j := hj
   rw [hget, if_neg (by omega)]; exact R.dead j hj
  ·rw [hget, if_neg (fun e => hji e.symm)]
  ·have hb' : b ≠ g.blk i := fun e => by subst e; rw [hown] at hb; cases hb; exact hji rfl
   exact ⟨by simp [hb', hb], hheap b hb'⟩
  ·have hj0 : j < g.n := hj
   rcases hj' with rfl | h
   ·rw [hget, if_pos rfl]; trivial
   ·omega
theorem newRow_ok {g : Ghost} {σ : Store} {w : World} (R : StoreRel P g σ w) (cells : Array Value) (e : TypeId) (fr : Nat × Nat) (rs : List (List AV)) (sz cap : Nat) {w' : World} (hw : w'.heap = w.heap.push (.cells cells e fr))
  (os : w'.os = w.os) (tape : w'.tape = w.tape) (output : w'.output = w.output)
  (hfr : ∀ o, o < cells.size → ¬ (fr.1 ≤ o ∧ o < fr.2)) (hsz : cells.size = cap * sz) (hcap : rs.length ≤ cap) (hrs : ∀ (r : Nat) row, rs[r]? = some row → row.length = sz ∧ ∀ (j : Nat) a, row[j]? = some a → ∃ v, cells[r * sz + j]? = some v ∧ RepA g w a v ∧ v.oneCell' = true) :
  Ext g σ w (g.grow w.heap.size sz cap) (σ.add (.rows (sz, e) rs)) w' ∧ StoreRel P (g.grow w.heap.size sz cap) (σ.add (.rows (sz, e) rs)) w' := by
 have hheap : ∀ b, b < w.heap.size → w'.heap[b]? = w.heap[b]? := fun b hb => by rw [hw, Array.getElem?_push, if_neg (by omega)]
 have hnew : w'.heap[w.heap.size]? = some (.cells cells e fr) := by rw [hw, Array.getElem?_push, if_pos rfl]
 have hk : Keeps g w (g.grow w.heap.size sz cap) w' := grow_keeps R (fun h => by have := R.lt w.heap.size (by rw [show g.kind w.heap.size = .imm from h]; intro e; cases e); omega) (fun x hx => hheap x (R.lt x (by rw [show g.kind x = .imm from hx]; intro e; cases e)))
 refine add_ok R _ sz cap hheap (by rw [hw]; simp) os tape output (.inr ⟨by simp [Ghost.grow], by simp [Ghost.grow], cells, fr, by simpa [Ghost.grow] using hnew, hfr, by simpa [Ghost.grow] using hsz, by simpa [Ghost.grow] using hcap, fun r row hrow => ?_⟩)
 obtain ⟨h1, h2⟩ := hrs r row hrow
 refine ⟨by simpa [Ghost.grow] using h1, fun j a ha => ?_⟩
 obtain ⟨v, hv, hra, ho⟩ := h2 j a ha
 exact ⟨v, by simpa [Ghost.grow] using hv, hra.mono hk, ho⟩
theorem alloc_sound {g : Ghost} {σ : Store} {w : World} {e : Nat} {z : List AV} {K : AV → Store → Prop} (hok : TOk P e) (hz : (nth (tabOf P) e).zero = some z) (h : K (.ref σ.n 0 0) (σ.add (.rows (z.length, e) [z]))) (R : StoreRel P g σ w) :
  Up (P := P) g σ w K ((Instr.alloc e true (.tuple #[])).run P w) := by
 obtain ⟨i, v, hi, hiz, hvs, hone, _, rfl⟩ := zero_of hok hz
 have hrun : (Instr.alloc e true (.tuple #[])).run P w = .ok (.pointer (some ⟨w.heap.size, 0, none⟩)) (w.alloc (.cells v.cells e)) := by
  simp [Instr.alloc, zeroValue, typeInfo, hi, hiz, newVar, newRow]
 rw [hrun]
 have hR := newRow_ok R v.cells e (0, 0) [v.cells.toList.map absC] v.cells.size 1 (w' := w.alloc (.cells v.cells e)) rfl rfl rfl rfl (by intro o _; omega) (by simp) (by simp) (fun r row hrow => by
  cases r with
  | zero =>
   simp at hrow; subst hrow
   refine ⟨by simp, fun j a ha => ?_⟩
   rw [List.getElem?_map] at ha
   cases hv : v.cells.toList[j]? with
   | none => rw [hv] at ha; cases ha
   | some u =>
    rw [hv] at ha; cases ha
    exact ⟨u, by simpa using hv, absC_ok g w u, one_ok (absC_ok g w u) (hone _ (List.mem_map_of_mem (List.mem_of_getElem? hv)))⟩
  | succ r => simp at hrow)
 rw [show (v.cells.toList.map absC).length = v.cells.size by simp] at h
 refine ⟨_, _, .ref σ.n 0 0, hR.1, hR.2, ?_, h⟩
 have : RepA (g.grow w.heap.size v.cells.size 1) (w.alloc (.cells v.cells e)) (.ref g.n 0 0) (.pointer (some ⟨(g.grow w.heap.size v.cells.size 1).blk g.n, 0 * (g.grow w.heap.size v.cells.size 1).sz g.n + 0, none⟩)) := .ref g.n 0 0 (by simp [Ghost.grow])
 rw [R.n]
 simpa [Ghost.grow] using this
theorem allocB_sound {g : Ghost} {σ : Store} {w : World} {e U : Nat} {K : AV → Store → Prop} (hb : (nth (tabOf P) e).bld = some U) (h : K (.ref σ.n 0 0) (σ.add (.bld e U []))) (R : StoreRel P g σ w) :
  Up (P := P) g σ w K ((Instr.alloc e true (.tuple #[])).run P w) := by
 have hb' : isBld P e = some U := by
  rcases nth_tab (P := P) e with ⟨h1, _⟩ | h1
  ·rw [h1] at hb; exact hb
  ·rw [h1] at hb; cases hb
 unfold isBld at hb'
 split at hb'
 ·rename_i i hi
  split at hb'
  ·rename_i v _ hiz
   split at hb'
   ·rename_i hv
    have hv' : v.cells = #[.pointer none, .slice none 0 0] := by apply Array.ext'; exact hv
    have hrun : (Instr.alloc e true (.tuple #[])).run P w = .ok (.pointer (some ⟨w.heap.size, 0, none⟩)) (w.alloc (.cells v.cells e)) := by
     simp [Instr.alloc, zeroValue, typeInfo, hi, hiz, newVar, newRow]
    rw [hrun, hv']
    have hheap : ∀ b, b < w.heap.size → (w.alloc (.cells #[.pointer none, .slice none 0 0] e)).heap[b]? = w.heap[b]? := fun b hb => by
     exact heap_alloc_old w _ hb
    have hR := add_ok R (.bld e U []) 2 1 (w' := w.alloc (.cells #[.pointer none, .slice none 0 0] e)) hheap (by show (w.heap.push _).size = _; simp) rfl rfl rfl
     ⟨by simp [Ghost.grow], by simp [Ghost.grow], by simp [Ghost.grow], .pointer none, .slice none 0 0, by (simp only [Ghost.grow, if_true]; show (w.heap.push _)[w.heap.size]? = _; simp), .inl rfl, .inl ⟨rfl, rfl⟩⟩
    refine ⟨_, _, .ref σ.n 0 0, hR.1, hR.2, ?_, h⟩
    have : RepA (g.grow w.heap.size 2 1) (w.alloc (.cells #[.pointer none, .slice none 0 0] e)) (.ref g.n 0 0) (.pointer (some ⟨(g.grow w.heap.size 2 1).blk g.n, 0 * (g.grow w.heap.size 2 1).sz g.n + 0, none⟩)) := .ref g.n 0 0 (by simp [Ghost.grow])
    rw [R.n]
    simpa [Ghost.grow] using this
   ·cases hb'
  ·cases hb'
 ·cases hb'
theorem box_sound {g : Ghost} {σ : Store} {w : World} {e : Nat} {x : AV} {v : Value} {l : List AV} {K : AV → Store → Prop} (hl : x.cells? = some l) (h : K (.ref σ.n 0 0) (σ.add (.rows (l.length, e) [l]))) (R : StoreRel P g σ w) (hx : RepA g w x v) :
  Up (P := P) g σ w K ((Instr.box e v).run P w) := by
 obtain ⟨hrep, hone⟩ := cells_ok hx hl
 have hrun : (Instr.box e v).run P w = .ok (.pointer (some ⟨w.heap.size, 0, none⟩)) (w.alloc (.cells v.cells e)) := by
  simp [Instr.box, newVar, newRow]
 rw [hrun]
 have hR := newRow_ok R v.cells e (0, 0) [l] v.cells.size 1 (w' := w.alloc (.cells v.cells e)) rfl rfl rfl rfl (by intro o _; omega) (by simp) (by simp) (fun r row hrow => by
  cases r with
  | zero =>
   simp at hrow; subst hrow
   refine ⟨by rw [hrep.len]; simp, fun j a ha => ?_⟩
   obtain ⟨u, hu⟩ := getElem?_of_lt (l := v.cells.toList) (j := j) (by rw [← hrep.len]; exact lt_of_some ha)
   have hra := hrep.2 j a u ha hu
   exact ⟨u, by simpa using hu, hra, one_ok hra (hone a (List.mem_of_getElem? ha))⟩
  | succ r => simp at hrow)
 rw [show l.length = v.cells.size by rw [hrep.len]; simp] at h
 refine ⟨_, _, .ref σ.n 0 0, hR.1, hR.2, ?_, h⟩
 have : RepA (g.grow w.heap.size v.cells.size 1) (w.alloc (.cells v.cells e)) (.ref g.n 0 0) (.pointer (some ⟨(g.grow w.heap.size v.cells.size 1).blk g.n, 0 * (g.grow w.heap.size v.cells.size 1).sz g.n + 0, none⟩)) := .ref g.n 0 0 (by simp [Ghost.grow])
 rw [R.n]
 simpa [Ghost.grow] using this
theorem rowsOf_get (sz : Nat) : ∀ (n : Nat) (l : List AV) (r : Nat) (row : List AV), l.length = n * sz → (rowsOf sz n l)[r]? = some row → r < n ∧ row.length = sz ∧ ∀ (j : Nat) a, row[j]? = some a → l[r * sz + j]? = some a
 | 0, l, r, row, hl, h => by simp [rowsOf] at h
 | n + 1, l, r, row, hl, h => by
  rw [Nat.succ_mul] at hl
  cases r with
  | zero =>
   simp [rowsOf] at h
   subst h
   refine ⟨by omega, by simp; omega, fun j a ha => ?_⟩
   rw [List.getElem?_take] at ha
   split at ha
   ·simpa using ha
   ·cases ha
  | succ r =>
   simp only [rowsOf, List.getElem?_cons_succ] at h
   obtain ⟨h1, h2, h3⟩ := rowsOf_get sz n (l.drop sz) r row (by simp; omega) h
   refine ⟨by omega, h2, fun j a ha => ?_⟩
   have := h3 j a ha
   rw [List.getElem?_drop] at this
   rw [show (r + 1) * sz + j = sz + (r * sz + j) by rw [Nat.succ_mul]; omega]
   exact this
theorem rowsOf_length (sz : Nat) : ∀ (n : Nat) (l : List AV), (rowsOf sz n l).length = n
 | 0, _ => rfl
 | n + 1, l => by simp [rowsOf, rowsOf_length sz n]
theorem repl_length (z : List AV) : ∀ n, (repl z n).length = n * z.length
 | 0 => by simp [repl]
 | n + 1 => by simp [repl, repl_length z n, Nat.succ_mul]; omega
theorem repl_get (z : List AV) (hz : 0 < z.length) : ∀ (n i : Nat), i < n * z.length → (repl z n)[i]? = z[i % z.length]?
 | 0, i, h => by simp at h
 | n + 1, i, h => by
  simp only [repl]
  by_cases hi : i < z.length
  ·rw [List.getElem?_append_left hi, Nat.mod_eq_of_lt hi]
  ·rw [List.getElem?_append_right (by omega), repl_get z hz n (i - z.length) (by rw [Nat.succ_mul] at h; omega)]
   congr 1
   conv => rhs; rw [show i = (i - z.length) + z.length by omega]
   rw [Nat.add_mod_right]
theorem zeros_rep {g : Ghost} {w : World} (z : Array Value) (hz : 0 < z.size) (n : Nat) : RepL g w (repl (z.toList.map absC) n) ((Array.range (n * z.size)).map (z[· % z.size]!)).toList := by
 refine ⟨by simp [repl_length], fun i a v ha hv => ?_⟩
 have hi : i < n * z.size := by
  have := lt_of_some ha
  simpa [repl_length] using this
 rw [repl_get _ (by simpa using hz) n i (by simpa using hi)] at ha
 have hm : i % z.size < z.size := Nat.mod_lt _ hz
 simp only [List.length_map, Array.length_toList] at ha
 rw [List.getElem?_map] at ha
 have hzz : z.toList[i % z.size]? = some z[i % z.size] := by simp [hm]
 rw [hzz] at ha
 cases ha
 simp [hi] at hv
 rw [getElem!_pos z _ hm] at hv
 subst hv
 exact absC_ok g w _
theorem buildSlice_sound {g : Ghost} {σ : Store} {w : World} {t len : Nat} {ρ : Operand → AV} {ρ' : Operand → Value} {parts : Array (Nat × Operand)} {K : AV → Store → Prop} (hel : ∀ e, P.underlying t = some (.slice e) → TOk P e)
  (h : abuildSlice (tabOf P) σ t len ρ parts.toList K) (R : StoreRel P g σ w) (hρ : ∀ x, RepA g w (ρ x) (ρ' x)) :
  Up (P := P) g σ w K ((Instr.buildSlice t len (parts.map fun (i, x) => (i, ρ' x))).run P w) := by
 unfold abuildSlice at h
 simp only [afillK_eq] at h
 split at h
 ·rename_i e hd
  have hu := und_slice hd
  have hok := hel e hu
  split at h
  ·rename_i z hz
   obtain ⟨i, v, hi, hiz, hvs, hone, _, rfl⟩ := zero_of hok hz
   split at h
   ·rename_i h1 h2 h3
    have e1 : len * (nth (tabOf P) e).size ≤ 100000 := Nat.le_of_ble_eq_true h1
    have e2 : 1 ≤ (nth (tabOf P) e).size := Nat.le_of_ble_eq_true h2
    rw [hok.size] at e1 e2 h
    split at h
    ·rename_i l hl
     simp only [addK_eq] at h
     have hsz : i.size = P.cellsOf e := by simp [Program.cellsOf, hi]
     have hvpos : 0 < v.cells.size := by omega
     obtain ⟨us, hus, hru, hro⟩ := build_fill hρ _ _ _ l (zeros_rep (g := g) (w := w) v.cells hvpos len) (fun x hx => by
      obtain ⟨k, hk, hk'⟩ := List.mem_iff_getElem.1 hx
      have := repl_get (v.cells.toList.map absC) (by simpa using hvpos) len k (by simpa [repl_length] using hk)
      rw [List.getElem?_eq_getElem hk, hk'] at this
      exact hone x (List.mem_of_getElem? this.symm)) hl
     have hll : l.length = len * P.cellsOf e := by
      have := build_fill_length hl
      rw [this, repl_length]; simp [hvs]
     have hrun : (Instr.buildSlice t len (parts.map fun (i, x) => (i, ρ' x))).run P w = .ok (.slice (some ⟨w.heap.size, 0, none⟩) len len) (w.alloc (.cells us e)) := by
      have e4 : (parts.map fun (i, x) => (i, ρ' x)).toList = parts.toList.map fun x => (x.1, ρ' x.2) := by simp
      have hus' : Instr.fill (fun k => some (k * i.size, i.size)) ((Array.range (len * i.size)).map (v.cells[· % v.cells.size]!)) (parts.map fun (i, x) => (i, ρ' x)).toList = some us := by
       rw [e4, ← hus, hsz, ← hvs]
      by_cases h0 : len * i.size = 0
      ·have hlen0 : len = 0 := by
        rcases Nat.mul_eq_zero.1 h0 with h | h
        ·exact h
        ·omega
       subst hlen0
       have hus0 : us = #[] := by
        have := hru.len
        rw [hll] at this
        simp at this
        exact Array.eq_empty_of_size_eq_zero this.symm
       subst hus0
       simp only [Nat.zero_mul] at hus'
       have hus'' : Instr.fill (fun k => some (k * i.size, i.size)) #[] (parts.toList.map fun x => (x.1, ρ' x.2)) = some #[] := by
        rw [e4] at hus'
        simpa [Array.range_zero'] using hus'
       simp [Instr.buildSlice, run_underlying hu, sizeOf, typeInfo, hi, newRow, hus'', Array.range_zero']
      ·exact run_buildSlice w t e len _ us i v hu hi hiz (by rw [hsz]; omega) h0 hus'
     rw [hrun]
     have hR := newRow_ok R us e (0, 0) (rowsOf (P.cellsOf e) len l) (P.cellsOf e) len (w' := w.alloc (.cells us e)) rfl rfl rfl rfl (by intro o _; omega) (by have := hru.len; simp at this; omega) (by rw [rowsOf_length]; omega) (fun r row hrow => by
      obtain ⟨hr1, hr2, hr3⟩ := rowsOf_get _ _ _ _ _ hll hrow
      refine ⟨hr2, fun j a ha => ?_⟩
      have hla := hr3 j a ha
      obtain ⟨u, hu'⟩ := getElem?_of_lt (l := us.toList) (j := r * P.cellsOf e + j) (by rw [← hru.len]; exact lt_of_some hla)
      have hra := hru.2 _ a u hla hu'
      exact ⟨u, by simpa using hu', hra, one_ok hra (hro a (List.mem_of_getElem? hla))⟩)
     refine ⟨_, _, .own σ.n 0 len, hR.1, hR.2, ?_, h⟩
     have : RepA (g.grow w.heap.size (P.cellsOf e) len) (w.alloc (.cells us e)) (.own g.n 0 len) (.slice (some ⟨(g.grow w.heap.size (P.cellsOf e) len).blk g.n, 0 * (g.grow w.heap.size (P.cellsOf e) len).sz g.n, none⟩) len len) :=
      .own g.n 0 len len (by simp [Ghost.grow]) (by simp [Ghost.grow]) (Nat.le_refl _)
     rw [R.n]
     simpa [Ghost.grow] using this
    ·exact h.elim
   ·exact h.elim
  ·exact h.elim
 ·exact h.elim
theorem makeSlice_sound {g : Ghost} {σ : Store} {w : World} {t : Nat} {l c : AV} {vl vc : Value} {K : AV → Store → Prop} (hel : ∀ e, P.underlying t = some (.slice e) → TOk P e)
  (h : amakeSlice (tabOf P) σ t l c K) (R : StoreRel P g σ w) (hl : RepA g w l vl) (hc : RepA g w c vc) : Up (P := P) g σ w K ((Instr.makeSlice t vl vc).run P w) := by
 unfold amakeSlice at h
 split at h
 ·rename_i e n m hd
  cases repA_int hl
  cases repA_int hc
  have hu := und_slice hd
  have hok := hel e hu
  split at h
  ·rename_i z hz
   obtain ⟨i, v, hi, hiz, hvs, hone, _, rfl⟩ := zero_of hok hz
   obtain ⟨⟨h0, rfl, hb, hn⟩, h⟩ := h
   obtain ⟨hk, h⟩ := chk_eq h
   rw [Bool.and_eq_true] at hk
   have e2 : 1 ≤ (nth (tabOf P) e).size := Nat.le_of_ble_eq_true hk.1
   simp only [addK_eq] at h
   rw [hok.size] at e2 h
   rw [hok.bytes] at hb
   have hsz : i.size = P.cellsOf e := by simp [Program.cellsOf, hi]
   have hby : i.bytes = P.bytesOf e := by simp [Program.bytesOf, hi]
   have hvpos : 0 < v.cells.size := by omega
   have hrun := run_make (P := P) w t e i v hu hi hiz .i64 .i64 n n h0 (Int.le_refl _) (by rw [hby, Int.mul_comm]; omega) (by omega)
   rw [hrun]
   have hcell : ∀ x, x < n.toNat * i.size → (madeCells v.cells (n.toNat * i.size))[x]? = some (v.cells[x % v.cells.size]'(Nat.mod_lt _ hvpos)) := fun x hx => by
    unfold madeCells
    rw [Array.getElem?_map, Array.getElem?_range, if_pos hx]
    simp only [Option.map_some]
    rw [getElem!_pos v.cells _ (Nat.mod_lt _ hvpos)]
   have hR := newRow_ok R (madeCells v.cells (n.toNat * i.size)) e (0, 0) (List.replicate n.toNat (v.cells.toList.map absC)) (P.cellsOf e) n.toNat (w' := w.alloc (.cells (madeCells v.cells (n.toNat * i.size)) e)) rfl rfl rfl rfl (by intro o _; omega) (by rw [size_madeCells, hsz]) (by simp) (fun r row hrow => by
    rw [List.getElem?_replicate] at hrow
    split at hrow
    ·rename_i hr
     cases hrow
     refine ⟨by simp [hvs], fun j a ha => ?_⟩
     have hj : j < v.cells.size := by have := lt_of_some ha; simpa using this
     have hx : r * P.cellsOf e + j < n.toNat * i.size := by
      rw [hsz]
      calc r * P.cellsOf e + j < r * P.cellsOf e + P.cellsOf e := by omega
       _ = (r + 1) * P.cellsOf e := by rw [Nat.succ_mul]
       _ ≤ n.toNat * P.cellsOf e := Nat.mul_le_mul_right _ (by omega)
     have hm : (r * P.cellsOf e + j) % v.cells.size = j := by rw [hvs, Nat.mul_comm, Nat.mul_add_mod, Nat.mod_eq_of_lt (by omega)]
     refine ⟨v.cells[j], by rw [hcell _ hx]; congr 1; simp only [hm], ?_, ?_⟩
     ·rw [List.getElem?_map] at ha
      have hzz : v.cells.toList[j]? = some v.cells[j] := by simp [hj]
      rw [hzz] at ha; cases ha; exact absC_ok g w _
     ·rw [List.getElem?_map] at ha
      have hzz : v.cells.toList[j]? = some v.cells[j] := by simp [hj]
      rw [hzz] at ha; cases ha
      exact one_ok (absC_ok g w _) (hone _ (List.mem_map.2 ⟨v.cells[j], by simp, rfl⟩))
    ·cases hrow)
   refine ⟨_, _, .own σ.n 0 n.toNat, hR.1, hR.2, ?_, h⟩
   have : RepA (g.grow w.heap.size (P.cellsOf e) n.toNat) (w.alloc (.cells (madeCells v.cells (n.toNat * i.size)) e)) (.own g.n 0 n.toNat) (.slice (some ⟨(g.grow w.heap.size (P.cellsOf e) n.toNat).blk g.n, 0 * (g.grow w.heap.size (P.cellsOf e) n.toNat).sz g.n, none⟩) n.toNat n.toNat) :=
    .own g.n 0 n.toNat n.toNat (by simp [Ghost.grow]) (by simp [Ghost.grow]) (Nat.le_refl _)
   rw [R.n]
   simpa [Ghost.grow] using this
  ·exact h.elim
 ·exact h.elim
theorem heap_setCells (b : Nat) : ∀ (vs : List Value) (o : Nat) (w : World) (c : Array Value) (e : TypeId) (fr : Nat × Nat), w.heap[b]? = some (.cells c e fr) → o + vs.length ≤ c.size →
  (w.setCells b o vs).heap[b]? = some (.cells (c.toList.take o ++ vs ++ c.toList.drop (o + vs.length)).toArray e fr)
 | [], o, w, c, e, fr, h, hl => by simp [World.setCells, h]
 | v :: vs, o, w, c, e, fr, h, hl => by
  have h1 : (w.setCell ⟨b, o, none⟩ v).heap[b]? = some (.cells (c.setIfInBounds o v) e fr) := by
   simp [World.setCell, Array.getElem?_modify, h]
  have hi : o < c.toList.length := by simp at hl ⊢; omega
  rw [World.setCells, heap_setCells b vs (o + 1) _ _ e fr h1 (by simp at hl ⊢; omega)]
  have e1 : (c.setIfInBounds o v).toList = c.toList.take o ++ v :: c.toList.drop (o + 1) := by
   rw [Array.toList_setIfInBounds, List.set_eq_take_append_cons_drop, if_pos hi]
  have hlt : (c.toList.take o).length = o := by simp; omega
  rw [e1]
  congr 3
  rw [List.take_append, List.drop_append, hlt]
  rw [show o + 1 - o = 1 by omega, show o + 1 + vs.length - o = vs.length + 1 by omega]
  simp only [List.take_succ_cons, List.take_zero, List.drop_succ_cons, List.drop_drop]
  rw [List.take_of_length_le (by omega), List.drop_of_length_le (by omega)]
  simp [Nat.add_assoc, Nat.add_comm, Nat.add_left_comm]
theorem heap_setCells_ne (b : Nat) {x : Nat} (hx : x ≠ b) : ∀ (vs : List Value) (o : Nat) (w : World), (w.setCells b o vs).heap[x]? = w.heap[x]?
 | [], _, _ => rfl
 | v :: vs, o, w => by
  rw [World.setCells, heap_setCells_ne b hx vs (o + 1)]
  simp only [World.setCell, Array.getElem?_modify]
  rw [if_neg (fun e => hx e.symm)]
theorem setCells_same (b : Nat) : ∀ (vs : List Value) (o : Nat) (w : World), (w.setCells b o vs).heap.size = w.heap.size ∧ (w.setCells b o vs).os = w.os ∧ (w.setCells b o vs).tape = w.tape ∧ (w.setCells b o vs).output = w.output ∧ (w.setCells b o vs).drawn = w.drawn
 | [], _, _ => ⟨rfl, rfl, rfl, rfl, rfl⟩
 | v :: vs, o, w => by
  obtain ⟨h1, h2, h3, h4, h5⟩ := setCells_same b vs (o + 1) (w.setCell ⟨b, o, none⟩ v)
  rw [World.setCells]
  exact ⟨by rw [h1]; simp [World.setCell], by rw [h2]; rfl, by rw [h3]; rfl, by rw [h4]; rfl, by rw [h5]; rfl⟩
theorem frozen_not {w : World} {b : Nat} {c : Array Value} {e : TypeId} {fr : Nat × Nat} (h : w.heap[b]? = some (.cells c e fr)) {o : Nat} (hf : ¬ (fr.1 ≤ o ∧ o < fr.2)) : w.frozen? ⟨b, o, none⟩ = false := by
 obtain ⟨lo, hi⟩ := fr
 simp [World.frozen?, h]
 simpa using hf
theorem run_store_cells {t : Nat} {w : World} {b o : Nat} {c : Array Value} {e : TypeId} {fr : Nat × Nat} {v : Value} (hi : ∃ i, P.info? t = some i) (h : w.heap[b]? = some (.cells c e fr)) (hs : v.cells.size = P.cellsOf t)
  (hle : o + v.cells.size ≤ c.size) (hf : ∀ o, o < c.size → ¬ (fr.1 ≤ o ∧ o < fr.2)) (h1 : ∀ u ∈ v.cells.toList, u.oneCell' = true) :
  (Instr.storeAt t (.pointer (some ⟨b, o, none⟩)) v).run P w = .ok () (w.setCells b o v.cells.toList) := by
 obtain ⟨i, hi⟩ := hi
 simp only [Instr.storeAt, Instr.sureAddr, Sem.run_bind, Sem.run_pure, Result.andThen, storeVar, run_sizeOf hi]
 rw [if_neg (by rw [hs]; simp)]
 have := run_storeCells_cells (P := P) b o v.cells.toList 0 w (fun j hj => by
   rw [cell_at h]; simp at hj ⊢; omega) (fun j hj => frozen_not h (hf _ (by simp at hj; omega))) h1
 simpa using this
theorem store_sound {g : Ghost} {σ : Store} {w : World} {t : Nat} {a x : AV} {va vx : Value} {K : Store → Prop} (hok : TOk P t) (h : astore (tabOf P) σ t a x K) (R : StoreRel P g σ w) (ha : RepA g w a va) (hx : RepA g w x vx) :
    UpU (P := P) g σ w K ((Instr.storeAt t va vx).run P w) := by
  unfold astore at h
  split at h
  · rename_i i r c l hkn hl
    obtain ⟨hrep, hone⟩ := cells_ok hx hl
    split at h
    · rename_i sz rs ho
      obtain ⟨row, hrow, hlen, hle, hK⟩ := h
      simp only [setK_eq] at hK
      cases ha with
      | ref _ _ _ hi =>
      have hob := R.ob i hi
      rw [ho] at hob
      obtain ⟨hk, hz, cc, fr, hw, hf, hs, hl', hr⟩ := hob.at hrow
      obtain ⟨hrl, hcell⟩ := hr r row hrow
      have hrlt := lt_of_some hrow
      have hvl : vx.cells.size = l.length := by rw [hrep.len]; simp
      have hbound : r * g.sz i + g.sz i ≤ cc.size := by
        rw [hs, ← Nat.succ_mul]; exact Nat.mul_le_mul_right _ (by omega)
      have hone' : ∀ u ∈ vx.cells.toList, u.oneCell' = true := by
        intro u hu
        obtain ⟨k, hk1, hk2⟩ := List.mem_iff_getElem.1 hu
        obtain ⟨b, hb⟩ := getElem?_of_lt (l := l) (j := k) (by rw [hrep.len]; exact hk1)
        exact one_ok (hrep.2 k b u hb (by rw [List.getElem?_eq_getElem hk1, hk2])) (hone b (List.mem_of_getElem? hb))
      have hrun := run_store_cells (P := P) (t := t) (o := r * g.sz i + c) hok.info hw (by rw [hvl, hlen, hok.size]) (by omega) hf hone'
      rw [hrun]
      obtain ⟨s1, s2, s3, s4, s5⟩ := setCells_same (g.blk i) vx.cells.toList (r * g.sz i + c) w
      have hheap := heap_setCells (g.blk i) vx.cells.toList (r * g.sz i + c) w cc sz.2 fr hw (by simp; omega)
      have hother : ∀ b, b ≠ g.blk i → (w.setCells (g.blk i) (r * g.sz i + c) vx.cells.toList).heap[b]? = w.heap[b]? := fun b hb => heap_setCells_ne _ hb _ _ _
      have hkeep : Keeps g w g (w.setCells (g.blk i) (r * g.sz i + c) vx.cells.toList) := ⟨Nat.le_refl _, fun _ _ => ⟨rfl, rfl, rfl⟩, fun b hb => ⟨hb, hother b (fun e => by subst e; rw [show g.kind (g.blk i) = .imm from hb] at hk; cases hk)⟩⟩
      have hR := set_ok R i (.rows sz (rs.set r (row.take c ++ l ++ row.drop (c + l.length)))) hi (by rw [ho]; intro e; cases e) (w' := w.setCells (g.blk i) (r * g.sz i + c) vx.cells.toList)
        (fun b hb => hother b (fun e => hb (e ▸ hk))) s1 s2 s3 s4 (by
          refine .inr ⟨hk, hz, _, fr, hheap, ?_, ?_, by simpa using hl', fun r' row' hrow' => ?_⟩
          · have : (cc.toList.take (r * g.sz i + c) ++ vx.cells.toList ++ cc.toList.drop (r * g.sz i + c + vx.cells.toList.length)).toArray.size = cc.size := by simp; omega
            rw [this]; exact hf
          · rw [← hs]; simp; omega
          · have hget : ∀ k, ((cc.toList.take (r * g.sz i + c) ++ vx.cells.toList ++ cc.toList.drop (r * g.sz i + c + vx.cells.toList.length)).toArray)[k]? =
                if r * g.sz i + c ≤ k ∧ k < r * g.sz i + c + l.length then vx.cells.toList[k - (r * g.sz i + c)]? else cc[k]? := by
              intro k
              have hA : (cc.toList.take (r * g.sz i + c)).length = r * g.sz i + c := by simp; omega
              rw [List.getElem?_toArray]
              by_cases h1 : k < r * g.sz i + c
              · rw [if_neg (by omega), List.append_assoc, List.getElem?_append_left (by rw [hA]; exact h1), List.getElem?_take, if_pos h1]; simp
              · by_cases h2 : k < r * g.sz i + c + l.length
                · rw [if_pos (by omega), List.append_assoc, List.getElem?_append_right (by rw [hA]; omega), hA, List.getElem?_append_left (by simp; omega)]
                · rw [if_neg (by omega), List.getElem?_append_right (by simp; omega)]
                  rw [List.getElem?_drop]
                  simp only [List.length_append, hA, Array.length_toList, hvl]
                  rw [show r * g.sz i + c + l.length + (k - (r * g.sz i + c + l.length)) = k by omega]
                  simp
            by_cases hrr : r' = r
            · subst hrr
              rw [List.getElem?_set_self (by omega)] at hrow'
              cases hrow'
              refine ⟨by simp; omega, fun j a hja => ?_⟩
              rw [hget]
              have hA : (row.take c).length = c := by simp; omega
              by_cases h1 : j < c
              · rw [if_neg (by omega)]
                rw [List.append_assoc, List.getElem?_append_left (by rw [hA]; exact h1), List.getElem?_take, if_pos h1] at hja
                obtain ⟨u, hu, hra, ho1⟩ := hcell j a hja
                exact ⟨u, hu, hra.mono hkeep, ho1⟩
              · by_cases h2 : j < c + l.length
                · rw [if_pos (by omega)]
                  rw [List.append_assoc, List.getElem?_append_right (by rw [hA]; omega), hA, List.getElem?_append_left (by omega)] at hja
                  obtain ⟨u, hu⟩ := getElem?_of_lt (l := vx.cells.toList) (j := j - c) (by simp; omega)
                  have hra := hrep.2 _ a u hja hu
                  rw [show r' * g.sz i + j - (r' * g.sz i + c) = j - c by omega]
                  exact ⟨u, hu, hra.mono hkeep, one_ok hra (hone a (List.mem_of_getElem? hja))⟩
                · rw [if_neg (by omega)]
                  rw [List.getElem?_append_right (by simp; omega), List.getElem?_drop] at hja
                  simp only [List.length_append, hA] at hja
                  rw [show c + l.length + (j - (c + l.length)) = j by omega] at hja
                  obtain ⟨u, hu, hra, ho1⟩ := hcell j a hja
                  exact ⟨u, hu, hra.mono hkeep, ho1⟩
            · rw [List.getElem?_set_ne (fun e => hrr e.symm)] at hrow'
              obtain ⟨hrl', hcell'⟩ := hr r' row' hrow'
              refine ⟨hrl', fun j a hja => ?_⟩
              obtain ⟨u, hu, hra, ho1⟩ := hcell' j a hja
              have hj := lt_of_some hja
              rw [hget, if_neg ?_]
              · exact ⟨u, hu, hra.mono hkeep, ho1⟩
              · rintro ⟨q1, q2⟩
                rcases Nat.lt_or_gt_of_ne hrr with hlt | hlt
                · have : r' * g.sz i + g.sz i ≤ r * g.sz i := by rw [← Nat.succ_mul]; exact Nat.mul_le_mul_right _ hlt
                  omega
                · have : r * g.sz i + g.sz i ≤ r' * g.sz i := by rw [← Nat.succ_mul]; exact Nat.mul_le_mul_right _ hlt
                  omega)
      exact ⟨g, _, hR.1, hR.2, hK⟩
    · rename_i T' x0 y0 ho
      cases ha with
      | ref _ _ _ hi =>
      have hob := R.ob i hi
      rw [ho] at hob
      obtain ⟨hk, hz, hc, p, q, hw, h1, h2, o1, o2⟩ := hob
      have two : ∀ (k : Nat) (z : AV) (u : Value) (ob : Ob) (cs : Array Value), k < 2 → vx.cells = #[u] → (nth (tabOf P) t).size = 1 → u.oneCell' = true →
          cs = ((#[p, q] : Array Value).toList.take k ++ [u] ++ (#[p, q] : Array Value).toList.drop (k + 1)).toArray → K (σ.set i ob) → (∀ w', Keeps g w g w' → w'.heap[g.blk i]? = some (.cells cs T' (0, 0)) → ObRel g w' i ob) →
          UpU (P := P) g σ w K ((Instr.storeAt t (.pointer (some ⟨g.blk i, 0 * g.sz i + k, none⟩)) vx).run P w) := by
        intro k z u ob cs hk2 hcs hsz ho1 hcells hK hob'
        have hrun := run_store_cells (P := P) (t := t) (o := 0 * g.sz i + k) hok.info hw (by rw [hcs, ← hok.size, hsz]; rfl) (by rw [hcs]; simp; omega) (by intro o _; omega) (by rw [hcs]; simpa using ho1)
        rw [hrun]
        obtain ⟨s1, s2, s3, s4, s5⟩ := setCells_same (g.blk i) vx.cells.toList (0 * g.sz i + k) w
        have hheap := heap_setCells (g.blk i) vx.cells.toList (0 * g.sz i + k) w #[p, q] T' (0, 0) hw (by rw [hcs]; simp; omega)
        have hother : ∀ b, b ≠ g.blk i → (w.setCells (g.blk i) (0 * g.sz i + k) vx.cells.toList).heap[b]? = w.heap[b]? := fun b hb => heap_setCells_ne _ hb _ _ _
        have hkeep : Keeps g w g (w.setCells (g.blk i) (0 * g.sz i + k) vx.cells.toList) := ⟨Nat.le_refl _, fun _ _ => ⟨rfl, rfl, rfl⟩, fun b hb => ⟨hb, hother b (fun e => by subst e; rw [show g.kind (g.blk i) = .imm from hb] at hk; cases hk)⟩⟩
        have hR := set_ok R i ob hi (by rw [ho]; intro e; cases e) (w' := w.setCells (g.blk i) (0 * g.sz i + k) vx.cells.toList)
          (fun b hb => hother b (fun e => hb (e ▸ hk))) s1 s2 s3 s4 (hob' _ hkeep (by rw [hheap, hcells, hcs]; simp [Nat.zero_mul]))
        exact ⟨g, _, hR.1, hR.2, hK⟩
      split at h
      · rename_i z hs1
        rw [setK_eq] at h
        obtain ⟨u, hu⟩ : ∃ u, vx.cells.toList = [u] := by
          have := hrep.len
          match hv : vx.cells.toList, this with
          | [u], _ => exact ⟨u, rfl⟩
        have hcs : vx.cells = #[u] := by apply Array.ext'; exact hu
        have hz1 : RepA g w z u := hrep.2 0 z u rfl (by rw [hu]; rfl)
        have ho1 : u.oneCell' = true := one_ok hz1 (hone z (by simp))
        exact two 0 z u (.two T' z y0) #[u, q] (by omega) hcs hs1 ho1 rfl h (fun w' kp hw' => ⟨hk, hz, hc, u, q, hw', hz1.mono kp, h2.mono kp, ho1, o2⟩)
      · rename_i z hs1
        rw [setK_eq] at h
        obtain ⟨u, hu⟩ : ∃ u, vx.cells.toList = [u] := by
          have := hrep.len
          match hv : vx.cells.toList, this with
          | [u], _ => exact ⟨u, rfl⟩
        have hcs : vx.cells = #[u] := by apply Array.ext'; exact hu
        have hz1 : RepA g w z u := hrep.2 0 z u rfl (by rw [hu]; rfl)
        have ho1 : u.oneCell' = true := one_ok hz1 (hone z (by simp))
        exact two 1 z u (.two T' x0 z) #[p, u] (by omega) hcs hs1 ho1 rfl h (fun w' kp hw' => ⟨hk, hz, hc, p, u, hw', h1.mono kp, hz1.mono kp, o1, ho1⟩)
      · exact h.elim
    · exact h.elim
  · exact h.elim
end
end Go.Aw

