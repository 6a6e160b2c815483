/- The abstract walk, eleventh part: a state told anew; a contract over few objects, used where there are more. -/
import Derived.Test.YtcmkiancbgmmhaaAwA
namespace Go.Aw
set_option linter.unusedVariables false
set_option linter.unusedSimpArgs false

def idx : List VE → Nat → Nat → Option Nat
  | [], _, _ => none
  | .old j :: r, k, a => match Nat.beq j k with
    | true => some a
    | false => idx r k (a + 1)
  | .phan _ :: r, k, a => idx r k (a + 1)
def inv (B : Nat) (r : List VE) (k : Nat) : Option Nat := if k < B then some k else idx r k B
def goodr (B n : Nat) : List VE → Bool
  | [] => true
  | .old k :: r => Nat.ble B k && Nat.ble (k + 1) n && (idx r k 0).isNone && goodr B n r
  | .phan _ :: r => goodr B n r

theorem nthE_lt : ∀ {r : List VE} {i : Nat} {e : VE}, nthE r i = some e → i < r.length
  | e :: r, 0, _, _ => by simp
  | e :: r, i + 1, x, h => by have := nthE_lt (r := r) h; simp; omega
  | [], i, e, h => by cases h
theorem idx_some : ∀ {r : List VE} {k a i : Nat}, idx r k a = some i → ∃ j, i = a + j ∧ nthE r j = some (.old k)
  | .old m :: r, k, a, i, h => by
    simp only [idx] at h
    split at h
    · rename_i hb
      have := Nat.eq_of_beq_eq_true hb
      subst this
      cases h
      exact ⟨0, rfl, rfl⟩
    · obtain ⟨j, h1, h2⟩ := idx_some h
      exact ⟨j + 1, by omega, h2⟩
  | .phan _ :: r, k, a, i, h => by
    obtain ⟨j, h1, h2⟩ := idx_some (r := r) h
    exact ⟨j + 1, by omega, h2⟩
  | [], k, a, i, h => by cases h
theorem idx_none : ∀ {r : List VE} {k a : Nat}, idx r k a = none → ∀ j, nthE r j ≠ some (.old k)
  | .old m :: r, k, a, h, j => by
    simp only [idx] at h
    split at h
    · cases h
    · rename_i hb
      cases j with
      | zero => intro e; cases e; rw [Nat.beq_refl] at hb; cases hb
      | succ j => exact idx_none h j
  | .phan _ :: r, k, a, h, j => by
    cases j with
    | zero => intro e; cases e
    | succ j => exact idx_none (r := r) h j
  | [], k, a, h, j => by intro e; cases e
theorem idx_none_any {r : List VE} {k a b : Nat} (h : idx r k a = none) : idx r k b = none := by
  cases hb : idx r k b with
  | none => rfl
  | some i => obtain ⟨j, _, hj⟩ := idx_some hb; exact absurd hj (idx_none h j)
theorem idx_of_nth {B n : Nat} : ∀ {r : List VE} {j k a : Nat}, goodr B n r = true → nthE r j = some (.old k) → idx r k a = some (a + j)
  | .old m :: r, 0, k, a, hg, h => by cases h; simp [idx, Nat.beq_refl]
  | .old m :: r, j + 1, k, a, hg, h => by
    simp only [goodr, Bool.and_eq_true] at hg
    have hne : m ≠ k := fun e => by
      subst e
      have := idx_none (r := r) (k := m) (a := 0) (by simpa using hg.1.2) j
      exact this h
    have : Nat.beq m k = false := by
      cases hb : Nat.beq m k with
      | false => rfl
      | true => exact absurd (Nat.eq_of_beq_eq_true hb) hne
    simp only [idx, this]
    rw [idx_of_nth hg.2 h]; congr 1; omega
  | .phan _ :: r, 0, k, a, hg, h => by cases h
  | .phan _ :: r, j + 1, k, a, hg, h => by
    simp only [idx]
    rw [idx_of_nth (r := r) hg h]; congr 1; omega
  | [], j, k, a, hg, h => by cases h
theorem good_nth {B n : Nat} : ∀ {r : List VE} {j k : Nat}, goodr B n r = true → nthE r j = some (.old k) → B ≤ k ∧ k < n
  | .old m :: r, 0, k, hg, h => by
    cases h
    simp only [goodr, Bool.and_eq_true] at hg
    exact ⟨Nat.le_of_ble_eq_true hg.1.1.1, Nat.le_of_ble_eq_true hg.1.1.2⟩
  | .old m :: r, j + 1, k, hg, h => by
    simp only [goodr, Bool.and_eq_true] at hg
    exact good_nth hg.2 h
  | .phan _ :: r, 0, k, hg, h => by cases h
  | .phan _ :: r, j + 1, k, hg, h => good_nth (r := r) hg h
  | [], j, k, hg, h => by cases h

theorem phi_lo {B : Nat} {r : List VE} {i : Nat} (h : i < B) : phi B r i = some (.old i) := by
  unfold phi
  have : Nat.ble B i = false := by
    cases hb : Nat.ble B i with
    | false => rfl
    | true => have := Nat.le_of_ble_eq_true hb; omega
  rw [this]
theorem phi_hi {B : Nat} {r : List VE} {i : Nat} (h : B ≤ i) : phi B r i = nthE r (i - B) := by
  unfold phi
  rw [Nat.ble_eq_true_of_le h]
theorem phi_lt {B : Nat} {r : List VE} {i : Nat} {e : VE} (h : phi B r i = some e) : i < B + r.length := by
  rcases Nat.lt_or_ge i B with h' | h'
  · omega
  · rw [phi_hi h'] at h
    have := nthE_lt h
    omega
theorem phi_old {B n : Nat} {r : List VE} {i k : Nat} (hg : goodr B n r = true) (hB : B ≤ n) (h : phi B r i = some (.old k)) : k < n ∧ inv B r k = some i := by
  rcases Nat.lt_or_ge i B with h' | h'
  · rw [phi_lo h'] at h; cases h; exact ⟨by omega, by simp [inv, h']⟩
  · rw [phi_hi h'] at h
    obtain ⟨q1, q2⟩ := good_nth hg h
    refine ⟨q2, ?_⟩
    unfold inv
    rw [if_neg (by omega), idx_of_nth hg h]
    congr 1; omega
theorem inv_phi {B : Nat} {r : List VE} {i k : Nat} (h : inv B r k = some i) : phi B r i = some (.old k) := by
  unfold inv at h
  split at h
  · cases h; exact phi_lo (by assumption)
  · obtain ⟨j, rfl, hj⟩ := idx_some h
    rw [phi_hi (by omega), Nat.add_sub_cancel_left]; exact hj

/-- One object of a new store. -/
def entry (f : Nat → Option VE) (σ : Store) (i : Nat) (o : Ob) : Prop := match f i with
  | some (.old k) => orel f o (σ.get k)
  | some (.phan sz) => (match o with | .rows sz' [] => sz = sz'.1 | .dead => True | _ => False)
  | none => (match o with | .dead => True | _ => False)
def orelS (f : Nat → Option VE) (σ : Store) : List (Nat × Ob) → Prop
  | [] => True
  | (i, o) :: r => entry f σ i o ∧ orelS f σ r
theorem orelS_look {f : Nat → Option VE} {σ : Store} : ∀ {objs : List (Nat × Ob)} {i : Nat}, orelS f σ objs → look .dead objs i = .dead ∨ entry f σ i (look .dead objs i)
  | [], i, _ => .inl rfl
  | (j, o) :: r, i, h => by
    rw [look_cons]
    split
    · rename_i e; subst e; exact .inr h.1
    · exact orelS_look h.2

structure View (B : Nat) (r : List VE) (σ σ' : Store) : Prop where
  hB : B ≤ σ.n
  n : σ'.n = B + r.length
  good : goodr B σ.n r = true
  obs : orelS (phi B r) σ σ'.objs

def Ghost.view (g : Ghost) (B : Nat) (r : List VE) : Ghost where
  n := B + r.length
  blk i := match phi B r i with | some (.old k) => g.blk k | _ => 0
  sz i := match phi B r i with | some (.old k) => g.sz k | some (.phan s) => s | none => 0
  cap i := match phi B r i with | some (.old k) => g.cap k | _ => 0
  kind b := match g.kind b with
    | .own k => (match inv B r k with | some i => .own i | none => .free)
    | x => x

theorem tr_view (g : Ghost) (B : Nat) (r : List VE) : Tr (phi B r) g (g.view B r) where
  old i k h hk := ⟨phi_lt h, by simp [Ghost.view, h], by simp [Ghost.view, h], by simp [Ghost.view, h]⟩
  phan i sz h := ⟨phi_lt h, by simp [Ghost.view, h], by simp [Ghost.view, h]⟩
  imm b h := by
    have h' : g.kind b = .imm := h
    simp [Ghost.imm, Ghost.view, h']

theorem view_store {P : Program} {g : Ghost} {w : World} {B : Nat} {r : List VE} {σ σ' : Store} (R : StoreRel P g σ w) (h : View B r σ σ') : StoreRel P (g.view B r) σ' w := by
  have hBn : B ≤ g.n := by rw [← R.n]; exact h.hB
  have hgood : goodr B g.n r = true := by rw [← R.n]; exact h.good
  refine ⟨h.n, fun b hb => R.lt b (fun hf => hb ?_), fun b i hb => ?_, fun i hi => ?_, fun i hi => ?_, fun x hx => ⟨by have hi : g.kind x = .imm := (R.glob x hx).1; simp [Ghost.imm, Ghost.view, hi], (R.glob x hx).2⟩⟩
  · simp [Ghost.view, hf]
  · simp only [Ghost.view] at hb ⊢
    cases hk : g.kind b with
    | own k =>
      rw [hk] at hb
      dsimp only at hb
      split at hb
      · rename_i j hj
        cases hb
        exact phi_lt (inv_phi hj)
      · cases hb
    | _ => rw [hk] at hb; cases hb
  · have hn : phi B r i = none := by
      cases hp : phi B r i with
      | none => rfl
      | some e => have := phi_lt hp; simp only [Ghost.view] at hi; omega
    rcases orelS_look (i := i) h.obs with h1 | h1
    · exact h1
    · unfold entry at h1
      rw [hn] at h1
      dsimp only at h1
      show look .dead σ'.objs i = .dead
      split at h1
      · assumption
      · exact h1.elim
  · rcases orelS_look (i := i) h.obs with h1 | h1
    · show ObRel _ _ _ (look .dead σ'.objs i)
      rw [h1]; trivial
    · show ObRel _ _ _ (look .dead σ'.objs i)
      generalize look .dead σ'.objs i = o at h1
      unfold entry at h1
      split at h1
      · rename_i k hk
        obtain ⟨q1, q2⟩ := phi_old hgood hBn hk
        refine (R.ob k q1).tr (tr_view g B r) hk q1 (fun b hb => ?_) h1
        simp [Ghost.view, hb, q2]
      · rename_i sz hk
        split at h1
        · subst h1
          exact Or.inl ⟨rfl, by simp [Ghost.view, hk], by simp [Ghost.view, hk]⟩
        · trivial
        · exact h1.elim
      · split at h1
        · trivial
        · exact h1.elim

theorem view_ext {P : Program} {g : Ghost} {w : World} {B : Nat} {r : List VE} {σ σ' : Store} (R : StoreRel P g σ w) (h : View B r σ σ') : ExtB B g σ w (g.view B r) σ' w := by
  refine ⟨by simp [Ghost.view], fun i hi => ?_, fun i hi hd => ?_, Nat.le_refl _, fun b hb ho => ⟨?_, rfl⟩, rfl, rfl, rfl⟩
  · simp [Ghost.view, phi_lo hi]
  · rcases orelS_look (i := i) h.obs with h1 | h1
    · exact h1
    · unfold entry at h1
      rw [phi_lo hi] at h1
      dsimp only at h1
      rw [hd] at h1
      exact orel_dead h1
  · simp only [Ghost.view]
    cases hk : g.kind b with
    | own k =>
      have := (ho k hk).1
      simp [inv, this]
    | _ => rfl

def vrelS (f : Nat → Option VE) (s : St) : St → Prop
  | [] => True
  | (k, v) :: r => vrel f v (look .top s k) ∧ vrelS f s r
theorem vrelS_look {f : Nat → Option VE} {s : St} : ∀ {s' : St} {t : Nat}, vrelS f s s' → vrel f (look .top s' t) (look .top s t)
  | [], t, h => by simp [look, vrel]
  | (k, v) :: r, t, h => by
    rw [look_cons]
    split
    · rename_i e; subst e; exact h.1
    · exact vrelS_look h.2

/-- A state told anew. -/
def Mv (B : Nat) (s : St) (σ : Store) (s' : St) (σ' : Store) : Prop := ∃ r, View B r σ σ' ∧ vrelS (phi B r) s s'
theorem Mv.of {B : Nat} {s s' : St} {σ σ' : Store} (r : List VE) (hB : Nat.ble B σ.n = true) (hn : σ'.n = B + r.length) (hg : goodr B σ.n r = true) (ho : orelS (phi B r) σ σ'.objs) (hs : vrelS (phi B r) s s') : Mv B s σ s' σ' :=
  ⟨r, ⟨Nat.le_of_ble_eq_true hB, hn, hg, ho⟩, hs⟩

section
variable {P : Program} {N B : Nat}

theorem RelT.view {g : Ghost} {w : World} {r : List VE} {s s' : St} {a : Act} (h : vrelS (phi B r) s s') (hT : RelT N g w s a) : RelT N (g.view B r) w s' a :=
  ⟨hT.size, hT.defers, fun t => (hT.rep t).tr (tr_view g B r) _ (vrelS_look h)⟩

theorem E.view {c : Code} {K : Exit → St → Store → Prop} {s s' : St} {σ σ' : Store} (hm : Mv B s σ s' σ') (h : E P N B c K s' σ') : E P N B c K s σ := fun g a w hB hT R => by
  obtain ⟨r, hv, hs⟩ := hm
  have hE := view_ext R hv
  exact wp_mono (h (g.view B r) a w hE.n (hT.view hs) (view_store R hv)) fun e a' w' ⟨s2, σ2, g2, q1, q2, q3, q4⟩ => ⟨s2, σ2, g2, q1, q2, hE.trans q3, q4⟩

/-- A LOOP: at each round's head what holds of the slots and the objects, and a number that goes down. -/
theorem E.loop {c : Code} {K : Exit → St → Store → Prop} (I : Nat → St → Store → Prop)
    (round : ∀ n s σ, I n s σ → E P N B c (fun e s' σ' => match e with | .normal => ∃ n' s'' σ'', I n' s'' σ'' ∧ n' < n ∧ Mv B s' σ' s'' σ'' | e => K e s' σ') s σ)
    {n : Nat} {s : St} {σ : Store} (h0 : I n s σ) : E P N B (.loop c) K s σ := fun g a w hB hT R => by
  -- the machine's loop rule, by induction on the number
  have key : ∀ n, ∀ (s : St) (σ : Store) (g1 : Ghost) (a1 : Act) (w1 : World), I n s σ → B ≤ g1.n → RelT N g1 w1 s a1 → StoreRel P g1 σ w1 →
      ∀ (b : Frame) (k : List Item) (cs : List Frame), ∃ e a' w', Post (P := P) N B g1 σ w1 K e a' w' ∧ Arrives P (lone (b.at a1 (.code c :: .inLoop c :: k)) cs w1) b k cs e a' w' := by
    intro n
    induction n using Nat.strongRecOn with
    | _ n ih =>
      intro s σ g1 a1 w1 hI hB1 hT1 R1 b k cs
      obtain ⟨e, a', w', ⟨s', σ', g', q1, q2, q3, q4⟩, harr⟩ := (round n s σ hI) g1 a1 w1 hB1 hT1 R1 b (.inLoop c :: k) cs
      cases e with
      | normal =>
        obtain ⟨n', s'', σ'', hI', hlt, r, hv, hs⟩ := q1
        have hE := view_ext q4 hv
        obtain ⟨e2, a2, w2, ⟨s2, σ2, g2, p1, p2, p3, p4⟩, harr2⟩ := ih n' hlt s'' σ'' (g'.view B r) a' w' hI' hE.n (q2.view hs) (view_store q4 hv) b k cs
        exact ⟨e2, a2, w2, ⟨s2, σ2, g2, p1, p2, (q3.trans hE).trans p3, p4⟩, .of_steps (Steps.trans harr (.one step_inLoop)) harr2⟩
      | exit id => exact ⟨_, a', w', ⟨s', σ', g', q1, q2, q3, q4⟩, .pass (x := .inLoop c) rfl (fun _ _ => .inl (by simp)) harr⟩
      | goto l => exact ⟨_, a', w', ⟨s', σ', g', q1, q2, q3, q4⟩, .pass (x := .inLoop c) rfl (fun _ _ => .inl (by simp)) harr⟩
      | ret => exact ⟨_, a', w', ⟨s', σ', g', q1, q2, q3, q4⟩, .pass (x := .inLoop c) rfl (fun _ _ => .inl (by simp)) harr⟩
      | panic ch => exact ⟨_, a', w', ⟨s', σ', g', q1, q2, q3, q4⟩, .pass (x := .inLoop c) rfl (fun _ _ => .inl (by simp)) harr⟩
      | outgrown => exact ⟨_, a', w', ⟨s', σ', g', q1, q2, q3, q4⟩, .pass (x := .inLoop c) rfl (fun _ _ => .inl (by simp)) harr⟩
  intro b k cs
  obtain ⟨e, a', w', hq, harr⟩ := key n s σ g a w h0 hB hT R b k cs
  exact ⟨e, a', w', hq, .of_steps (.one step_loop) harr⟩

theorem loopT (hw : wfP P = true) {T : List TI} (hT : tabOf P = T) {c : Code} {K : Exit → St → Store → Prop} (I : Nat → St → Store → Prop)
    {n : Nat} {s s0 : St} {σ σ0 : Store} (h0 : I n s0 σ0) (hl : Mv B s σ s0 σ0)
    (round : ∀ n s σ, I n s σ → awp T P N B c (fun e s' σ' => match e with | .normal => ∃ n' s'' σ'', I n' s'' σ'' ∧ n' < n ∧ Mv B s' σ' s'' σ'' | e => K e s' σ') s σ) : E P N B (.loop c) K s σ := by
  subst hT
  exact (E.loop I (fun n s σ h => awp_sound hw c _ s σ (round n s σ h)) h0).view hl
theorem loopE {c : Code} {K : Exit → St → Store → Prop} (I : Nat → St → Store → Prop)
    {n : Nat} {s s0 : St} {σ σ0 : Store} (h0 : I n s0 σ0) (hl : Mv B s σ s0 σ0)
    (round : ∀ n s σ, I n s σ → E P N B c (fun e s' σ' => match e with | .normal => ∃ n' s'' σ'', I n' s'' σ'' ∧ n' < n ∧ Mv B s' σ' s'' σ'' | e => K e s' σ') s σ) : E P N B (.loop c) K s σ :=
  (E.loop I round h0).view hl

/-- One thing behind another. -/
theorem E.seq {x y : Code} {K : Exit → St → Store → Prop} {s : St} {σ : Store} (h : E P N B x (fun e s σ => match e with | .normal => E P N B y K s σ | e => K e s σ) s σ) : E P N B (.seq x y) K s σ := fun g a w hB hT R => by
  refine wp_seq (wp_mono (h g a w hB hT R) fun e a' w' ⟨s', σ', g', h1, h2, h3, h4⟩ => ?_)
  cases e with
  | normal => exact wp_mono (h1 g' a' w' h3.n h2 h4) fun e a'' w'' ⟨s'', σ'', g'', q1, q2, q3, q4⟩ => ⟨s'', σ'', g'', q1, q2, h3.trans q3, q4⟩
  | _ => exact ⟨s', σ', g', h1, h2, h3, h4⟩
theorem E.of (hw : wfP P = true) {T : List TI} (hT : tabOf P = T) {c : Code} {K : Exit → St → Store → Prop} {s : St} {σ : Store} (h : awp T P N B c K s σ) : E P N B c K s σ := by
  subst hT; exact awp_sound hw c K s σ h

/-- How the end of a call may be told otherwise. -/
def FinMove (σ0 : Store) (r : AV) (σ : Store) (r' : AV) (σ' : Store) : Prop :=
  ∀ (P : Program) (g0 g : Ghost) (w0 w : World) (v : Value), StoreRel P g0 σ0 w0 → Ext g0 σ0 w0 g σ w → StoreRel P g σ w → RepA g w r v → ∃ g', Ext g0 σ0 w0 g' σ' w ∧ StoreRel P g' σ' w ∧ RepA g' w r' v

theorem FinMove.refl (σ0 : Store) (r : AV) (σ : Store) : FinMove σ0 r σ r σ := fun _ g0 g w0 w v R0 hE R hr => ⟨g, hE, R, hr⟩
theorem FinMove.trans {σ0 : Store} {r r' r'' : AV} {σ σ' σ'' : Store} (h : FinMove σ0 r σ r' σ') (k : FinMove σ0 r' σ' r'' σ'') : FinMove σ0 r σ r'' σ'' := fun _ g0 g w0 w v R0 hE R hr => by
  obtain ⟨g1, h1, h2, h3⟩ := h _ g0 g w0 w v R0 hE R hr
  exact k _ g0 g1 w0 w v R0 h1 h2 h3
theorem Enters.fin {f : FuncId} {args : List AV} {σ : Store} {R : AV → Store → Prop} (h : Enters P f args σ fun r σ1 => ∃ r' σ', FinMove σ r σ1 r' σ' ∧ R r' σ') : Enters P f args σ R := by
  refine ⟨h.1, fun g w vs hS hL => (h.2 g w vs hS hL).mono fun e w' ⟨v, g1, σ1, r, he, h1, h2, h3, r', σ', hm, hR⟩ => ?_⟩
  obtain ⟨g2, q1, q2, q3⟩ := hm _ g g1 w w' v hS h1 h2 h3
  exact ⟨v, g2, σ', r', he, q1, q2, q3, hR⟩

/-- The end of a call told by other numbers. -/
theorem fin_view {σ0 σ σ' : Store} {r r' : AV} (q : List VE) (hv : View σ0.n q σ σ') (hr : vrel (phi σ0.n q) r' r) : FinMove σ0 r σ r' σ' := fun _ g0 g w0 w v R0 hE R hrep => by
  have h1 := view_ext R hv
  refine ⟨g.view σ0.n q, ?_, view_store R hv, hrep.tr (tr_view g _ q) _ hr⟩
  have hn : σ0.n = g0.n := R0.n
  have h2 : ExtB g0.n g σ w (g.view σ0.n q) σ' w := hn ▸ h1
  exact ((hE.toB (Nat.le_refl _)).trans h2).toExt R0
theorem fin_mv {σ0 σ σ' : Store} {r r' : AV} (q : List VE) (hB : Nat.ble σ0.n σ.n = true) (hn : σ'.n = σ0.n + q.length) (hg : goodr σ0.n σ.n q = true) (ho : orelS (phi σ0.n q) σ σ'.objs) (hr : vrel (phi σ0.n q) r' r) : FinMove σ0 r σ r' σ' :=
  fin_view q ⟨Nat.le_of_ble_eq_true hB, hn, hg, ho⟩ hr

def keys : List (Nat × Ob) → List Nat
  | [] => []
  | (i, _) :: r => i :: keys r
def covers (l : List Nat) : List VE → Bool
  | [] => true
  | .old k :: r => l.any (Nat.beq k) && covers l r
  | .phan _ :: r => covers l r
theorem covers_nth {l : List Nat} : ∀ {r : List VE} {j k : Nat}, covers l r = true → nthE r j = some (.old k) → k ∈ l
  | .old m :: r, 0, k, hc, h => by
    cases h
    simp only [covers, Bool.and_eq_true, List.any_eq_true] at hc
    obtain ⟨⟨x, hx, hb⟩, _⟩ := hc
    rw [Nat.eq_of_beq_eq_true hb]; exact hx
  | .old m :: r, j + 1, k, hc, h => by
    simp only [covers, Bool.and_eq_true] at hc
    exact covers_nth hc.2 h
  | .phan _ :: r, 0, k, hc, h => by cases h
  | .phan _ :: r, j + 1, k, hc, h => covers_nth (r := r) hc h
  | [], j, k, hc, h => by cases h
theorem look_app {news objs : List (Nat × Ob)} {i : Nat} : (i ∈ keys news → look .dead (news ++ objs) i = look .dead news i) ∧ (i ∉ keys news → look .dead (news ++ objs) i = look .dead objs i) := by
  induction news with
  | nil => exact ⟨fun h => by simp [keys] at h, fun _ => rfl⟩
  | cons x r ih =>
    obtain ⟨j, o⟩ := x
    simp only [List.cons_append, look_cons, keys, List.mem_cons]
    by_cases hj : j = i
    · subst hj; simp
    · simp only [if_neg hj]
      refine ⟨fun h => ih.1 ?_, fun h => ih.2 fun h' => h (.inr h')⟩
      rcases h with h | h
      · exact absurd h.symm hj
      · exact h

/-- Behind a call: the caller's numbers, to the call's. -/
def back (q : List VE) (n k0 n1 : Nat) (i : Nat) : Option VE := match Nat.ble n i with
  | true => (match Nat.ble (i + k0 + 1) (n1 + n) with | true => some (.old (i + k0 - n)) | false => none)
  | false => (match idx q i 0 with | some k => some (.old k) | none => none)

/-- A CALL OVER FEW OBJECTS. -/
theorem frame_core {P : Program} {g g1 : Ghost} {σ σ0 σ1 : Store} {w w' : World} {q : List VE} {r0 r : AV} {v : Value} {news : List (Nat × Ob)} (R : StoreRel P g σ w) (hv : View 0 q σ σ0) (hE : Ext (g.view 0 q) σ0 w g1 σ1 w') (S1 : StoreRel P g1 σ1 w') (hr : RepA g1 w' r0 v)
    (hobs : orelS (back q σ.n σ0.n σ1.n) σ1 news) (hcov : covers (keys news) q = true) (hrel : vrel (back q σ.n σ0.n σ1.n) r r0) :
    ∃ g2, Ext g σ w g2 ⟨σ.n + (σ1.n - σ0.n), news ++ σ.objs⟩ w' ∧ StoreRel P g2 ⟨σ.n + (σ1.n - σ0.n), news ++ σ.objs⟩ w' ∧ RepA g2 w' r v := by
  have S0 := view_store R hv
  have hgood : goodr 0 σ.n q = true := hv.good
  have hk0 : σ0.n = q.length := by have := hv.n; simpa using this
  have hgn : g.n = σ.n := R.n.symm
  have hg1n : g1.n = σ1.n := S1.n.symm
  have hle : σ0.n ≤ σ1.n := by rw [← hg1n, S0.n]; exact hE.n
  have hphi : ∀ i, phi 0 q i = nthE q i := fun i => by rw [phi_hi (Nat.zero_le _)]; rfl
  have hinv : ∀ k, inv 0 q k = idx q k 0 := fun k => by simp [inv]
  have hnlt : ∀ j e, nthE q j = some e → j < σ0.n := fun j e h => by rw [hk0]; exact nthE_lt h
  -- the call's own kinds at the beginning
  have kv : ∀ b, (g.view 0 q).kind b = match g.kind b with | .own k => (match idx q k 0 with | some i => .own i | none => .free) | x => x := fun b => by
    show (match g.kind b with | .own k => (match inv 0 q k with | some i => Kind.own i | none => .free) | x => x) = _
    cases g.kind b <;> simp [hinv]
  let g2 : Ghost := ⟨g.n + (g1.n - σ0.n), fun i => if i < g.n then g.blk i else g1.blk (i + σ0.n - g.n), fun i => if i < g.n then g.sz i else g1.sz (i + σ0.n - g.n), fun i => if i < g.n then g.cap i else g1.cap (i + σ0.n - g.n),
    fun b => match g1.kind b with
      | .imm => .imm
      | .own j => if j < σ0.n then (match nthE q j with | some (.old i) => .own i | _ => .free) else .own (j + g.n - σ0.n)
      | .free => (match g.kind b with | .own i => (if b < w.heap.size ∧ idx q i 0 = none then .own i else .free) | _ => .free)⟩
  have hdead0 : ∀ i k, idx q i 0 = some k → σ.get i = .dead → σ0.get k = .dead := by
    intro i k hi hd
    obtain ⟨j, rfl, hj⟩ := idx_some hi
    rcases orelS_look (i := 0 + j) hv.obs with h1 | h1
    · exact h1
    · unfold entry at h1
      rw [hphi, Nat.zero_add, hj] at h1
      dsimp only at h1
      rw [hd] at h1
      show look .dead σ0.objs (0 + j) = .dead
      rw [Nat.zero_add]; exact orel_dead h1
  have hbk_lo : ∀ i, i < g.n → back q σ.n σ0.n σ1.n i = (match idx q i 0 with | some k => some (.old k) | none => none) := by
    intro i hi
    unfold back
    have : Nat.ble σ.n i = false := by
      cases hb : Nat.ble σ.n i with
      | false => rfl
      | true => have := Nat.le_of_ble_eq_true hb; omega
    rw [this]
  have hbk_hi : ∀ i, g.n ≤ i → back q σ.n σ0.n σ1.n i = if i < g2.n then some (.old (i + σ0.n - g.n)) else none := by
    intro i hi
    unfold back
    rw [Nat.ble_eq_true_of_le (by omega)]
    dsimp only
    by_cases h : i < g2.n
    · rw [if_pos h, Nat.ble_eq_true_of_le (by simp only [g2] at h; omega), hgn]
    · rw [if_neg h]
      have : Nat.ble (i + σ0.n + 1) (σ1.n + σ.n) = false := by
        cases hb : Nat.ble (i + σ0.n + 1) (σ1.n + σ.n) with
        | false => rfl
        | true => have := Nat.le_of_ble_eq_true hb; simp only [g2] at h; omega
      rw [this]
  have T2 : Tr (back q σ.n σ0.n σ1.n) g1 g2 := by
    refine ⟨fun i k h hk => ?_, fun i sz h => ?_, fun b hb => ?_⟩
    · rcases Nat.lt_or_ge i g.n with hi | hi
      · rw [hbk_lo i hi] at h
        split at h
        · rename_i k' hk'
          cases h
          obtain ⟨j, rfl, hj⟩ := idx_some hk'
          rw [Nat.zero_add] at hk ⊢
          have hjl := hnlt j _ hj
          obtain ⟨p1, p2, p3⟩ := hE.place j (by rw [← S0.n]; exact hjl)
          have hpj : phi 0 q j = some (.old i) := by rw [hphi]; exact hj
          refine ⟨by simp only [g2]; omega, ?_, ?_, ?_⟩
          · simp only [g2, if_pos hi]; rw [p1]; simp [Ghost.view, hpj]
          · simp only [g2, if_pos hi]; rw [p2]; simp [Ghost.view, hpj]
          · simp only [g2, if_pos hi]; rw [p3]; simp [Ghost.view, hpj]
        · cases h
      · rw [hbk_hi i hi] at h
        split at h
        · rename_i hi2
          cases h
          have hn : ¬ i < g.n := by omega
          exact ⟨hi2, by simp [g2, hn], by simp [g2, hn], by simp [g2, hn]⟩
        · cases h
    · exfalso
      unfold back at h
      repeat' split at h
      all_goals cases h
    · have : g1.kind b = .imm := hb
      simp [Ghost.imm, g2, this]
  -- what the call keeps
  have keepI : ∀ b, g.kind b = .imm → g2.kind b = .imm ∧ w'.heap[b]? = w.heap[b]? := by
    intro b hb
    have hlt := R.lt b (by rw [hb]; intro q; cases q)
    have h0 : (g.view 0 q).kind b = .imm := by rw [kv, hb]
    obtain ⟨p1, p2⟩ := hE.keep b hlt (fun j hj => by rw [h0] at hj; cases hj)
    rw [h0] at p1
    exact ⟨by simp [g2, p1], p2⟩
  have keepO : ∀ b i, g.kind b = .own i → idx q i 0 = none → g2.kind b = .own i ∧ w'.heap[b]? = w.heap[b]? := by
    intro b i hb hi
    have hlt := R.lt b (by rw [hb]; intro q; cases q)
    have h0 : (g.view 0 q).kind b = .free := by rw [kv, hb]; simp [hi]
    obtain ⟨p1, p2⟩ := hE.keep b hlt (fun j hj => by rw [h0] at hj; cases hj)
    rw [h0] at p1
    exact ⟨by simp [g2, p1, hb, hi, hlt], p2⟩
  have keepD : ∀ b i k, b < w.heap.size → g.kind b = .own i → idx q i 0 = some k → σ.get i = .dead → g2.kind b = .own i ∧ w'.heap[b]? = w.heap[b]? := by
    intro b i k hlt hb hi hd
    have h0 : (g.view 0 q).kind b = .own k := by rw [kv, hb]; simp [hi]
    have hd0 := hdead0 i k hi hd
    obtain ⟨p1, p2⟩ := hE.keep b hlt (fun j hj => by rw [h0] at hj; cases hj; exact hd0)
    rw [h0] at p1
    obtain ⟨j, rfl, hj⟩ := idx_some hi
    rw [Nat.zero_add] at p1
    exact ⟨by simp [g2, p1, hnlt j _ hj, hj], p2⟩
  have keepF : ∀ b, b < w.heap.size → g.kind b = .free → g2.kind b = .free ∧ w'.heap[b]? = w.heap[b]? := by
    intro b hlt hb
    have h0 : (g.view 0 q).kind b = .free := by rw [kv, hb]
    obtain ⟨p1, p2⟩ := hE.keep b hlt (fun j hj => by rw [h0] at hj; cases hj)
    rw [h0] at p1
    exact ⟨by simp [g2, p1, hb], p2⟩
  have hkeeps : Keeps g w g2 w' := ⟨by simp only [g2]; omega, fun i hi => by simp [g2, hi], fun b hb => keepI b hb⟩
  have hnews : ∀ i, i ∈ keys news → look .dead (news ++ σ.objs) i = .dead ∨ entry (back q σ.n σ0.n σ1.n) σ1 i (look .dead (news ++ σ.objs) i) := by
    intro i hi
    rw [look_app.1 hi]
    exact orelS_look hobs
  refine ⟨g2, ?_, ?_, hr.tr T2 r hrel⟩
  · refine ⟨by simp only [g2]; omega, fun i hi => by simp [g2, hi], fun i hi hd => ?_, hE.size, fun b hb ho => ?_, hE.os, hE.tape, hE.output⟩
    · show look .dead (news ++ σ.objs) i = .dead
      by_cases hk : i ∈ keys news
      · rcases hnews i hk with h1 | h1
        · exact h1
        · unfold entry at h1
          rw [hbk_lo i hi] at h1
          cases hx : idx q i 0 with
          | none =>
            rw [hx] at h1
            dsimp only at h1
            split at h1
            · assumption
            · exact h1.elim
          | some k =>
            rw [hx] at h1
            dsimp only at h1
            have hd0 := hdead0 i k hx hd
            have hkn : k < σ0.n := by obtain ⟨j, rfl, hj⟩ := idx_some hx; rw [Nat.zero_add]; exact hnlt j _ hj
            have hd1 := hE.dead k (by rw [← S0.n]; exact hkn) hd0
            rw [hd1] at h1
            exact orel_dead h1
      · rw [look_app.2 hk]; exact hd
    · cases hk : g.kind b with
      | imm => exact keepI b hk
      | free => exact keepF b hb hk
      | own i =>
        cases hx : idx q i 0 with
        | none => exact keepO b i hk hx
        | some k => exact keepD b i k hb hk hx (ho i hk)
  · refine ⟨by show σ.n + (σ1.n - σ0.n) = g.n + (g1.n - σ0.n); rw [hgn, hg1n], fun b hb => ?_, fun b i hb => ?_, fun i hi => ?_, fun i hi => ?_, glob_keep hkeeps R.glob⟩
    · simp only [g2] at hb
      cases h1 : g1.kind b with
      | imm => exact S1.lt b (by rw [h1]; intro q; cases q)
      | own i => exact S1.lt b (by rw [h1]; intro q; cases q)
      | free =>
        rw [h1] at hb
        dsimp only at hb
        cases h2 : g.kind b with
        | own i =>
          rw [h2] at hb
          dsimp only at hb
          split at hb
          · rename_i hh; exact Nat.lt_of_lt_of_le hh.1 hE.size
          · exact absurd rfl hb
        | _ => rw [h2] at hb; exact absurd rfl hb
    · simp only [g2] at hb ⊢
      cases h1 : g1.kind b with
      | imm => rw [h1] at hb; cases hb
      | own j =>
        rw [h1] at hb
        dsimp only at hb
        have hj1 := S1.owner b j h1
        split at hb
        · split at hb
          · rename_i i' hj
            cases hb
            have := (good_nth hgood hj).2
            omega
          · cases hb
        · cases hb; omega
      | free =>
        rw [h1] at hb
        dsimp only at hb
        cases h2 : g.kind b with
        | own j =>
          rw [h2] at hb
          dsimp only at hb
          split at hb
          · cases hb; have := R.owner b i h2; omega
          · cases hb
        | _ => rw [h2] at hb; cases hb
    · show look .dead (news ++ σ.objs) i = .dead
      have hi' : g.n ≤ i := by simp only [g2] at hi; omega
      by_cases hk : i ∈ keys news
      · rcases hnews i hk with h1 | h1
        · exact h1
        · unfold entry at h1
          rw [hbk_hi i hi', if_neg (by omega)] at h1
          dsimp only at h1
          split at h1
          · assumption
          · exact h1.elim
      · rw [look_app.2 hk]; exact R.dead i hi'
    · show ObRel g2 w' i (look .dead (news ++ σ.objs) i)
      by_cases hk : i ∈ keys news
      · rcases hnews i hk with h1 | h1
        · rw [h1]; trivial
        · unfold entry at h1
          split at h1
          · rename_i k hbk
            have hk1 : k < g1.n ∧ ∀ b, g1.kind b = .own k → g2.kind b = .own i := by
              rcases Nat.lt_or_ge i g.n with hi' | hi'
              · rw [hbk_lo i hi'] at hbk
                split at hbk
                · rename_i k' hk'
                  cases hbk
                  obtain ⟨j, rfl, hj⟩ := idx_some hk'
                  rw [Nat.zero_add]
                  have := hnlt j _ hj
                  exact ⟨by omega, fun b hb => by simp [g2, hb, this, hj]⟩
                · cases hbk
              · rw [hbk_hi i hi', if_pos hi] at hbk
                cases hbk
                have hi2 : i < g.n + (g1.n - σ0.n) := hi
                refine ⟨by omega, fun b hb => ?_⟩
                have hnl : ¬ (i + σ0.n - g.n < σ0.n) := by omega
                simp only [g2, hb, if_neg hnl]
                congr 1; omega
            exact (S1.ob k hk1.1).tr T2 hbk hk1.1 hk1.2 h1
          · exfalso
            rename_i sz hbk
            unfold back at hbk
            repeat' split at hbk
            all_goals cases hbk
          · split at h1
            · rename_i heq; rw [heq]; trivial
            · exact h1.elim
      · rw [look_app.2 hk]
        rcases Nat.lt_or_ge i g.n with hi' | hi'
        · have hx : idx q i 0 = none := by
            cases hx : idx q i 0 with
            | none => rfl
            | some k =>
              obtain ⟨j, _, hj⟩ := idx_some hx
              exact absurd (covers_nth hcov hj) hk
          exact (R.ob i hi').mono hkeeps hi' (fun b hb => keepO b i hb hx)
        · have := R.dead i hi'
          show ObRel g2 w' i (σ.get i)
          rw [this]; trivial

/-- A CONTRACT OVER FEW OBJECTS, USED WHERE THERE ARE MORE. -/
theorem CallsAbs.frame {f : FuncId} {args args0 : List AV} {σ σ0 : Store} {R K : AV → Store → Prop} (h : CallsAbs P f args0 σ0 R) (q : List VE) (hv : View 0 q σ σ0) (ha : vrelL (phi 0 q) args0 args)
    (hR : ∀ r0 σ1, R r0 σ1 → ∃ r news, orelS (back q σ.n σ0.n σ1.n) σ1 news ∧ covers (keys news) q = true ∧ vrel (back q σ.n σ0.n σ1.n) r r0 ∧ K r ⟨σ.n + (σ1.n - σ0.n), news ++ σ.objs⟩) : CallsAbs P f args σ K := by
  have core : ∀ {g : Ghost} {w w' : World} {v : Value}, StoreRel P g σ w → (∃ g1 σ1 r0, Ext (g.view 0 q) σ0 w g1 σ1 w' ∧ StoreRel P g1 σ1 w' ∧ RepA g1 w' r0 v ∧ R r0 σ1) → ∃ g' σ' r, Ext g σ w g' σ' w' ∧ StoreRel P g' σ' w' ∧ RepA g' w' r v ∧ K r σ' := by
    rintro g w w' v hS ⟨g1, σ1, r0, hE, S1, hr, hRr⟩
    obtain ⟨r, news, h1, h2, h3, h4⟩ := hR r0 σ1 hRr
    obtain ⟨g2, q1, q2, q3⟩ := frame_core hS hv hE S1 hr h1 h2 h3
    exact ⟨g2, _, r, q1, q2, q3, h4⟩
  rcases h with h | ⟨fn, e, h1, h2, h3, h4, h5, h6⟩
  · refine .inl ⟨h.1, fun g w vs hS hL => (h.2 (g.view 0 q) w vs (view_store hS hv) (hL.tr (tr_view g 0 q) ha)).mono fun e w' ⟨v, g1, σ1, r0, he, hE, S1, hr, hRr⟩ => ?_⟩
    obtain ⟨g', σ', r, q1, q2, q3, q4⟩ := core hS ⟨g1, σ1, r0, hE, S1, hr, hRr⟩
    exact ⟨v, g', σ', r, he, q1, q2, q3, q4⟩
  · refine .inr ⟨fn, e, h1, h2, h3, h4, h5, fun g w vs hS hL => ?_⟩
    have := h6 (g.view 0 q) w vs (view_store hS hv) (hL.tr (tr_view g 0 q) ha)
    cases hr : (e vs.toArray).run P w with
    | ok v w' => rw [hr] at this; exact core hS this
    | halt x w' => rw [hr] at this; exact this.elim

/-- A contract with nothing but data in, and data out. -/
def PureC (P : Program) (f : FuncId) (args : List AV) (r : AV) : Prop := ∀ σ, CallsAbs P f args σ fun r' σ' => r' = r ∧ σ' = σ

theorem PureC.use {f : FuncId} {args : List AV} {r : AV} {σ : Store} {K : AV → Store → Prop} (h : PureC P f args r) (hK : K r σ) : CallsAbs P f args σ K :=
  (h σ).mono fun r' σ' ⟨h1, h2⟩ => by subst h1; subst h2; exact hK

theorem PureC.of {f : FuncId} {args : List AV} {r : AV} (ha : pureL args = true) (hr : r.pure = true) (h : CallsAbs P f args ⟨0, []⟩ fun r' σ' => r' = r ∧ σ'.n = 0) : PureC P f args r := fun σ => by
  refine CallsAbs.frame h [] ⟨Nat.zero_le _, rfl, rfl, trivial⟩ (vrelL_self args ha) (fun r0 σ1 ⟨h1, h2⟩ => ?_)
  subst h1
  refine ⟨r0, [], trivial, rfl, vrel_self r0 hr, rfl, ?_⟩
  cases σ; simp [h2]

end
end Go.Aw
