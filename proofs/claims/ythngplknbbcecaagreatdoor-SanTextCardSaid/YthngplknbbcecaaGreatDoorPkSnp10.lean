/- What is proved here serves the claim: the walk over the code and the plain laws, part 10 of 18. -/
import Derived.Test.YthngplknbbcecaaGreatDoorPkSnp9
import Derived.Orders
import Derived.Still
namespace Go.Aw
set_option linter.unusedVariables false
set_option linter.unusedSimpArgs false
def putS (d : Option Tmp) (v : AV) (s : St) : St := match d with
 | none => s
 | some d => (d, v) :: s
def same (s s' : St) : Prop := ∀ t, look .top s t = look .top s' t
theorem same.refl (s : St) : same s s := fun _ => rfl
theorem same.symm {s s' : St} (h : same s s') : same s' s := fun t => (h t).symm
theorem same.trans {a b c : St} (h : same a b) (k : same b c) : same a c := fun t => (h t).trans (k t)
theorem same.ev {s s' : St} (h : same s s') (x : Operand) : ev s x = ev s' x := by
 cases x with
 | tmp t => exact h t
 | _ => rfl
theorem same.put {s s' : St} (h : same s s') (d : Option Tmp) (v : AV) : same (putS d v s) (putS d v s') := by
 cases d with
 | none => exact h
 | some d =>
  intro t
  show look .top ((d, v) :: s) t = look .top ((d, v) :: s') t
  rw [look_cons, look_cons, h t]
theorem put_comm (s : St) {x y : Option Tmp} (v u : AV) (h : ∀ d, x = some d → y ≠ some d) : same (putS y u (putS x v s)) (putS x v (putS y u s)) := by
 cases x with
 | none => exact same.refl _
 | some d =>
  cases y with
  | none => exact same.refl _
  | some e =>
   have hne : d ≠ e := fun he => h d rfl (he ▸ rfl)
   intro t
   show look .top ((e, u) :: (d, v) :: s) t = look .top ((d, v) :: (e, u) :: s) t
   simp only [look_cons]
   by_cases h1 : e = t
   ·subst h1; rw [if_pos rfl, if_neg hne, if_pos rfl]
   ·rw [if_neg h1, if_neg h1]
section
variable {T : List TI} {P : Program} {N B : Nat}
theorem afill_congr {place : Nat → Option (Nat × Nat)} {ρ ρ' : Operand → AV} : ∀ {parts : List (Nat × Operand)} {cells : List AV}, (∀ p ∈ parts, ρ p.2 = ρ' p.2) → afill place cells ρ parts = afill place cells ρ' parts
 | [], _, _ => rfl
 | (i, x) :: r, cells, h => by
  have e : ρ x = ρ' x := h (i, x) (by simp)
  have ih : ∀ cells, afill place cells ρ r = afill place cells ρ' r := fun cells => afill_congr fun p hp => h p (List.mem_cons_of_mem _ hp)
  simp only [afill, e, ih]
theorem astep_congr {s s' : St} {σ : Store} {op : Op} {K : AV → Store → Prop} (h : ∀ x ∈ op.operands, ev s x = ev s' x) : astep T P s σ op K = astep T P s' σ op K := by
 have ml : ∀ xs : Array Operand, (∀ x ∈ xs, ev s x = ev s' x) → xs.toList.map (ev s) = xs.toList.map (ev s') := fun xs hx => List.map_congr_left fun x hm => hx x (by simpa using hm)
 have mo : ∀ xs : Option Operand, (∀ x ∈ xs, ev s x = ev s' x) → xs.map (ev s) = xs.map (ev s') := fun xs hx => by
  cases xs with
  | none => rfl
  | some x => simp [hx x (by simp)]
 cases op <;> simp only [Op.operands] at h <;> simp only [astep, aop]
 case call c =>
  unfold acall
  have hargs : c.args.toList.map (ev s) = c.args.toList.map (ev s') := ml _ fun x hx => h x (by simp [Call.operands, hx])
  have hargs' : c.args.toList.map (fun x => nrm (ev s x)) = c.args.toList.map (fun x => nrm (ev s' x)) := List.map_congr_left fun x hm => by rw [h x (by simp [Call.operands] ; exact .inr (by simpa using hm))]
  simp only [hargs, hargs']
  cases hc : c.callee with
  | value f => have hf : ev s f = ev s' f := h f (by simp [Call.operands, hc]); simp only [hf]
  | invoke r m => have hr : ev s r = ev s' r := h r (by simp [Call.operands, hc]); simp only [hr]
  | builtin b => rfl
 case build t ps =>
  unfold abuild
  simp only [afillK_eq]
  have : ∀ place z, afill place z (ev s) ps.toList = afill place z (ev s') ps.toList := fun place z => afill_congr fun p hp => h p.2 (by simp; exact ⟨p.1, by simpa using hp⟩)
  simp only [this]
 case buildSlice t n ps =>
  unfold abuildSlice
  simp only [afillK_eq]
  have : ∀ place z, afill place z (ev s) ps.toList = afill place z (ev s') ps.toList := fun place z => afill_congr fun p hp => h p.2 (by simp; exact ⟨p.1, by simpa using hp⟩)
  simp only [this]
 case makeFunc fn first captured =>
  rw [ml first fun x hx => h x (by simp [hx]), ml captured fun x hx => h x (by simp [hx])]
 case slice t x lo hi mx =>
  rw [h x (by simp), mo lo fun y hy => h y (by simp at hy; simp [hy]), mo hi fun y hy => h y (by simp at hy; simp [hy]), mo mx fun y hy => h y (by simp at hy; simp [hy])]
 case makeMap t r => cases r <;> rfl
 case next it b => cases b <;> simp_all
 all_goals (first | rfl | (simp_all; done))
def runIf : Bool → Bool → Dec
 | true, true => .run
 | false, false => .run
 | _, _ => .skip
def askS (l : List Oper) (o : Oper) (s : St) : Dec := match o.guard with
 | none => .run
 | some (j, want) => match decide' (aguard l s j) want with
  | .ask b => runIf b want
  | d => d
theorem same.ask {s s' : St} (h : same s s') (l : List Oper) (o : Oper) : askS l o s = askS l o s' := by
 have : ∀ j, aguard l s j = aguard l s' j := fun j => by
  unfold aguard
  split
  ·split
   ·exact h _
   ·rfl
  ·rfl
 unfold askS
 simp only [this]
def dstOk (N : Nat) : Option Tmp → Bool
 | none => true
 | some d => Nat.ble (d + 1) N
def YA (T : List TI) (P : Program) (N : Nat) (σ : Store) (l : List Oper) (o : Oper) (r : AV) (s : St) : Prop :=
 dstOk N o.dst = true ∧ ((askS l o s = .run ∧ astep T P s σ o.op (fun v σ' => FinMove σ v σ' r σ)) ∨ (askS l o s = .skip ∧ r = .tup []))
theorem YA.of_same {σ : Store} {l : List Oper} {o : Oper} {r : AV} {s s' : St} (h : YA T P N σ l o r s) (he : ∀ x ∈ o.op.operands, ev s x = ev s' x) (hw : askS l o s = askS l o s') : YA T P N σ l o r s' := by
 obtain ⟨h0, h⟩ := h
 refine ⟨h0, ?_⟩
 rw [← hw]
 rcases h with ⟨h1, h2⟩ | h
 ·exact .inl ⟨h1, by rw [← astep_congr he]; exact h2⟩
 ·exact .inr h
variable {σ : Store} {ops : Array Oper} {md : Region.Mode}
def qA (T : List TI) (P : Program) (N : Nat) (σ : Store) (ops : Array Oper) (i : Nat) (K : St → Prop) (s : St) : Prop :=
 match ops[i]? with
 | none => K s
 | some o => ∃ r, YA T P N σ ops.toList o r s ∧ K (putS o.dst r s)
theorem qA_mono {i : Nat} {s : St} {K K' : St → Prop} (h : ∀ s, K s → K' s) (hh : qA T P N σ ops i K s) : qA T P N σ ops i K' s := by
 unfold qA at *
 split
 ·rename_i ho; simp only [ho] at hh; exact h _ hh
 ·rename_i o ho
  simp only [ho] at hh
  obtain ⟨r, h1, h2⟩ := hh
  exact ⟨r, h1, h _ h2⟩
def anyA (T : List TI) (P : Program) (N : Nat) (σ : Store) (md : Region.Mode) (ops : Array Oper) (Q : St → Prop) : Nat → Array Bool → St → Prop
 | 0, listed, s => Region.ready md ops listed = [] ∧ Q s
 | fuel + 1, listed, s =>
  (Region.ready md ops listed = [] → Q s) ∧
  ∀ i ∈ Region.ready md ops listed, qA T P N σ ops i (anyA T P N σ md ops Q fuel (listed.setIfInBounds i true)) s
theorem qA_same {i : Nat} {s s' : St} {K : St → Prop} (hs : same s s') (hK : ∀ a b, same a b → K a → K b) (h : qA T P N σ ops i K s) : qA T P N σ ops i K s' := by
 unfold qA at *
 split
 ·rename_i ho; simp only [ho] at h; exact hK _ _ hs h
 ·rename_i o ho
  simp only [ho] at h
  obtain ⟨r, h1, h2⟩ := h
  exact ⟨r, h1.of_same (fun x _ => hs.ev x) (hs.ask _ _), hK _ _ (hs.put _ _) h2⟩
theorem anyA_same {Q : St → Prop} (hQ : ∀ a b, same a b → Q a → Q b) : ∀ (fuel : Nat) (listed : Array Bool) (s s' : St), same s s' → anyA T P N σ md ops Q fuel listed s → anyA T P N σ md ops Q fuel listed s'
 | 0, _, _, _, hs, h => ⟨h.1, hQ _ _ hs h.2⟩
 | fuel + 1, _, _, _, hs, h => ⟨fun h0 => hQ _ _ hs (h.1 h0), fun i hi => qA_same hs (fun a b hab => anyA_same hQ fuel _ a b hab) (h.2 i hi)⟩
theorem ev_put {s : St} {dst : Option Tmp} {v : AV} {x : Operand} (h : ∀ d, dst = some d → x ≠ .tmp d) : ev (putS dst v s) x = ev s x := by
 cases dst with
 | none => rfl
 | some d =>
  cases x with
  | tmp t =>
   have hne : d ≠ t := fun e => h d rfl (e ▸ rfl)
   exact look_cons_ne _ _ _ hne
  | _ => rfl
theorem op_put (o : Oper) (s : St) (dst : Option Tmp) (v : AV) (h : ∀ d, dst = some d → d ∉ o.looksAt ops) : ∀ x ∈ o.op.operands, ev (putS dst v s) x = ev s x := fun x hx =>
 ev_put fun d hd hxd => h d hd (by
  subst hxd
  exact List.mem_append_left _ (List.mem_filterMap.2 ⟨.tmp d, by simpa using hx, rfl⟩))
theorem ask_put (o : Oper) (s : St) (dst : Option Tmp) (v : AV) (h : ∀ d, dst = some d → d ∉ o.looksAt ops) : askS ops.toList o (putS dst v s) = askS ops.toList o s := by
 cases dst with
 | none => rfl
 | some d =>
  unfold askS
  cases hg : o.guard with
  | none => rfl
  | some gw =>
   obtain ⟨j, want⟩ := gw
   have : aguard ops.toList (putS (some d) v s) j = aguard ops.toList s j := by
    unfold aguard
    cases hj : ops.toList[j]? with
    | none => rfl
    | some oj =>
     dsimp only
     cases hd : oj.dst with
     | none => rfl
     | some t =>
      have hne : d ≠ t := fun e => h d rfl (by
       subst e
       have hj' : ops[j]? = some oj := by simpa using hj
       simp [Oper.looksAt, hg, hj', hd])
      exact look_cons_ne _ _ _ hne
   simp only [this]
theorem qA_put {j : Nat} {oi oj : Oper} {v : AV} (hj : ops[j]? = some oj) (hap : oi.apart ops oj = true) {K : St → Prop} (hK : ∀ a b, same a b → K a → K b) {s : St}
  (hy : YA T P N σ ops.toList oi v s) (h : qA T P N σ ops j K (putS oi.dst v s)) :
  qA T P N σ ops j (fun s' => YA T P N σ ops.toList oi v s' ∧ K (putS oi.dst v s')) s := by
 obtain ⟨h1, h2, h3⟩ := Oper.apart_spec hap
 unfold qA at *
 simp only [hj] at *
 obtain ⟨r, hr, hn⟩ := h
 refine ⟨r, hr.of_same (op_put oj s oi.dst v h1) (ask_put oj s oi.dst v h1), hy.of_same (fun x hx => (op_put oi s oj.dst r h3 x hx).symm) (ask_put oi s oj.dst r h3).symm, ?_⟩
 exact hK _ _ (put_comm s v r h2) hn
theorem anyA_first {Q : St → Prop} (hQ : ∀ a b, same a b → Q a → Q b) {i : Nat} {oi : Oper} {v : AV} (hi : ops[i]? = some oi) :
  ∀ (fuel : Nat) (listed : Array Bool) (s : St),
   (∀ j oj, ops[j]? = some oj → j ≠ i → listed.getD j true = false → (∀ e ∈ oj.after, Region.binds md e = true → e.on ≠ i) → oi.apart ops oj = true) →
   i ∈ Region.ready md ops listed → YA T P N σ ops.toList oi v s →
   anyA T P N σ md ops Q fuel (listed.setIfInBounds i true) (putS oi.dst v s) → anyA T P N σ md ops Q (fuel + 1) listed s := by
 have now : ∀ {s : St} {K : St → Prop}, YA T P N σ ops.toList oi v s → K (putS oi.dst v s) → qA T P N σ ops i K s := fun hy h => by
  unfold qA; simp only [hi]; exact ⟨v, hy, h⟩
 intro fuel
 induction fuel with
 | zero =>
  intro listed a _ hr hy H
  refine ⟨fun h => (by rw [h] at hr; cases hr), fun j hj => ?_⟩
  by_cases hji : j = i
  ·subst hji; exact now hy H
  ·have := ready_mono hj hji
   rw [H.1] at this
   cases this
 | succ fuel ih =>
  intro listed a hfree hr hy H
  refine ⟨fun h => (by rw [h] at hr; cases hr), fun j hj => ?_⟩
  by_cases hji : j = i
  ·subst hji; exact now hy H
  ·have h1 := H.2 j (ready_mono hj hji)
   obtain ⟨hjun, oj, hoj, hall⟩ := mem_ready.1 hj
   have hnot : ∀ e ∈ oj.after, Region.binds md e = true → e.on ≠ i := fun e he hb heq => by
    have h1 := hall e he hb
    have h0 := (mem_ready.1 hr).1
    rw [heq] at h1
    rcases Nat.lt_or_ge i listed.size with h' | h'
    ·simp [h'] at h0 h1; rw [h0] at h1; cases h1
    ·simp [Array.getElem?_eq_none h'] at h1
   have h2 := qA_put hoj (hfree j oj hoj hji hjun hnot) (fun a b hab => anyA_same hQ fuel _ a b hab) hy h1
   have hfree' : ∀ k ok, ops[k]? = some ok → k ≠ i → (listed.setIfInBounds j true).getD k true = false →
     (∀ e ∈ ok.after, Region.binds md e = true → e.on ≠ i) → oi.apart ops ok = true := fun k ok hk hki hun hno => by
    refine hfree k ok hk hki ?_ hno
    by_cases hjk : j = k
    ·subst hjk; exact hjun
    ·rw [getD_set_ne true hjk] at hun; exact hun
   refine qA_mono (fun a' h3 => ih (listed.setIfInBounds j true) a' hfree' (ready_mono hr (Ne.symm hji)) h3.1 ?_) h2
   rw [Array.setIfInBounds_comm _ _ hji]
   exact h3.2
def qops (T : List TI) (P : Program) (N : Nat) (σ : Store) (l : List Oper) (Q : St → Prop) : List Oper → St → Prop
 | [], s => Q s
 | o :: rest, s => ∃ r, YA T P N σ l o r s ∧ qops T P N σ l Q rest (putS o.dst r s)
theorem anyA_lex {Q : St → Prop} (hQ : ∀ a b, same a b → Q a → Q b) : ∀ (l : List Oper) (k : Nat) (listed : Array Bool) (s : St), (∀ j, l[j]? = ops[k + j]?) →
  Region.lexFrom md ops l.length k listed = true → qops T P N σ ops.toList Q l s → anyA T P N σ md ops Q l.length listed s
 | [], _, _, _, _, hB, h => ⟨by simpa [Region.lexFrom] using hB, h⟩
 | o :: l, k, listed, s, hl, hB, h => by
  have h0 : ops[k]? = some o := by simpa using (hl 0).symm
  simp only [List.length_cons, Region.lexFrom, Bool.and_eq_true] at hB
  obtain ⟨⟨hr, hf⟩, hB'⟩ := hB
  obtain ⟨v, hy, hK⟩ := h
  exact anyA_first hQ h0 l.length listed s (Region.free_spec h0 hf) (by simpa using hr) hy
   (anyA_lex hQ l (k + 1) _ _ (fun j => by have := hl (j + 1); simpa [Nat.add_assoc, Nat.add_comm 1 j] using this) hB' hK)
theorem YA_sound (hw : wfP P = true) {g : Ghost} {w : World} {s : St} {a : Act} {o : Oper} {r : AV} {K : Act → World → Prop} {Q : Exit → Act → World → Prop} {i : Nat} (hi : ops[i]? = some o) (h : YA (tabOf P) P N σ ops.toList o r s) (hT : RelT N g w s a) (R : StoreRel P g σ w)
  (hK : ∀ g' w' a', Ext g σ w g' σ w' → StoreRel P g' σ w' → RelT N g' w' (putS o.dst r s) a' → K a' w') : wpOp P ops Q i K a w := by
 obtain ⟨hN, h⟩ := h
 have put : ∀ {g' : Ghost} {w' : World} {v : Value}, RelT N g' w' s a → RepA g' w' r v → RelT N g' w' (putS o.dst r s) (a.put o.dst v) := by
  intro g' w' v hT' hr
  cases hd : o.dst with
  | none => exact hT'
  | some d =>
   rw [hd] at hN
   obtain ⟨s', h1, h2⟩ := put_ok (N := N) (dst := some d) (K := fun s' => s' = (d, r) :: s) hT' hr (by
    unfold aput
    have : Nat.ble (d + 1) N = true := hN
    simp only [this])
   subst h2; exact h1
 unfold wpOp
 simp only [hi]
 have run : askS ops.toList o s = .run → astep (tabOf P) P s σ o.op (fun v σ' => FinMove σ v σ' r σ) → o.wp P a w K Q := by
  intro _ hs
  have hup := step_sound hw hs hT R
  unfold Oper.wp
  generalize (execOp a.eval o).run P w = res at hup
  cases res with
  | halt x w' => exact hup.elim
  | ok n w' =>
   cases n with
   | value v =>
    obtain ⟨g', σ', r1, h1, h2, h3, h4⟩ := hup
    obtain ⟨g2, e1, e2, e3⟩ := h4 _ g g' w w' v R h1 h2 h3
    exact hK g2 w' _ e1 e2 (put (hT.mono (e1.keeps R)) e3)
   | skip =>
    obtain ⟨g', σ', h1, h2, h4⟩ := hup
    obtain ⟨g2, e1, e2, e3⟩ := h4 _ g g' w w' undef R h1 h2 (.top undef)
    exact hK g2 w' _ e1 e2 (put (hT.mono (e1.keeps R)) e3)
   | enter f args =>
    obtain ⟨hww, hc⟩ := hup
    replace hww := hww.symm
    subst hww
    refine hc.mono fun e w'' he => ?_
    obtain ⟨v, g', σ', r1, rfl, h1, h2, h3, h4⟩ := he
    obtain ⟨g2, e1, e2, e3⟩ := h4 _ g g' w w'' v R h1 h2 h3
    exact hK g2 w'' _ e1 e2 (put (hT.mono (e1.keeps R)) e3)
   | _ => exact hup.elim
 have skip : r = .tup [] → K (a.put o.dst undef) w := by
  rintro rfl
  exact hK g w _ (Ext.refl _ _ _) R (put hT (.tup [] #[] rfl (by simp) : RepA g w (.tup []) undef))
 have slot : ∀ (j : Nat) (v : AV) (b : Bool), aguard ops.toList s j = v → (∀ u, RepA g w v u → u = .bool b) → v ≠ .top → yielded ops a.tmps j = some b := by
  intro j v b hv hvb hnt
  unfold aguard at hv
  unfold yielded
  simp only [Array.getElem?_toList] at hv
  cases hj : ops[j]? with
  | none => rw [hj] at hv; exact absurd hv.symm hnt
  | some oj =>
   rw [hj] at hv
   dsimp only at hv ⊢
   cases hd : oj.dst with
   | none => rw [hd] at hv; exact absurd hv.symm hnt
   | some d =>
    rw [hd] at hv
    dsimp only at hv ⊢
    have hrep := hT.rep d
    rw [hv] at hrep
    have hval := hvb _ hrep
    have hlt : d < a.tmps.size := by
     rcases Nat.lt_or_ge d a.tmps.size with h' | h'
     ·exact h'
     ·exfalso
      rw [Array.getD_eq_getD_getElem?, Array.getElem?_eq_none h'] at hval
      cases hval
    have hsome : a.tmps[d]? = some (.bool b) := by
     rw [Array.getD_eq_getD_getElem?, Array.getElem?_eq_getElem hlt] at hval
     rw [Array.getElem?_eq_getElem hlt]
     simpa using hval
    simp [hd, hsome]
 cases hg : o.guard with
 | none =>
  rw [if_pos (by simp [Region.wanted, hg])]
  rcases h with ⟨h1, h2⟩ | ⟨h1, _⟩
  ·exact .inl (run h1 h2)
  ·simp [askS, hg] at h1
 | some jw =>
  obtain ⟨j, want⟩ := jw
  have hwant : ∀ b, yielded ops a.tmps j = some b → Region.wanted o (yielded ops a.tmps) = (b == want) := by
   intro b hy
   simp only [Region.wanted, hg, hy]
   cases b <;> cases want <;> rfl
  have fin : ∀ b, yielded ops a.tmps j = some b → askS ops.toList o s = runIf b want → (if Region.wanted o (yielded ops a.tmps) then o.wp P a w K Q ∨ (o.asks P a w ∧ LetsOut Q) else K (a.put o.dst undef) w) := by
   intro b hy hd
   rw [hwant b hy]
   rw [hd] at h
   cases b <;> cases want <;> rcases h with ⟨h1, h2⟩ | ⟨h1, h2⟩ <;> first | (cases h1; done) | exact .inl (run hd h2) | exact skip h2
  cases hv : aguard ops.toList s j with
  | tt => exact fin true (slot j .tt true hv (fun u hu => by cases hu; rfl) (by simp)) (by simp only [askS, hg, hv, decide']; cases want <;> rfl)
  | ff => exact fin false (slot j .ff false hv (fun u hu => by cases hu; rfl) (by simp)) (by simp only [askS, hg, hv, decide']; cases want <;> rfl)
  | d x =>
   cases x with
   | bool b => exact fin b (slot j _ b hv (fun u hu => repA_bool hu) (by simp)) (by simp only [askS, hg, hv, decide'])
   | _ => rcases h with ⟨h1, _⟩ | ⟨h1, _⟩ <;> simp [askS, hg, hv, decide'] at h1
  | tup vs =>
   cases vs with
   | nil =>
    have hy : yielded ops a.tmps j = none := by
     unfold aguard at hv
     unfold yielded
     simp only [Array.getElem?_toList] at hv
     cases hj : ops[j]? with
     | none => rw [hj] at hv; cases hv
     | some oj =>
      rw [hj] at hv
      dsimp only at hv ⊢
      cases hd : oj.dst with
      | none => rw [hd] at hv; cases hv
      | some d =>
       rw [hd] at hv
       dsimp only at hv ⊢
       have hrep := hT.rep d
       rw [hv] at hrep
       generalize hu : a.tmps.getD d undef = u at hrep
       rw [Array.getD_eq_getD_getElem?] at hu
       simp only [Option.bind_some, hd]
       cases hrep with
       | tup _ cs hl _ =>
       cases ht : a.tmps[d]? with
       | none => rfl
       | some x => rw [ht] at hu; simp only [Option.getD_some] at hu; subst hu; rfl
    have hw0 : Region.wanted o (yielded ops a.tmps) = false := by simp [Region.wanted, hg, hy]
    rw [hw0, if_neg (by decide)]
    rcases h with ⟨h1, _⟩ | ⟨_, h2⟩
    ·simp [askS, hg, hv, decide'] at h1
    ·exact skip h2
   | cons x xs => rcases h with ⟨h1, _⟩ | ⟨h1, _⟩ <;> simp [askS, hg, hv, decide'] at h1
  | _ => rcases h with ⟨h1, _⟩ | ⟨h1, _⟩ <;> simp [askS, hg, hv, decide'] at h1
theorem RelT.same {g : Ghost} {w : World} {s s' : St} {a : Act} (h : RelT N g w s a) (hs : same s s') : RelT N g w s' a := ⟨h.size, h.defers, fun t => by rw [← hs t]; exact h.rep t⟩
theorem any_sound (hw : wfP P = true) {sm : St} {K : Exit → St → Store → Prop} (hK : K .normal sm σ) {g0 : Ghost} {w0 : World} (R0 : StoreRel P g0 σ w0) (hB : B ≤ g0.n) : ∀ (fuel : Nat) (listed : Array Bool) (s : St) (g : Ghost) (w : World) (a : Act),
  anyA (tabOf P) P N σ md ops (fun s => same s sm) fuel listed s → RelT N g w s a → StoreRel P g σ w → Ext g0 σ w0 g σ w → wpAny P md ops (Post (P := P) N B g0 σ w0 K) fuel listed a w
 | 0, _, s, g, w, a, h, hT, R, hE => ⟨h.1, sm, σ, g, hK, hT.same h.2, hE.toB hB, R⟩
 | fuel + 1, listed, s, g, w, a, h, hT, R, hE => by
  refine ⟨fun h0 => ⟨sm, σ, g, hK, hT.same (h.1 h0), hE.toB hB, R⟩, fun i hi => ?_⟩
  have hq := h.2 i hi
  cases ho : ops[i]? with
  | none =>
   unfold qA at hq
   simp only [ho] at hq
   unfold wpOp
   simp only [ho]
   exact any_sound hw hK R0 hB fuel _ s g w a hq hT R hE
  | some o =>
   unfold qA at hq
   simp only [ho] at hq
   obtain ⟨r, hy, hn⟩ := hq
   exact YA_sound hw ho hy hT R fun g' w' a' e1 e2 e3 => any_sound hw hK R0 hB fuel _ _ g' w' a' hn e3 e2 (hE.trans R0 e1)
theorem drawnT (hw : wfP P = true) {T : List TI} (hT : tabOf P = T) {id : Nat} {K : Exit → St → Store → Prop} {s : St} (hm : P.follows .mixedOrders = true) (hL : Region.lexB .any ops = true)
  (h : qops T P N σ ops.toList (fun s => K .normal s σ) ops.toList s) : E P N B (.region id ops true) K s σ := fun g a w hB hR R => by
 subst hT
 simp only [Region.lexB, Bool.and_eq_true] at hL
 have last : ∀ (l : List Oper) (s : St), qops (tabOf P) P N σ ops.toList (fun s => K .normal s σ) l s → ∃ sm, K .normal sm σ ∧ qops (tabOf P) P N σ ops.toList (fun s => same s sm) l s := by
  intro l
  induction l with
  | nil => intro s h; exact ⟨s, h, same.refl s⟩
  | cons o l ih =>
   intro s h
   obtain ⟨r, h1, h2⟩ := h
   obtain ⟨sm, q1, q2⟩ := ih _ h2
   exact ⟨sm, q1, r, h1, q2⟩
 obtain ⟨sm, hK, hq⟩ := last _ _ h
 have := anyA_lex (md := .any) (fun a b hab ha => hab.symm.trans ha) ops.toList 0 (Array.replicate ops.size false) s (by simp) (by simpa using hL.2) hq
 refine wp_region_any hm ?_
 have hk : Keeps g w g { w with drawn := w.drawn + 1 } := ⟨Nat.le_refl _, fun _ _ => ⟨rfl, rfl, rfl⟩, fun b hb => ⟨hb, rfl⟩⟩
 have R' : StoreRel P g σ { w with drawn := w.drawn + 1 } := ⟨R.n, R.lt, R.owner, R.dead, fun i hi => (R.ob i hi).mono hk hi (fun b hb => ⟨hb, rfl⟩), glob_keep hk R.glob⟩
 have hR' : RelT N g { w with drawn := w.drawn + 1 } s a := hR.mono hk
 have hE' : Ext g σ w g σ { w with drawn := w.drawn + 1 } := ⟨Nat.le_refl _, fun _ _ => ⟨rfl, rfl, rfl⟩, fun _ _ h => h, Nat.le_refl _, fun _ _ _ => ⟨rfl, rfl⟩, rfl, rfl, rfl⟩
 have hsz : ops.toList.length = ops.size := by simp
 rw [hsz] at this
 exact any_sound (md := .any) hw hK R hB _ _ s g _ a this hR' R' hE'
theorem qstep {l : List Oper} {Q : St → Prop} {o : Oper} {rest : List Oper} {s : St} {r : AV} (hN : dstOk N o.dst = true) (hg : askS l o s = .run) (h : astep T P s σ o.op (fun v σ' => FinMove σ v σ' r σ)) (k : qops T P N σ l Q rest (putS o.dst r s)) :
  qops T P N σ l Q (o :: rest) s := ⟨r, ⟨hN, .inl ⟨hg, h⟩⟩, k⟩
theorem qskip {l : List Oper} {Q : St → Prop} {o : Oper} {rest : List Oper} {s : St} (hN : dstOk N o.dst = true) (hg : askS l o s = .skip) (k : qops T P N σ l Q rest (putS o.dst (.tup []) s)) :
  qops T P N σ l Q (o :: rest) s := ⟨.tup [], ⟨hN, .inr ⟨hg, rfl⟩⟩, k⟩
theorem fin_lit {σ : Store} {n : Nat} {sz : Nat × Nat} {rs : List (List AV)} {ds : List (List D)} {len : Nat} (hn : n = σ.n) (hds : rowsD rs = some ds) (hl : len = ds.length) (ho : orelS (phi σ.n []) ⟨σ.n + 1, (σ.n, .dead) :: (σ.n, .rows sz rs) :: σ.objs⟩ σ.objs) : FinMove σ (.own n 0 len) ⟨σ.n + 1, (n, .rows sz rs) :: σ.objs⟩ (.d (.sl ds)) σ := by
 subst hn
 have hd := (rowsD_get hds).1
 have hg : (⟨σ.n + 1, (σ.n, .rows sz rs) :: σ.objs⟩ : Store).get σ.n = .rows sz rs := look_cons_same _ _ _ _
 have h1 := fin_freeze (σ0 := σ) (σ := ⟨σ.n + 1, (σ.n, .rows sz rs) :: σ.objs⟩) (r := .own σ.n 0 len) σ.n hg hds (fun _ => by omega)
 rw [frz_whole σ.n ds len hl] at h1
 exact h1.trans (fin_mv [] (Nat.ble_eq_true_of_le (Nat.le_succ _)) rfl rfl ho rfl)
end
end Go.Aw

namespace Go.Aw
set_option linter.unusedVariables false
set_option linter.unusedSimpArgs false
section
variable {T : List TI} {P : Program} {N B : Nat} {ops : Array Oper} {md : Region.Mode}
def waits (md : Region.Mode) (o : Oper) (i : Nat) : Bool := o.after.any fun e => Region.binds md e && Nat.beq e.on i
def waitsAt (md : Region.Mode) (ops : Array Oper) (e i : Nat) : Bool := match ops[e]? with
 | some o => waits md o i
 | none => false
def ancs (md : Region.Mode) (ops : Array Oper) : List Nat → List Nat → List Nat
 | [], acc => acc
 | j :: js, acc => match acc.any fun k => waitsAt md ops k j with
  | true => ancs md ops js (j :: acc)
  | false => ancs md ops js acc
def waitsT (md : Region.Mode) (ops : Array Oper) (e i : Nat) : Bool := (ancs md ops (List.range e).reverse [e]).contains i && !Nat.beq i e
def mayAt (md : Region.Mode) (ops : Array Oper) (eff : List Nat) (i : Nat) (t : Nat) : Bool :=
 (eff.drop t).all (fun e => !waitsT md ops i e) && (eff.take t).all (fun e => !waitsT md ops e i)
def Closed (md : Region.Mode) (ops : Array Oper) (listed : Array Bool) : Prop := ∀ (x : Nat) (o : Oper), ops[x]? = some o → listed.getD x false = true → ∀ e ∈ o.after, Region.binds md e = true → listed.getD e.on false = true
theorem waits_of {o : Oper} {i : Nat} (h : ∀ e ∈ o.after, Region.binds md e = true → e.on ≠ i) : waits md o i = false := by
 unfold waits
 rw [← Array.any_toList, List.any_eq_false]
 intro e he hb
 rw [Bool.and_eq_true] at hb
 exact h e (by simpa using he) hb.1 (Nat.eq_of_beq_eq_true hb.2)
theorem waits_get {o : Oper} {i : Nat} (h : waits md o i = true) : ∃ e ∈ o.after, Region.binds md e = true ∧ e.on = i := by
 unfold waits at h
 rw [← Array.any_toList, List.any_eq_true] at h
 obtain ⟨e, he, hb⟩ := h
 rw [Bool.and_eq_true] at hb
 exact ⟨e, by simpa using he, hb.1, Nat.eq_of_beq_eq_true hb.2⟩
theorem ancs_listed {listed : Array Bool} (hcl : Closed md ops listed) {x : Nat} {o : Oper} (hx : ops[x]? = some o) (ha : ∀ e ∈ o.after, Region.binds md e = true → listed.getD e.on false = true) :
  ∀ (js acc : List Nat), (∀ k ∈ acc, k = x ∨ listed.getD k false = true) → ∀ k ∈ ancs md ops js acc, k = x ∨ listed.getD k false = true
 | [], acc, h, k, hk => h k hk
 | j :: js, acc, h, k, hk => by
  unfold ancs at hk
  split at hk
  ·rename_i hany
   refine ancs_listed hcl hx ha js (j :: acc) (fun u hu => ?_) k hk
   rcases List.mem_cons.1 hu with rfl | hu
   ·obtain ⟨v, hv, hw⟩ := List.any_eq_true.1 hany
    refine .inr ?_
    unfold waitsAt at hw
    split at hw
    ·rename_i ov hov
     obtain ⟨e, he, hb, rfl⟩ := waits_get hw
     rcases h v hv with rfl | hl
     ·rw [hx] at hov; cases hov; exact ha e he hb
     ·exact hcl v ov hov hl e he hb
    ·cases hw
   ·exact h u hu
  ·exact ancs_listed hcl hx ha js acc h k hk
theorem waitsT_listed {listed : Array Bool} (hcl : Closed md ops listed) {x i : Nat} {o : Oper} (hx : ops[x]? = some o) (ha : ∀ e ∈ o.after, Region.binds md e = true → listed.getD e.on false = true) (h : waitsT md ops x i = true) : listed.getD i false = true := by
 unfold waitsT at h
 rw [Bool.and_eq_true] at h
 rcases ancs_listed hcl hx ha _ [x] (fun k hk => .inl (by simpa using hk)) i (by simpa using h.1) with rfl | h'
 ·have := h.2
  rw [Nat.beq_refl] at this
  cases this
 ·exact h'
theorem getD_set_mono {listed : Array Bool} {i k : Nat} (h : listed.getD k false = true) : (listed.setIfInBounds i true).getD k false = true := by
 simp only [Array.getD_eq_getD_getElem?, Array.getElem?_setIfInBounds] at h ⊢
 split
 ·split
  ·rfl
  ·rename_i h1 h2
   subst h1
   rw [Array.getElem?_eq_none (by omega)] at h
   exact h
 ·exact h
theorem Closed.set {listed : Array Bool} (hcl : Closed md ops listed) {i : Nat} (hi : i ∈ Region.ready md ops listed) : Closed md ops (listed.setIfInBounds i true) := by
 obtain ⟨hiun, oi, hoi, hall⟩ := mem_ready.1 hi
 intro x o hx hl e he hb
 refine getD_set_mono ?_
 by_cases hxi : x = i
 ·subst hxi
  rw [hoi] at hx; cases hx
  exact hall e he hb
 ·refine hcl x o hx ?_ e he hb
  rwa [getD_set_ne false (Ne.symm hxi)] at hl
def YE (T : List TI) (P : Program) (N : Nat) (σ σ' : Store) (l : List Oper) (o : Oper) (r : AV) (s : St) : Prop :=
 dstOk N o.dst = true ∧ askS l o s = .run ∧ astep T P s σ o.op (fun v σ1 => FinMove σ v σ1 r σ')
theorem YE.of_same {σ σ' : Store} {l : List Oper} {o : Oper} {r : AV} {s s' : St} (h : YE T P N σ σ' l o r s) (he : ∀ x ∈ o.op.operands, ev s x = ev s' x) (hw : askS l o s = askS l o s') : YE T P N σ σ' l o r s' :=
 ⟨h.1, by rw [← hw]; exact h.2.1, by rw [← astep_congr he]; exact h.2.2⟩
def ZA (T : List TI) (P : Program) (N : Nat) (md : Region.Mode) (ops : Array Oper) (eff : List Nat) (σs : Nat → Store) (i : Nat) (o : Oper) (r : AV) (s : St) (t t' : Nat) : Prop :=
 (eff[t]? = some i ∧ t' = t + 1 ∧ YE T P N (σs t) (σs (t + 1)) ops.toList o r s) ∨
 (i ∉ eff ∧ t' = t ∧ mayAt md ops eff i t = true ∧ ∀ u, u ≤ eff.length → mayAt md ops eff i u = true → YA T P N (σs u) ops.toList o r s)
def qZ (T : List TI) (P : Program) (N : Nat) (md : Region.Mode) (ops : Array Oper) (eff : List Nat) (σs : Nat → Store) (i : Nat) (K : St → Nat → Prop) (s : St) (t : Nat) : Prop :=
 match ops[i]? with
 | none => K s t
 | some o => ∃ r t', ZA T P N md ops eff σs i o r s t t' ∧ K (putS o.dst r s) t'
def anyZ (T : List TI) (P : Program) (N : Nat) (md : Region.Mode) (ops : Array Oper) (eff : List Nat) (σs : Nat → Store) (Q : St → Nat → Prop) : Nat → Array Bool → St → Nat → Prop
 | 0, listed, s, t => Region.ready md ops listed = [] ∧ Q s t
 | fuel + 1, listed, s, t =>
  (Region.ready md ops listed = [] → Q s t) ∧
  ∀ i ∈ Region.ready md ops listed, qZ T P N md ops eff σs i (anyZ T P N md ops eff σs Q fuel (listed.setIfInBounds i true)) s t
variable {eff : List Nat} {σs : Nat → Store}
theorem ZA.of_same {i : Nat} {o : Oper} {r : AV} {s s' : St} {t t' : Nat} (h : ZA T P N md ops eff σs i o r s t t') (he : ∀ x ∈ o.op.operands, ev s x = ev s' x) (hw : askS ops.toList o s = askS ops.toList o s') : ZA T P N md ops eff σs i o r s' t t' := by
 rcases h with ⟨h1, h2, h3⟩ | ⟨h1, h2, h3, h4⟩
 ·exact .inl ⟨h1, h2, h3.of_same he hw⟩
 ·exact .inr ⟨h1, h2, h3, fun u hu hm => (h4 u hu hm).of_same he hw⟩
theorem qZ_same {i : Nat} {s s' : St} {t : Nat} {K : St → Nat → Prop} (hs : same s s') (hK : ∀ a b t, same a b → K a t → K b t) (h : qZ T P N md ops eff σs i K s t) : qZ T P N md ops eff σs i K s' t := by
 unfold qZ at *
 split
 ·rename_i ho; simp only [ho] at h; exact hK _ _ _ hs h
 ·rename_i o ho
  simp only [ho] at h
  obtain ⟨r, t', h1, h2⟩ := h
  exact ⟨r, t', h1.of_same (fun x _ => hs.ev x) (hs.ask _ _), hK _ _ _ (hs.put _ _) h2⟩
theorem anyZ_same {Q : St → Nat → Prop} (hQ : ∀ a b t, same a b → Q a t → Q b t) : ∀ (fuel : Nat) (listed : Array Bool) (s s' : St) (t : Nat), same s s' → anyZ T P N md ops eff σs Q fuel listed s t → anyZ T P N md ops eff σs Q fuel listed s' t
 | 0, _, _, _, _, hs, h => ⟨h.1, hQ _ _ _ hs h.2⟩
 | fuel + 1, _, _, _, _, hs, h => ⟨fun h0 => hQ _ _ _ hs (h.1 h0), fun i hi => qZ_same hs (fun a b t hab => anyZ_same hQ fuel _ a b t hab) (h.2 i hi)⟩
def effOk (md : Region.Mode) (ops : Array Oper) : List Nat → Bool
 | [] => true
 | [_] => true
 | e :: e' :: r => (match ops[e']? with | some o => waits md o e | none => false) && effOk md ops (e' :: r)
theorem effOk_pair : ∀ {l : List Nat}, effOk md ops l = true → ∀ {a : Nat} {x y : Nat}, l[a]? = some x → l[a + 1]? = some y → ∃ o, ops[y]? = some o ∧ waits md o x = true
 | [], _, a, x, y, hx, _ => by simp at hx
 | [e], _, a, x, y, _, hy => by simp at hy
 | e :: e' :: r, h, 0, x, y, hx, hy => by
  simp only [effOk, Bool.and_eq_true] at h
  simp at hx hy
  subst hx
  subst hy
  cases ho : ops[e']? with
  | none => rw [ho] at h; exact absurd h.1 (by simp)
  | some o => rw [ho] at h; exact ⟨o, rfl, h.1⟩
 | e :: e' :: r, h, a + 1, x, y, hx, hy => by
  simp only [effOk, Bool.and_eq_true] at h
  exact effOk_pair h.2 (a := a) (by simpa using hx) (by simpa using hy)
theorem qZ_put {j : Nat} {oi oj : Oper} {i : Nat} {v : AV} (hoi : ops[i]? = some oi) (hj : ops[j]? = some oj) (hji : j ≠ i) (hap : oi.apart ops oj = true) (heff : effOk md ops eff = true) (hno : ∀ e ∈ oj.after, Region.binds md e = true → e.on ≠ i) (hno2 : waitsT md ops j i = false) (hno3 : waitsT md ops i j = false)
  {K : St → Nat → Prop} (hK : ∀ a b t, same a b → K a t → K b t) {s : St} {t t' : Nat} (ht : t ≤ eff.length)
  (hy : ZA T P N md ops eff σs i oi v s t t') (h : qZ T P N md ops eff σs j K (putS oi.dst v s) t') :
  qZ T P N md ops eff σs j (fun s' u => ∃ u', ZA T P N md ops eff σs i oi v s' u u' ∧ K (putS oi.dst v s') u') s t := by
 obtain ⟨h1, h2, h3⟩ := Oper.apart_spec hap
 unfold qZ at h ⊢
 simp only [hj] at h ⊢
 obtain ⟨r, t2, hr, hn⟩ := h
 have hr' := hr.of_same (op_put oj s oi.dst v h1) (ask_put oj s oi.dst v h1)
 have keep := fun u u' (hz : ZA T P N md ops eff σs i oi v s u u') => hz.of_same (fun x hx => (op_put oi s oj.dst r h3 x hx).symm) (ask_put oi s oj.dst r h3).symm
 have hput : ∀ u, K (putS oj.dst r (putS oi.dst v s)) u → K (putS oi.dst v (putS oj.dst r s)) u := fun u hk => hK _ _ _ (put_comm s v r h2) hk
 rcases hy with ⟨hi1, rfl, hi3⟩ | ⟨hi1, htt, hi3, hi4⟩
 ·-- the first one changes memory: the other one does not
  rcases hr' with ⟨hj1, rfl, hj3⟩ | ⟨hj1, hee, hj3, hj4⟩
  ·exfalso
   obtain ⟨o, ho, hw⟩ := effOk_pair heff hi1 hj1
   rw [hj] at ho
   cases ho
   rw [waits_of hno] at hw
   cases hw
  ·subst hee
   have hm : mayAt md ops eff j t = true := by
    unfold mayAt at hj3 ⊢
    simp only [Bool.and_eq_true] at hj3 ⊢
    refine ⟨?_, ?_⟩
    ·have : eff.drop t = i :: eff.drop (t + 1) := by
      have hlt := (List.getElem?_eq_some_iff.1 hi1)
      rw [List.drop_eq_getElem_cons hlt.1, hlt.2]
     rw [this, List.all_cons, Bool.and_eq_true]
     exact ⟨by rw [hno2]; rfl, hj3.1⟩
    ·have : eff.take (t + 1) = eff.take t ++ [i] := by
      have hlt := (List.getElem?_eq_some_iff.1 hi1)
      rw [List.take_succ_eq_append_getElem hlt.1, hlt.2]
     rw [this, List.all_append, Bool.and_eq_true] at hj3
     exact hj3.2.1
   exact ⟨r, t, .inr ⟨hj1, rfl, hm, hj4⟩, t + 1, keep _ _ (.inl ⟨hi1, rfl, hi3⟩), hput _ hn⟩
 ·replace htt := htt.symm
  subst htt
  rcases hr' with ⟨hj1, rfl, hj3⟩ | ⟨hj1, hee, hj3, hj4⟩
  ·have hm : mayAt md ops eff i (t + 1) = true := by
    unfold mayAt at hi3 ⊢
    simp only [Bool.and_eq_true] at hi3 ⊢
    have hlt := (List.getElem?_eq_some_iff.1 hj1)
    refine ⟨?_, ?_⟩
    ·have : eff.drop t = j :: eff.drop (t + 1) := by
      rw [List.drop_eq_getElem_cons hlt.1, hlt.2]
     rw [this, List.all_cons, Bool.and_eq_true] at hi3
     exact hi3.1.2
    ·have : eff.take (t + 1) = eff.take t ++ [j] := by
      rw [List.take_succ_eq_append_getElem hlt.1, hlt.2]
     rw [this, List.all_append, Bool.and_eq_true]
     refine ⟨hi3.2, ?_⟩
     simp only [List.all_cons, List.all_nil, Bool.and_true]
     rw [hno2]; rfl
   exact ⟨r, t + 1, .inl ⟨hj1, rfl, hj3⟩, t + 1, keep _ _ (.inr ⟨hi1, rfl, hm, hi4⟩), hput _ hn⟩
  ·replace hee := hee.symm
   subst hee
   exact ⟨r, t, .inr ⟨hj1, rfl, hj3, hj4⟩, t, keep _ _ (.inr ⟨hi1, rfl, hi3, hi4⟩), hput _ hn⟩
theorem ZA_le {i : Nat} {o : Oper} {r : AV} {s : St} {t t' : Nat} (h : ZA T P N md ops eff σs i o r s t t') (ht : t ≤ eff.length) : t' ≤ eff.length := by
 rcases h with ⟨h1, rfl, _⟩ | ⟨_, rfl, _⟩
 ·have := (List.getElem?_eq_some_iff.1 h1).1; omega
 ·exact ht
theorem anyZ_first (heff : effOk md ops eff = true) {Q : St → Nat → Prop} (hQ : ∀ a b t, same a b → Q a t → Q b t) {i : Nat} {oi : Oper} {v : AV} (hi : ops[i]? = some oi) :
  ∀ (fuel : Nat) (listed : Array Bool) (s : St) (t t' : Nat), t ≤ eff.length → Closed md ops listed →
   (∀ j oj, ops[j]? = some oj → j ≠ i → listed.getD j true = false → (∀ e ∈ oj.after, Region.binds md e = true → e.on ≠ i) → oi.apart ops oj = true) →
   i ∈ Region.ready md ops listed → ZA T P N md ops eff σs i oi v s t t' →
   anyZ T P N md ops eff σs Q fuel (listed.setIfInBounds i true) (putS oi.dst v s) t' → anyZ T P N md ops eff σs Q (fuel + 1) listed s t := by
 have now : ∀ {s : St} {t t' : Nat} {K : St → Nat → Prop}, ZA T P N md ops eff σs i oi v s t t' → K (putS oi.dst v s) t' → qZ T P N md ops eff σs i K s t := fun hy h => by
  unfold qZ; simp only [hi]; exact ⟨v, _, hy, h⟩
 intro fuel
 induction fuel with
 | zero =>
  intro listed a t t' ht _ _ hr hy H
  refine ⟨fun h => (by rw [h] at hr; cases hr), fun j hj => ?_⟩
  by_cases hji : j = i
  ·subst hji; exact now hy H
  ·have := ready_mono hj hji
   rw [H.1] at this
   cases this
 | succ fuel ih =>
  intro listed a t t' ht hcl hfree hr hy H
  refine ⟨fun h => (by rw [h] at hr; cases hr), fun j hj => ?_⟩
  by_cases hji : j = i
  ·subst hji; exact now hy H
  ·have h1 := H.2 j (ready_mono hj hji)
   obtain ⟨hjun, oj, hoj, hall⟩ := mem_ready.1 hj
   have unl : ∀ k, listed.getD k true = false → listed.getD k false = true → False := fun k h0 h1 => by
    rcases Nat.lt_or_ge k listed.size with h' | h'
    ·simp [h'] at h0 h1; rw [h0] at h1; cases h1
    ·simp [Array.getElem?_eq_none h'] at h1
   have hnot : ∀ e ∈ oj.after, Region.binds md e = true → e.on ≠ i := fun e he hb heq => by
    have h1 := hall e he hb
    rw [heq] at h1
    exact unl i (mem_ready.1 hr).1 h1
   have hnot2 : waitsT md ops j i = false := by
    cases hb : waitsT md ops j i with
    | false => rfl
    | true => exact (unl i (mem_ready.1 hr).1 (waitsT_listed hcl hoj hall hb)).elim
   have hnot3 : waitsT md ops i j = false := by
    cases hb : waitsT md ops i j with
    | false => rfl
    | true =>
     obtain ⟨_, oi', hoi', hall'⟩ := mem_ready.1 hr
     exact (unl j hjun (waitsT_listed hcl hoi' hall' hb)).elim
   have h2 := qZ_put hi hoj hji (hfree j oj hoj hji hjun hnot) heff hnot hnot2 hnot3 (fun a b t hab => anyZ_same hQ fuel _ a b t hab) ht hy h1
   have hfree' : ∀ k ok, ops[k]? = some ok → k ≠ i → (listed.setIfInBounds j true).getD k true = false →
     (∀ e ∈ ok.after, Region.binds md e = true → e.on ≠ i) → oi.apart ops ok = true := fun k ok hk hki hun hno => by
    refine hfree k ok hk hki ?_ hno
    by_cases hjk : j = k
    ·subst hjk; exact hjun
    ·rw [getD_set_ne true hjk] at hun; exact hun
   unfold qZ at h2 ⊢
   simp only [hoj] at h2 ⊢
   obtain ⟨r, u, q1, u', q2, q3⟩ := h2
   refine ⟨r, u, q1, ih (listed.setIfInBounds j true) _ u u' (ZA_le q1 ht) (hcl.set hj) hfree' (ready_mono hr (Ne.symm hji)) q2 ?_⟩
   rw [Array.setIfInBounds_comm _ _ hji]
   exact q3
def zops (T : List TI) (P : Program) (N : Nat) (md : Region.Mode) (ops : Array Oper) (eff : List Nat) (σs : Nat → Store) (Q : St → Nat → Prop) : List Oper → Nat → St → Nat → Prop
 | [], _, s, t => Q s t
 | o :: rest, i, s, t => ∃ r t', ZA T P N md ops eff σs i o r s t t' ∧ zops T P N md ops eff σs Q rest (i + 1) (putS o.dst r s) t'
theorem anyZ_lex (heff : effOk md ops eff = true) {Q : St → Nat → Prop} (hQ : ∀ a b t, same a b → Q a t → Q b t) : ∀ (l : List Oper) (k : Nat) (listed : Array Bool) (s : St) (t : Nat), t ≤ eff.length → Closed md ops listed → (∀ j, l[j]? = ops[k + j]?) →
  Region.lexFrom md ops l.length k listed = true → zops T P N md ops eff σs Q l k s t → anyZ T P N md ops eff σs Q l.length listed s t
 | [], _, _, _, _, _, _, _, hB, h => ⟨by simpa [Region.lexFrom] using hB, h⟩
 | o :: l, k, listed, s, t, ht, hcl, hl, hB, h => by
  have h0 : ops[k]? = some o := by simpa using (hl 0).symm
  simp only [List.length_cons, Region.lexFrom, Bool.and_eq_true] at hB
  obtain ⟨⟨hr, hf⟩, hB'⟩ := hB
  obtain ⟨v, t', hy, hK⟩ := h
  exact anyZ_first heff hQ h0 l.length listed s t t' ht hcl (Region.free_spec h0 hf) (by simpa using hr) hy
   (anyZ_lex heff hQ l (k + 1) _ _ t' (ZA_le hy ht) (hcl.set (by simpa using hr)) (fun j => by have := hl (j + 1); simpa [Nat.add_assoc, Nat.add_comm 1 j] using this) hB' hK)
theorem YE_sound (hw : wfP P = true) {g : Ghost} {w : World} {σ σ' : Store} {s : St} {a : Act} {o : Oper} {r : AV} {K : Act → World → Prop} {Q : Exit → Act → World → Prop} {i : Nat} (hi : ops[i]? = some o) (h : YE (tabOf P) P N σ σ' ops.toList o r s) (hT : RelT N g w s a) (R : StoreRel P g σ w)
  (hK : ∀ g' w' a', Ext g σ w g' σ' w' → StoreRel P g' σ' w' → RelT N g' w' (putS o.dst r s) a' → K a' w') : wpOp P ops Q i K a w := by
 obtain ⟨hN, hrun, hs⟩ := h
 have put : ∀ {g' : Ghost} {w' : World} {v : Value}, RelT N g' w' s a → RepA g' w' r v → RelT N g' w' (putS o.dst r s) (a.put o.dst v) := by
  intro g' w' v hT' hr
  cases hd : o.dst with
  | none => exact hT'
  | some d =>
   rw [hd] at hN
   obtain ⟨s', h1, h2⟩ := put_ok (N := N) (dst := some d) (K := fun s' => s' = (d, r) :: s) hT' hr (by
    unfold aput
    have : Nat.ble (d + 1) N = true := hN
    simp only [this])
   subst h2; exact h1
 have hwant : Region.wanted o (yielded ops a.tmps) = true := by
  cases hg : o.guard with
  | none => simp [Region.wanted, hg]
  | some jw =>
   obtain ⟨j, want⟩ := jw
   have slot : ∀ (v : AV) (b : Bool), aguard ops.toList s j = v → (∀ u, RepA g w v u → u = .bool b) → v ≠ .top → yielded ops a.tmps j = some b := by
    intro v b hv hvb hnt
    unfold aguard at hv
    unfold yielded
    simp only [Array.getElem?_toList] at hv
    cases hj : ops[j]? with
    | none => rw [hj] at hv; exact absurd hv.symm hnt
    | some oj =>
     rw [hj] at hv
     dsimp only at hv ⊢
     cases hd : oj.dst with
     | none => rw [hd] at hv; exact absurd hv.symm hnt
     | some d =>
      rw [hd] at hv
      dsimp only at hv ⊢
      have hrep := hT.rep d
      rw [hv] at hrep
      have hval := hvb _ hrep
      have hlt : d < a.tmps.size := by
       rcases Nat.lt_or_ge d a.tmps.size with h' | h'
       ·exact h'
       ·exfalso
        rw [Array.getD_eq_getD_getElem?, Array.getElem?_eq_none h'] at hval
        cases hval
      have hsome : a.tmps[d]? = some (.bool b) := by
       rw [Array.getD_eq_getD_getElem?, Array.getElem?_eq_getElem hlt] at hval
       rw [Array.getElem?_eq_getElem hlt]
       simpa using hval
      simp [hd, hsome]
   have fin : ∀ b, yielded ops a.tmps j = some b → runIf b want = .run → Region.wanted o (yielded ops a.tmps) = true := by
    intro b hy hd
    simp only [Region.wanted, hg, hy]
    cases b <;> cases want <;> first | rfl | cases hd
   unfold askS at hrun
   rw [hg] at hrun
   dsimp only at hrun
   cases hv : aguard ops.toList s j with
   | tt => rw [hv] at hrun; exact fin true (slot .tt true hv (fun u hu => by cases hu; rfl) (by simp)) (by cases want <;> first | rfl | cases hrun)
   | ff => rw [hv] at hrun; exact fin false (slot .ff false hv (fun u hu => by cases hu; rfl) (by simp)) (by cases want <;> first | rfl | cases hrun)
   | d x =>
    rw [hv] at hrun
    cases x with
    | bool b => exact fin b (slot _ b hv (fun u hu => repA_bool hu) (by simp)) hrun
    | _ => cases hrun
   | tup vs => rw [hv] at hrun; cases vs <;> cases hrun
   | _ => rw [hv] at hrun; cases hrun
 unfold wpOp
 simp only [hi]
 rw [hwant, if_pos rfl]
 refine .inl ?_
 have hup := step_sound hw hs hT R
 unfold Oper.wp
 generalize (execOp a.eval o).run P w = res at hup
 cases res with
 | halt x w' => exact hup.elim
 | ok n w' =>
  cases n with
  | value v =>
   obtain ⟨g', σ1, r1, h1, h2, h3, h4⟩ := hup
   obtain ⟨g2, e1, e2, e3⟩ := h4 _ g g' w w' v R h1 h2 h3
   exact hK g2 w' _ e1 e2 (put (hT.mono (e1.keeps R)) e3)
  | skip =>
   obtain ⟨g', σ1, h1, h2, h4⟩ := hup
   obtain ⟨g2, e1, e2, e3⟩ := h4 _ g g' w w' undef R h1 h2 (.top undef)
   exact hK g2 w' _ e1 e2 (put (hT.mono (e1.keeps R)) e3)
  | enter f args =>
   obtain ⟨hww, hc⟩ := hup
   replace hww := hww.symm
   subst hww
   refine hc.mono fun e w'' he => ?_
   obtain ⟨v, g', σ1, r1, rfl, h1, h2, h3, h4⟩ := he
   obtain ⟨g2, e1, e2, e3⟩ := h4 _ g g' w w'' v R h1 h2 h3
   exact hK g2 w'' _ e1 e2 (put (hT.mono (e1.keeps R)) e3)
  | _ => exact hup.elim
theorem anyZ_sound (hw : wfP P = true) {sm : St} {tm : Nat} {K : Exit → St → Store → Prop} (hK : K .normal sm (σs tm)) {g0 : Ghost} {w0 : World} (R0 : StoreRel P g0 (σs 0) w0) (hB : B ≤ g0.n) : ∀ (fuel : Nat) (listed : Array Bool) (s : St) (t : Nat) (g : Ghost) (w : World) (a : Act), t ≤ eff.length →
  anyZ (tabOf P) P N md ops eff σs (fun s t => same s sm ∧ t = tm) fuel listed s t → RelT N g w s a → StoreRel P g (σs t) w → Ext g0 (σs 0) w0 g (σs t) w → wpAny P md ops (Post (P := P) N B g0 (σs 0) w0 K) fuel listed a w
 | 0, _, s, t, g, w, a, ht, h, hT, R, hE => by
  obtain ⟨h1, h2, rfl⟩ := h
  exact ⟨h1, sm, σs t, g, hK, hT.same h2, hE.toB hB, R⟩
 | fuel + 1, listed, s, t, g, w, a, ht, h, hT, R, hE => by
  refine ⟨fun h0 => ?_, fun i hi => ?_⟩
  ·obtain ⟨h2, rfl⟩ := h.1 h0
   exact ⟨sm, σs t, g, hK, hT.same h2, hE.toB hB, R⟩
  have hq := h.2 i hi
  cases ho : ops[i]? with
  | none =>
   unfold qZ at hq
   simp only [ho] at hq
   unfold wpOp
   simp only [ho]
   exact anyZ_sound hw hK R0 hB fuel _ s t g w a ht hq hT R hE
  | some o =>
   unfold qZ at hq
   simp only [ho] at hq
   obtain ⟨r, t', hy, hn⟩ := hq
   have ht' := ZA_le hy ht
   rcases hy with ⟨h1, rfl, h3⟩ | ⟨h1, hee, h3, h4⟩
   ·exact YE_sound hw ho h3 hT R fun g' w' a' e1 e2 e3 => anyZ_sound hw hK R0 hB fuel _ _ (t + 1) g' w' a' ht' hn e3 e2 (hE.trans R0 e1)
   ·replace hee := hee.symm
    subst hee
    exact YA_sound hw ho (h4 t ht h3) hT R fun g' w' a' e1 e2 e3 => anyZ_sound hw hK R0 hB fuel _ _ t g' w' a' ht' hn e3 e2 (hE.trans R0 e1)
theorem drawnZ (hw : wfP P = true) {T : List TI} (hT : tabOf P = T) {id : Nat} {K : Exit → St → Store → Prop} {s : St} {σ : Store} (eff : List Nat) (σs : Nat → Store) (h0 : σs 0 = σ) (hm : P.follows .mixedOrders = true) (hL : (Region.lexB .any ops && effOk .any ops eff) = true)
  (h : zops T P N .any ops eff σs (fun s t => K .normal s (σs t)) ops.toList 0 s 0) : E P N B (.region id ops true) K s σ := fun g a w hB hR R => by
 subst hT
 subst h0
 simp only [Region.lexB, Bool.and_eq_true] at hL
 have last : ∀ (l : List Oper) (i : Nat) (s : St) (t : Nat), zops (tabOf P) P N .any ops eff σs (fun s t => K .normal s (σs t)) l i s t → ∃ sm tm, K .normal sm (σs tm) ∧ zops (tabOf P) P N .any ops eff σs (fun s t => same s sm ∧ t = tm) l i s t := by
  intro l
  induction l with
  | nil => intro i s t h; exact ⟨s, t, h, same.refl s, rfl⟩
  | cons o l ih =>
   intro i s t h
   obtain ⟨r, t', h1, h2⟩ := h
   obtain ⟨sm, tm, q1, q2⟩ := ih _ _ _ h2
   exact ⟨sm, tm, q1, r, t', h1, q2⟩
 obtain ⟨sm, tm, hK, hq⟩ := last _ _ _ _ h
 have := anyZ_lex (md := .any) hL.2 (fun a b t hab ha => ⟨hab.symm.trans ha.1, ha.2⟩) ops.toList 0 (Array.replicate ops.size false) s 0 (Nat.zero_le _) (fun x o _ hl => by simp [Array.getD_eq_getD_getElem?, Array.getElem?_replicate] at hl; split at hl <;> simp at hl) (by simp) (by simpa using hL.1.2) hq
 refine wp_region_any hm ?_
 have hk : Keeps g w g { w with drawn := w.drawn + 1 } := ⟨Nat.le_refl _, fun _ _ => ⟨rfl, rfl, rfl⟩, fun b hb => ⟨hb, rfl⟩⟩
 have R' : StoreRel P g (σs 0) { w with drawn := w.drawn + 1 } := ⟨R.n, R.lt, R.owner, R.dead, fun i hi => (R.ob i hi).mono hk hi (fun b hb => ⟨hb, rfl⟩), glob_keep hk R.glob⟩
 have hR' : RelT N g { w with drawn := w.drawn + 1 } s a := hR.mono hk
 have hE' : Ext g (σs 0) w g (σs 0) { w with drawn := w.drawn + 1 } := ⟨Nat.le_refl _, fun _ _ => ⟨rfl, rfl, rfl⟩, fun _ _ h => h, Nat.le_refl _, fun _ _ _ => ⟨rfl, rfl⟩, rfl, rfl, rfl⟩
 have hsz : ops.toList.length = ops.size := by simp
 rw [hsz] at this
 exact anyZ_sound (md := .any) hw hK R hB _ _ s 0 g _ a (Nat.zero_le _) this hR' R' hE'
theorem zblind {Q : St → Nat → Prop} {o : Oper} {rest : List Oper} {i : Nat} {s : St} {t : Nat} {r : AV} (hi : (!eff.contains i && mayAt md ops eff i t) = true) (hN : dstOk N o.dst = true) (hg : askS ops.toList o s = .run) (h : ∀ σ, astep T P s σ o.op (fun v σ' => FinMove σ v σ' r σ))
  (k : zops T P N md ops eff σs Q rest (i + 1) (putS o.dst r s) t) : zops T P N md ops eff σs Q (o :: rest) i s t := by
 rw [Bool.and_eq_true] at hi
 exact ⟨r, t, .inr ⟨by simpa using hi.1, rfl, hi.2, fun u _ _ => ⟨hN, .inl ⟨hg, h (σs u)⟩⟩⟩, k⟩
theorem zskip {Q : St → Nat → Prop} {o : Oper} {rest : List Oper} {i : Nat} {s : St} {t : Nat} (hi : (!eff.contains i && mayAt md ops eff i t) = true) (hN : dstOk N o.dst = true) (hg : askS ops.toList o s = .skip)
  (k : zops T P N md ops eff σs Q rest (i + 1) (putS o.dst (.tup []) s) t) : zops T P N md ops eff σs Q (o :: rest) i s t := by
 rw [Bool.and_eq_true] at hi
 exact ⟨.tup [], t, .inr ⟨by simpa using hi.1, rfl, hi.2, fun u _ _ => ⟨hN, .inr ⟨hg, rfl⟩⟩⟩, k⟩
def allL (A : Nat → Prop) : List Nat → Prop
 | [] => True
 | u :: r => A u ∧ allL A r
theorem allL_get {A : Nat → Prop} : ∀ {l : List Nat}, allL A l → ∀ u ∈ l, A u
 | u :: r, h, v, hv => by
  rcases List.mem_cons.1 hv with rfl | hv
  ·exact h.1
  ·exact allL_get h.2 v hv
theorem zreadL {Q : St → Nat → Prop} {o : Oper} {rest : List Oper} {i : Nat} {s : St} {t : Nat} {r : AV} (us : List Nat) (hi : (!eff.contains i && mayAt md ops eff i t && (List.range (eff.length + 1)).all fun u => !mayAt md ops eff i u || us.contains u) = true) (hN : dstOk N o.dst = true) (hg : askS ops.toList o s = .run)
  (h : allL (fun u => astep T P s (σs u) o.op (fun v σ' => FinMove (σs u) v σ' r (σs u))) us)
  (k : zops T P N md ops eff σs Q rest (i + 1) (putS o.dst r s) t) : zops T P N md ops eff σs Q (o :: rest) i s t := by
 rw [Bool.and_eq_true, Bool.and_eq_true] at hi
 refine ⟨r, t, .inr ⟨by simpa using hi.1.1, rfl, hi.1.2, fun u hu hm => ⟨hN, .inl ⟨hg, allL_get h u ?_⟩⟩⟩, k⟩
 have := List.all_eq_true.1 hi.2 u (by simp; omega)
 rw [hm] at this
 simpa using this
theorem zeff {Q : St → Nat → Prop} {o : Oper} {rest : List Oper} {i : Nat} {s : St} {t : Nat} {r : AV} (hi : eff[t]? = some i) (hN : dstOk N o.dst = true) (hg : askS ops.toList o s = .run) (h : astep T P s (σs t) o.op (fun v σ' => FinMove (σs t) v σ' r (σs (t + 1))))
  (k : zops T P N md ops eff σs Q rest (i + 1) (putS o.dst r s) (t + 1)) : zops T P N md ops eff σs Q (o :: rest) i s t :=
 ⟨r, t + 1, .inl ⟨hi, rfl, hN, hg, h⟩, k⟩
def pops (T : List TI) (P : Program) (N : Nat) (l : List Oper) (Q : St → Store → Prop) : List Oper → St → Store → Prop
 | [], s, σ => Q s σ
 | o :: rest, s, σ => (∃ r σ2, YE T P N σ σ2 l o r s ∧ pops T P N l Q rest (putS o.dst r s) σ2) ∨ (YA T P N σ l o (.tup []) s ∧ pops T P N l Q rest (putS o.dst (.tup []) s) σ)
theorem pops_sound (hw : wfP P = true) {K : Exit → St → Store → Prop} {g0 : Ghost} {σ0 : Store} {w0 : World} (R0 : StoreRel P g0 σ0 w0) (hB : B ≤ g0.n) : ∀ (l : List Oper) (k : Nat) (s : St) (σ : Store) (g : Ghost) (w : World) (a : Act), (∀ j, l[j]? = ops[k + j]?) →
  pops (tabOf P) P N ops.toList (fun s σ => K .normal s σ) l s σ → RelT N g w s a → StoreRel P g σ w → Ext g0 σ0 w0 g σ w → wpOps P ops (Post (P := P) N B g0 σ0 w0 K) (List.range' k l.length) a w
 | [], k, s, σ, g, w, a, _, h, hT, R, hE => ⟨s, σ, g, h, hT, hE.toB hB, R⟩
 | o :: rest, k, s, σ, g, w, a, hl, h, hT, R, hE => by
  have ho : ops[k]? = some o := by have := hl 0; simpa using this.symm
  have hl' : ∀ j, rest[j]? = ops[k + 1 + j]? := fun j => by have := hl (j + 1); simpa [Nat.add_assoc, Nat.add_comm 1 j] using this
  rw [List.length_cons, List.range'_succ, wpOps_cons]
  rcases h with ⟨r, σ2, hy, hn⟩ | ⟨hy, hn⟩
  ·exact YE_sound hw ho hy hT R fun g' w' a' e1 e2 e3 => pops_sound hw R0 hB rest (k + 1) _ σ2 g' w' a' hl' hn e3 e2 (hE.trans R0 e1)
  ·exact YA_sound hw ho hy hT R fun g' w' a' e1 e2 e3 => pops_sound hw R0 hB rest (k + 1) _ σ g' w' a' hl' hn e3 e2 (hE.trans R0 e1)
theorem textT (hw : wfP P = true) {T : List TI} (hT : tabOf P = T) {id : Nat} {K : Exit → St → Store → Prop} {s : St} {σ : Store} (h : pops T P N ops.toList (fun s σ => K .normal s σ) ops.toList s σ) : E P N B (.region id ops false) K s σ := fun g a w hB hR R => by
 subst hT
 refine wp_region ?_
 have := pops_sound (B := B) hw R hB ops.toList 0 s σ g w a (fun j => by simp) h hR R (Ext.refl _ _ _)
 rw [List.range_eq_range']
 simpa using this
theorem pstep {l : List Oper} {Q : St → Store → Prop} {o : Oper} {rest : List Oper} {s : St} {σ : Store} {r : AV} (σ2 : Store) (hN : dstOk N o.dst = true) (hg : askS l o s = .run) (h : astep T P s σ o.op (fun v σ' => FinMove σ v σ' r σ2)) (k : pops T P N l Q rest (putS o.dst r s) σ2) :
  pops T P N l Q (o :: rest) s σ := .inl ⟨r, σ2, ⟨hN, hg, h⟩, k⟩
end
end Go.Aw

namespace Go.Aw
set_option linter.unusedVariables false
set_option linter.unusedSimpArgs false
def optL {α β : Type} (f : α → Option β) : List α → Option (List β)
 | [] => some []
 | a :: r => match f a, optL f r with
  | some x, some xs => some (x :: xs)
  | _, _ => none
theorem optL_get {α β : Type} {f : α → Option β} : ∀ {l : List α} {m : List β}, optL f l = some m → m.length = l.length ∧ ∀ (i : Nat) a, l[i]? = some a → ∃ b, m[i]? = some b ∧ f a = some b
 | [], m, h => by cases h; exact ⟨rfl, by simp⟩
 | a :: r, m, h => by
  simp only [optL] at h
  split at h
  ·rename_i x xs hx hxs
   cases h
   obtain ⟨h1, h2⟩ := optL_get hxs
   refine ⟨by simp [h1], fun i b hi => ?_⟩
   cases i with
   | zero => simp at hi; subst hi; exact ⟨x, by simp, hx⟩
   | succ i => simp at hi; simpa using h2 i b hi
  ·cases h
theorem optL_map {α β γ : Type} {f : β → Option γ} {g : α → β} {h : α → γ} (hh : ∀ a, f (g a) = some (h a)) : ∀ l : List α, optL f (l.map g) = some (l.map h)
 | [] => rfl
 | a :: r => by simp only [List.map_cons, optL, hh, optL_map hh r]
def seeP : AV → Option D
 | .d x => some x
 | .tt => some (.bool true)
 | .ff => some (.bool false)
 | .nil => some (.sl [])
 | .dt rows => some (.sl rows)
 | _ => none
def seeO (f : List (List AV) → Option (List (List D))) (o : Ob) (lo len : Nat) : Option D := match o with
 | .rows _ rs => match f rs with
  | some ds => (match Nat.ble (lo + len) rs.length with | true => some (.sl ((ds.drop lo).take len)) | false => none)
  | none => none
 | _ => none
def seeD (σ : Store) : Nat → AV → Option D
 | 0, a => seeP a
 | n + 1, a => match a with
  | .own i lo len => seeO (optL (optL (seeD σ n))) (σ.get i) lo len
  | .tight i lo len => seeO (optL (optL (seeD σ n))) (σ.get i) lo len
  | a => seeP a
def seeV (σ : Store) (n : Nat) : AV → Option AV
 | .agg vs => (optL (seeD σ n) vs).map fun l => .agg (l.map .d)
 | .ref i r 0 => match σ.get i with
  | .rows _ rs => (match rs[r]? with | some row => (optL (seeD σ n) row).map fun l => .ip l 0 | none => none)
  | _ => none
 | .nilp => some .nilp
 | .fn f [] [] => some (.fn f [] [])
 | a => (seeD σ n a).map .d
theorem seeD_d (σ : Store) (n : Nat) (x : D) : seeD σ n (.d x) = some x := by cases n <;> rfl
theorem see_row (σ : Store) (n : Nat) (r : List D) : optL (seeD σ n) (r.map .d) = some r := by
 have := optL_map (f := seeD σ n) (g := AV.d) (h := id) (fun x => seeD_d σ n x) r
 simpa using this
theorem see_rows (σ : Store) (n : Nat) (rs : List (List D)) : optL (optL (seeD σ n)) (rs.map fun r => r.map .d) = some rs := by
 have := optL_map (f := optL (seeD σ n)) (g := fun r : List D => r.map AV.d) (h := id) (fun r => see_row σ n r) rs
 simpa using this
theorem see_own {σ : Store} {n i len : Nat} {sz : Nat × Nat} {ds : List (List D)} (h : σ.get i = .rows sz (ds.map fun r => r.map .d)) (hl : len = ds.length) : seeD σ (n + 1) (.own i 0 len) = some (.sl ds) := by
 simp only [seeD, seeO, h, see_rows, List.length_map]
 rw [hl, Nat.zero_add, Nat.ble_eq_true_of_le (Nat.le_refl _)]
 simp
section
variable {P : Program}
theorem allImm_imm {g : Ghost} {σ : Store} {w : World} (R : StoreRel P g σ w) {b : Nat} (h : g.kind b ≠ .free) : (allImm w).imm b := by
 show (if b < w.heap.size then Kind.imm else .free) = .imm
 rw [if_pos (R.lt b h)]
theorem seen_rows {g : Ghost} {w : World} {i : Nat} {sz : Nat × Nat} {rs : List (List AV)} {ds : List (List D)} {I : Nat → Prop} (hob : ObRel g w i (.rows sz rs)) (hlen : ds.length = rs.length)
  (hds : ∀ (r : Nat) row, rs[r]? = some row → ∃ d, ds[r]? = some d ∧ d.length = row.length ∧ ∀ (j : Nat) a, row[j]? = some a → ∃ x, d[j]? = some x ∧ ∀ v, RepA g w a v → RepD I w x v)
  (hI : ∀ b, g.kind b ≠ .free → I b) (lo len cap : Nat) (hcap : len ≤ cap) (hle : lo + len ≤ rs.length) :
  RepD I w (.sl ((ds.drop lo).take len)) (.slice (some ⟨g.blk i, lo * g.sz i, none⟩) len cap) := by
 rcases hob with ⟨rfl, _, _⟩ | hob
 ·have h0 : len = 0 := by simp at hle; omega
  subst h0
  rw [List.take_zero]; exact .sl0 _ _
 obtain ⟨hk, hz, c, fr, hw, hf, hsz, hl, hrr⟩ := hob
 have hll : ((ds.drop lo).take len).length = len := by simp; omega
 have hval : ∀ (r j : Nat) d x, ds[r]? = some d → d[j]? = some x → ∃ v, c[r * g.sz i + j]? = some v ∧ RepD I w x v := by
  intro r j d x hr hx
  obtain ⟨row, hrow⟩ := getElem?_of_lt (l := rs) (j := r) (by rw [← hlen]; exact lt_of_some hr)
  obtain ⟨d', q1, q2, q3⟩ := hds r row hrow
  rw [hr] at q1; cases q1
  obtain ⟨a, ha⟩ := getElem?_of_lt (l := row) (j := j) (by rw [← q2]; exact lt_of_some hx)
  obtain ⟨x', p1, p2⟩ := q3 j a ha
  rw [hx] at p1; cases p1
  obtain ⟨v, hv, hra, _⟩ := (hrr r row hrow).2 j a ha
  exact ⟨v, hv, p2 v hra⟩
 have hrow : ∀ (r : Nat) d, ((ds.drop lo).take len)[r]? = some d → ds[lo + r]? = some d := by
  intro r d hr
  rw [List.getElem?_take] at hr
  split at hr
  ·rw [List.getElem?_drop] at hr; exact hr
  ·cases hr
 have hgoal : RepD I w (.sl ((ds.drop lo).take len)) (.slice (some ⟨g.blk i, lo * g.sz i, none⟩) ((ds.drop lo).take len).length cap) := by
  refine .sl _ (g.blk i) (lo * g.sz i) cap (g.sz i) (fun r j => c.getD ((lo + r) * g.sz i + j) undef) (hI _ (by rw [hk]; intro e; cases e)) (by omega) (fun r d hr => ?_) (fun r j d x hr hx => ?_) (fun r j d x hr hx => ?_)
  ·have q1 := hrow r d hr
   obtain ⟨row, hrow2⟩ := getElem?_of_lt (l := rs) (j := lo + r) (by rw [← hlen]; exact lt_of_some q1)
   obtain ⟨d', p1, p2, _⟩ := hds _ row hrow2
   rw [q1] at p1; cases p1
   rw [p2]; exact (hrr _ row hrow2).1
  ·obtain ⟨v, hv, _⟩ := hval _ j d x (hrow r d hr) hx
   rw [cell_at hw, show lo * g.sz i + (r * g.sz i + j) = (lo + r) * g.sz i + j by rw [Nat.add_mul]; omega, hv]
   rw [Array.getD_eq_getD_getElem?, hv]; rfl
  ·obtain ⟨v, hv, hrep⟩ := hval _ j d x (hrow r d hr) hx
   rw [Array.getD_eq_getD_getElem?, hv]
   exact hrep
 rw [hll] at hgoal
 exact hgoal
theorem seeP_ok {g : Ghost} {σ : Store} {w : World} (R : StoreRel P g σ w) {a : AV} {x : D} {v : Value} (h : seeP a = some x) (hr : RepA g w a v) : RepD (allImm w).imm w x v := by
 have hm : ∀ {x : D} {v : Value}, RepD g.imm w x v → RepD (allImm w).imm w x v := fun h => h.mono fun b hb => ⟨allImm_imm R (by have hb' : g.kind b = .imm := hb; rw [hb']; intro e; cases e), rfl⟩
 cases hr <;> first | (cases h; done) | skip
 ·cases h; exact .bool _
 ·cases h; exact .bool _
 ·rename_i hx; cases h; exact hm hx
 ·cases h; exact .sl0 _ _
 ·rename_i hx; cases h; exact hm hx
theorem seeD_ok {g : Ghost} {σ : Store} {w : World} (R : StoreRel P g σ w) : ∀ (n : Nat) {a : AV} {x : D} {v : Value}, seeD σ n a = some x → RepA g w a v → RepD (allImm w).imm w x v
 | 0, a, x, v, h, hr => seeP_ok R h hr
 | n + 1, a, x, v, h, hr => by
  have hO : ∀ {i lo len : Nat} {x : D} (cap : Nat), len ≤ cap → seeO (optL (optL (seeD σ n))) (σ.get i) lo len = some x → i < g.n → RepD (allImm w).imm w x (.slice (some ⟨g.blk i, lo * g.sz i, none⟩) len cap) ∧ (len = 0 → x = .sl []) := by
   intro i lo len x cap hcap h hi
   unfold seeO at h
   split at h
   ·rename_i sz rs ho
    split at h
    ·rename_i ds hds
     split at h
     ·rename_i hb
      cases h
      obtain ⟨h1, h2⟩ := optL_get hds
      have hob := R.ob i hi
      rw [ho] at hob
      refine ⟨seen_rows hob h1 (fun r row hr => ?_) (fun b hb => allImm_imm R hb) lo len cap hcap (Nat.le_of_ble_eq_true hb), fun h0 => by rw [h0, List.take_zero]⟩
      obtain ⟨d, q1, q2⟩ := h2 r row hr
      obtain ⟨p1, p2⟩ := optL_get q2
      refine ⟨d, q1, p1, fun j a ha => ?_⟩
      obtain ⟨x, w1, w2⟩ := p2 j a ha
      exact ⟨x, w1, fun v hv => seeD_ok R n w2 hv⟩
     ·cases h
    ·cases h
   ·cases h
  cases hr with
  | own i lo len cap hi hc hl => exact (hO cap hl h hi).1
  | own0 i lo hi => rw [(hO 0 (Nat.le_refl _) h hi).2 rfl]; exact .sl0 _ _
  | tight i lo len hi => exact (hO len (Nat.le_refl _) h hi).1
  | tight0 i lo hi => rw [(hO 0 (Nat.le_refl _) h hi).2 rfl]; exact .sl0 _ _
  | top v => exact seeP_ok (g := g) (w := w) (a := .top) R h (.top v)
  | tt => exact seeP_ok (g := g) (w := w) (a := .tt) R h .tt
  | ff => exact seeP_ok (g := g) (w := w) (a := .ff) R h .ff
  | d hx => exact seeP_ok (g := g) (w := w) (a := .d _) R h (.d hx)
  | nil => exact seeP_ok (g := g) (w := w) (a := .nil) R h .nil
  | ref i r c hi => exact seeP_ok (g := g) (w := w) (a := .ref i r c) R h (.ref i r c hi)
  | nilp => exact seeP_ok (g := g) (w := w) (a := .nilp) R h .nilp
  | ip row c b o f hI hc hr => exact seeP_ok (g := g) (w := w) (a := .ip row c) R h (.ip row c b o f hI hc hr)
  | dt rows a hx => exact seeP_ok (g := g) (w := w) (a := .dt rows) R h (.dt rows a hx)
  | mp i hi => exact seeP_ok (g := g) (w := w) (a := .mp i) R h (.mp i hi)
  | fn f first captured vf vc hf hc rf rc => exact seeP_ok (g := g) (w := w) (a := .fn f first captured) R h (.fn f first captured vf vc hf hc rf rc)
  | nilf => exact seeP_ok (g := g) (w := w) (a := .nilf) R h .nilf
  | ifc t a v hx => exact seeP_ok (g := g) (w := w) (a := .ifc t a) R h (.ifc t a v hx)
  | nili => exact seeP_ok (g := g) (w := w) (a := .nili) R h .nili
  | lit v => exact seeP_ok (g := g) (w := w) (a := .lit v) R h (.lit v)
  | agg vs cs hl hx => exact seeP_ok (g := g) (w := w) (a := .agg vs) R h (.agg vs cs hl hx)
  | tup vs cs hl hx => exact seeP_ok (g := g) (w := w) (a := .tup vs) R h (.tup vs cs hl hx)
theorem seeV_ok {g : Ghost} {σ : Store} {w : World} (R : StoreRel P g σ w) {n : Nat} {a a' : AV} {v : Value} (h : seeV σ n a = some a') (hr : RepA g w a v) : RepA (allImm w) w a' v := by
 unfold seeV at h
 split at h
 ·rename_i vs
  rw [Option.map_eq_some_iff] at h
  obtain ⟨l, hl, rfl⟩ := h
  cases hr with
  | agg _ cs hlen hx =>
   obtain ⟨h1, h2⟩ := optL_get hl
   refine .agg _ cs (by simp [h1, hlen]) fun i b u hb hu => ?_
   rw [List.getElem?_map, Option.map_eq_some_iff] at hb
   obtain ⟨x, hx', rfl⟩ := hb
   obtain ⟨c, hc⟩ := getElem?_of_lt (l := vs) (j := i) (by rw [← h1]; exact lt_of_some hx')
   obtain ⟨y, q1, q2⟩ := h2 i c hc
   rw [hx'] at q1; cases q1
   exact .d (seeD_ok R n q2 (hx i c u hc hu))
 ·rename_i i r
  split at h
  ·rename_i sz rs ho
   split at h
   ·rename_i row hrow
    rw [Option.map_eq_some_iff] at h
    obtain ⟨l, hl, rfl⟩ := h
    cases hr with
    | ref _ _ _ hi =>
     have hob := R.ob i hi
     rw [ho] at hob
     obtain ⟨hk, hz, c, fr, hw, hf, hsz, hle, hrr⟩ := hob.at hrow
     obtain ⟨p1, p2⟩ := hrr r row hrow
     obtain ⟨h1, h2⟩ := optL_get hl
     have hcell : ∀ (j : Nat) x, l[j]? = some x → ∃ v, c[r * g.sz i + j]? = some v ∧ RepD (allImm w).imm w x v := by
      intro j x hx
      obtain ⟨a, ha⟩ := getElem?_of_lt (l := row) (j := j) (by rw [← h1]; exact lt_of_some hx)
      obtain ⟨y, q1, q2⟩ := h2 j a ha
      rw [hx] at q1; cases q1
      obtain ⟨v, hv, hra, _⟩ := p2 j a ha
      exact ⟨v, hv, seeD_ok R n q2 hra⟩
     refine .ip l 0 (g.blk i) (r * g.sz i + 0) (fun j => c.getD (r * g.sz i + j) undef) (allImm_imm R (by rw [hk]; intro e; cases e)) (fun j x hx => ?_) (fun j x hx => ?_)
     ·obtain ⟨v, hv, _⟩ := hcell j x hx
      rw [Nat.add_zero, cell_at hw, hv, Array.getD_eq_getD_getElem?, hv]; rfl
     ·obtain ⟨v, hv, hd⟩ := hcell j x hx
      rw [Array.getD_eq_getD_getElem?, hv]; exact hd
   ·cases h
  ·cases h
 ·cases h; cases hr; exact .nilp
 ·cases h
  cases hr with
  | fn f0 first captured vf vc hf hc rf rc => exact .fn _ [] [] vf vc hf hc (by simp) (by simp)
 ·rw [Option.map_eq_some_iff] at h
  obtain ⟨x, hx, rfl⟩ := h
  exact .d (seeD_ok R n hx hr)
def flatD : D → Bool
 | .sl _ => false
 | _ => true
mutual
def AV.flat : AV → Bool
 | .d x => flatD x
 | .tt => true
 | .ff => true
 | .nil => true
 | .nilp => true
 | .nili => true
 | .tup vs => flatL vs
 | .agg vs => flatL vs
 | _ => false
def flatL : List AV → Bool
 | [] => true
 | a :: r => a.flat && flatL r
end
theorem flatL_get : ∀ {l : List AV} {i : Nat} {a : AV}, flatL l = true → l[i]? = some a → a.flat = true
 | x :: l, 0, a, h, hi => by simp [flatL] at h hi; subst hi; exact h.1
 | x :: l, i + 1, a, h, hi => by simp [flatL] at h hi; exact flatL_get h.2 hi
theorem flat_rep {g g' : Ghost} {w w' : World} {a : AV} {v : Value} (hr : RepA g w a v) : a.flat = true → RepA g' w' a v := by
 induction hr with
 | tt => exact fun _ => .tt
 | ff => exact fun _ => .ff
 | d h =>
  intro hf
  cases h with
  | bool b => exact .d (.bool b)
  | int k n => exact .d (.int k n)
  | str s => exact .d (.str s)
  | sl0 => cases hf
  | sl => cases hf
 | nil => exact fun _ => .nil
 | nilp => exact fun _ => .nilp
 | nili => exact fun _ => .nili
 | agg vs cs hl h ih => exact fun hf => .agg vs cs hl (fun i a v ha hv => ih i a v ha hv (flatL_get hf ha))
 | tup vs cs hl h ih => exact fun hf => .tup vs cs hl (fun i a v ha hv => ih i a v ha hv (flatL_get hf ha))
 | _ => exact fun hf => absurd hf (by simp [AV.flat])
theorem allImm_after {g g1 : Ghost} {σ σ1 : Store} {w w1 : World} (R : StoreRel P g σ w) (hE : Ext (allImm w) ⟨0, []⟩ w g1 σ1 w1) : Ext g σ w g σ w1 ∧ StoreRel P g σ w1 := by
 have hh : ∀ b, b < w.heap.size → w1.heap[b]? = w.heap[b]? := fun b hb => (hE.keep b hb (fun i hi => by simp only [allImm] at hi; split at hi <;> cases hi)).2
 have hk : Keeps g w g w1 := ⟨Nat.le_refl _, fun _ _ => ⟨rfl, rfl, rfl⟩, fun b hb => ⟨hb, hh b (R.lt b (by have hb' : g.kind b = .imm := hb; rw [hb']; intro e; cases e))⟩⟩
 refine ⟨⟨Nat.le_refl _, fun _ _ => ⟨rfl, rfl, rfl⟩, fun _ _ h => h, hE.size, fun b hb _ => ⟨rfl, hh b hb⟩, hE.os, hE.tape, hE.output⟩, ⟨R.n, fun b hb => Nat.lt_of_lt_of_le (R.lt b hb) hE.size, R.owner, R.dead, fun i hi => ?_, glob_keep hk R.glob⟩⟩
 exact (R.ob i hi).mono hk hi fun b hb => ⟨hb, hh b (R.lt b (by rw [hb]; intro e; cases e))⟩
theorem PureC.borrow {f : FuncId} {args args' : List AV} {r : AV} {σ : Store} (n : Nat) (h : PureC P f args' r) (hf : r.flat = true) (hs : optL (seeV σ n) args = some args') : CallsAbs P f args σ fun r' σ' => r' = r ∧ σ' = σ := by
 obtain ⟨h1, h2⟩ := optL_get hs
 have hargs : ∀ {g : Ghost} {w : World} {vs : List Value}, StoreRel P g σ w → RepL g w args vs → RepL (allImm w) w args' vs := by
  intro g w vs R hL
  refine ⟨h1.trans hL.1, fun i a v ha hv => ?_⟩
  obtain ⟨c, hc⟩ := getElem?_of_lt (l := args) (j := i) (by rw [← h1]; exact lt_of_some ha)
  obtain ⟨y, q1, q2⟩ := h2 i c hc
  rw [ha] at q1; cases q1
  exact seeV_ok R q2 (hL.2 i c v hc hv)
 rcases h ⟨0, []⟩ with h | ⟨fn, e, k1, k2, k3, k4, k5, k6⟩
 ·refine .inl ⟨h.1, fun g w vs R hL => (h.2 (allImm w) w vs (allImm_rel w fun x hx => (R.glob x hx).2) (hargs R hL)).mono fun e w1 ⟨v, g1, σ1, r1, he, hE, hR, hr, h1, h2⟩ => ?_⟩
  subst h1
  obtain ⟨q1, q2⟩ := allImm_after R hE
  exact ⟨v, g, σ, r1, he, q1, q2, flat_rep hr hf, rfl, rfl⟩
 ·refine .inr ⟨fn, e, k1, k2, k3, k4, k5, fun g w vs R hL => ?_⟩
  have := k6 (allImm w) w vs (allImm_rel w fun x hx => (R.glob x hx).2) (hargs R hL)
  cases hx : (e vs.toArray).run P w with
  | ok v w1 =>
   rw [hx] at this
   obtain ⟨g1, σ1, r1, hE, hR, hr, h1, h2⟩ := this
   subst h1
   obtain ⟨q1, q2⟩ := allImm_after R hE
   exact ⟨g, σ, r1, q1, q2, flat_rep hr hf, rfl, rfl⟩
  | halt x w1 => rw [hx] at this; exact this.elim
end
end Go.Aw

namespace Go.Aw
theorem lenA {α : Type} : (∀ a b : List α, (a ++ b).length = a.length + b.length) ∧ (∀ (x : α) (l : List α), (x :: l).length = l.length + 1) ∧ ([] : List α).length = 0 ∧ (∀ (n : Nat) (l : List α), (l.drop n).length = l.length - n) ∧ (∀ (n : Nat) (l : List α), (l.take n).length = min n l.length) := ⟨fun _ _ => List.length_append, fun _ _ => List.length_cons, List.length_nil, fun _ _ => List.length_drop, fun _ _ => List.length_take⟩
theorem oB {P : Prop} (h : P := by first | omega | (simp only [lenA]; omega)) : P := h
theorem oL {P : Prop} (h : P := by first | exact Nat.le_refl _ | exact Nat.le_of_ble_eq_true rfl | decide) : P := h
theorem oR {P : Prop} (h : P := by first | exact Nat.le_refl _ | exact Nat.le_of_ble_eq_true rfl | decide | exact rfl) : P := h
theorem wS : (∀ (p : Prop) [Decidable p], (decide p = true) = p) ∧ (∀ (p : Prop) [Decidable p], (decide p = false) = ¬ p) ∧ (∀ b : Bool, ((!b) = true) = (b = false)) ∧ (∀ b : Bool, ((!b) = false) = (b = true)) ∧ (∀ b : Bool, (¬ (b = true)) = (b = false)) ∧ (∀ b : Bool, (¬ (b = false)) = (b = true)) ∧
  ((¬ True) = False) ∧ (∀ p : Prop, (True = p) = p) ∧ (∀ p : Prop, (True ↔ p) = p) ∧ (∀ p : Prop, (False ↔ p) = ¬ p) ∧ (∀ p : Prop, (p ↔ True) = p) ∧ (∀ p : Prop, (p ↔ False) = ¬ p) ∧ (∀ p : Prop, (True ∧ p) = p) ∧ (∀ p : Prop, (p ∧ True) = p) ∧ (∀ p : Prop, (False ∨ p) = p) ∧ (∀ p : Prop, (p ∨ False) = p) ∧
  (∀ b : Bool, (b && true) = b) ∧ (∀ a b : Bool, ((a && b) = true) = (a = true ∧ b = true)) ∧ (∀ a b : Bool, ((a && b) = false) = (a = false ∨ b = false)) ∧ (∀ a b : Bool, ((a || b) = true) = (a = true ∨ b = true)) ∧ (∀ a b : Bool, ((a || b) = false) = (a = false ∧ b = false)) ∧
  (∀ (p q : Prop) [Decidable p] [Decidable q], (decide p = decide q) = (p ↔ q)) ∧ (∀ (α : Type) [BEq α] [LawfulBEq α] (a b : α), ((a == b) = true) = (a = b)) ∧ (∀ (α : Type) [BEq α] [LawfulBEq α] (a b : α), ((a == b) = false) = ¬ (a = b)) ∧ (∀ (α : Type) (a b : α), (a ≠ b) = ¬ (a = b)) := by
 refine ⟨fun _ _ => ?_, fun _ _ => ?_, fun _ => ?_, fun _ => ?_, fun _ => ?_, fun _ => ?_, ?_, fun _ => ?_, fun _ => ?_, fun _ => ?_, fun _ => ?_, fun _ => ?_, fun _ => ?_, fun _ => ?_, fun _ => ?_, fun _ => ?_, fun _ => ?_, fun _ _ => ?_, fun _ _ => ?_, fun _ _ => ?_, fun _ _ => ?_, fun _ _ _ _ => ?_, fun _ _ _ _ _ => ?_, fun _ _ _ _ _ => ?_, fun _ _ _ => ?_⟩ <;> first | (simp; done) | (rename_i a b; cases a <;> cases b <;> simp)
theorem wt {A B C D : Prop} (b : B) (n : ¬ C := by decide) : (A → B) ∧ (C → D) := ⟨fun _ => b, fun h => absurd h n⟩
theorem wf {A B C D : Prop} (d : D) (n : ¬ A := by decide) : (A → B) ∧ (C → D) := ⟨fun h => absurd h n, fun _ => d⟩
theorem wX {P G : Prop} (h : P) (no : P → False := by intro h; first | omega | exact h rfl | (cases h <;> fail) | exact absurd h (by assumption) | exact h (by assumption) | (simp at h <;> fail)) : G := (no h).elim
structure Left (R : Prop) : Prop where
 out : R
theorem wR {G R : Prop} (f : Left R → G := by
  intro r
  repeat' (first | refine PureC.use (by assumption) ?_ | refine ⟨fun _ => ?_, fun h => absurd h (by decide)⟩ | refine ⟨fun h => absurd h (by decide), fun _ => ?_⟩ | (refine ⟨fun h => ?_, fun h => ?_⟩ <;> (try simp only [wS, List.length_cons, List.length_nil] at h) <;> (try exact wX h)) | refine ⟨⟨oB, oB⟩, _, by assumption, by rfl, ?_⟩ | refine .inl ⟨⟨oB, oB⟩, ?_⟩ | refine ⟨⟨oB, oB⟩, ?_⟩ | refine ⟨⟨oB, oB, oB⟩, ?_⟩ | refine ⟨.inl rfl, ?_⟩ | refine ⟨.inr (.inl oB), ?_⟩ | refine ⟨_, rfl, rfl, oL, ?_⟩ | refine ⟨_, rfl, oL, ?_⟩ | refine ⟨oR, ?_⟩ | refine ⟨show _ ≤ (9223372036854775807 : Nat) from oB, ?_⟩ | refine ⟨show _ ≠ (0 : Int) from oB, ?_⟩ | refine ⟨_, rfl, _, rfl, ?_⟩ | refine ⟨_, by assumption, Nat.le_of_ble_eq_true rfl, ?_⟩ | refine ⟨_, by assumption, _, rfl, ?_⟩ | refine ⟨_, rfl, ?_⟩ | fail)
  exact r.out) (k : R) : G := f ⟨k⟩
theorem wO {G R : Prop} (k : R) (f : Left R → G := by intro r; first | exact ⟨fun _ => r.out, fun h => absurd h (by decide)⟩ | exact ⟨fun h => absurd h (by decide), fun _ => r.out⟩) : G := f ⟨k⟩
theorem wP {G R : Prop} (k : R) (f : Left R → G := by
  intro r
  (first | refine ⟨⟨oB, oB⟩, _, by assumption, by rfl, ?_⟩ | refine .inl ⟨⟨oB, oB⟩, ?_⟩ | refine ⟨⟨oB, oB⟩, ?_⟩ | refine ⟨⟨oB, oB, oB⟩, ?_⟩ | refine ⟨.inl rfl, ?_⟩ | refine ⟨.inr (.inl oB), ?_⟩ | refine ⟨_, rfl, rfl, oL, ?_⟩ | refine ⟨_, rfl, oL, ?_⟩ | refine ⟨oR, ?_⟩ | refine ⟨show _ ≤ (9223372036854775807 : Nat) from oB, ?_⟩ | refine ⟨show _ ≠ (0 : Int) from oB, ?_⟩ | refine ⟨_, rfl, _, rfl, ?_⟩ | refine ⟨_, by assumption, Nat.le_of_ble_eq_true rfl, ?_⟩ | refine ⟨_, by assumption, _, rfl, ?_⟩ | refine ⟨_, rfl, ?_⟩)
  exact r.out) : G := f ⟨k⟩
theorem wD {G R : Prop} (k : R) (f : Left R → G := by
  intro r
  (first | refine ⟨fun _ => ?_, fun h => absurd (of_decide_eq_false h) (by omega)⟩ | refine ⟨fun h => absurd (of_decide_eq_true h) (by omega), fun _ => ?_⟩ | refine ⟨fun _ => ?_, fun h => absurd (of_decide_eq_true h) (by omega)⟩ | refine ⟨fun h => absurd (of_decide_eq_false h) (by omega), fun _ => ?_⟩ | refine .inl ⟨⟨by omega, by omega⟩, ?_⟩ | refine ⟨⟨by omega, by omega⟩, ?_⟩)
  exact r.out) : G := f ⟨k⟩
theorem zO {G R : Prop} (k : R) (f : Left R → G := by
  intro r
  (first | refine zskip (by decide +kernel) rfl rfl ?_ | refine zblind (by decide +kernel) rfl rfl (fun _ => FinMove.refl _ _ _) ?_ | refine zreadL [0] (by decide +kernel) rfl rfl ⟨⟨_, rfl, _, rfl, FinMove.refl _ _ _⟩, trivial⟩ ?_ | refine zblind (by decide +kernel) rfl rfl (fun _ => PureC.use (by assumption) (FinMove.refl _ _ _)) ?_ | refine zblind (by decide +kernel) rfl rfl (fun _ => ⟨⟨oB, oB, oB⟩, FinMove.refl _ _ _⟩) ?_ | refine zblind (by decide +kernel) rfl rfl (fun _ => .inl ⟨⟨oB, oB⟩, FinMove.refl _ _ _⟩) ?_ | refine zblind (by decide +kernel) rfl rfl (fun _ => ⟨_, rfl, FinMove.refl _ _ _⟩) ?_)
  exact r.out) : G := f ⟨k⟩
theorem qO {G R : Prop} (k : R) (f : Left R → G := by
  intro r
  (first | refine qskip rfl rfl ?_ | refine qstep (r := .d (.bool true)) rfl rfl (fin_eq (congrArg (fun b => AV.d (.bool b)) (decide_eq_true (by omega)))) ?_ | refine qstep (r := .d (.bool false)) rfl rfl (fin_eq (congrArg (fun b => AV.d (.bool b)) (decide_eq_false (by omega)))) ?_ | refine qstep rfl rfl ⟨fun _ => FinMove.refl _ _ _, fun h => absurd h (by decide)⟩ ?_ | refine qstep rfl rfl ⟨fun h => absurd h (by decide), fun _ => FinMove.refl _ _ _⟩ ?_ | refine qstep rfl rfl (FinMove.refl _ _ _) ?_)
  exact r.out) : G := f ⟨k⟩
theorem qP {G R : Prop} (k : R) (f : Left R → G := by
  intro r
  (first | refine qstep rfl rfl (PureC.use (by assumption) (FinMove.refl _ _ _)) ?_ | refine qstep rfl rfl ⟨⟨oB, oB⟩, _, by assumption, by rfl, FinMove.refl _ _ _⟩ ?_ | refine qstep rfl rfl (.inl ⟨⟨oB, oB⟩, FinMove.refl _ _ _⟩) ?_ | refine qstep rfl rfl ⟨⟨oB, oB⟩, FinMove.refl _ _ _⟩ ?_ | refine qstep rfl rfl ⟨⟨oB, oB, oB⟩, FinMove.refl _ _ _⟩ ?_ | refine qstep rfl rfl ⟨⟨oB, oB, oB⟩, .inl rfl, FinMove.refl _ _ _⟩ ?_ | refine qstep rfl rfl ⟨_, rfl, _, rfl, FinMove.refl _ _ _⟩ ?_ | refine qstep rfl rfl ⟨_, rfl, FinMove.refl _ _ _⟩ ?_ | refine qstep rfl rfl ⟨_, rfl, Nat.le_refl _, FinMove.refl _ _ _⟩ ?_ | refine qstep rfl rfl ⟨Nat.le_refl _, FinMove.refl _ _ _⟩ ?_ | refine qstep rfl rfl ⟨by decide, FinMove.refl _ _ _⟩ ?_ | refine qstep rfl rfl ⟨show _ ≤ (9223372036854775807 : Nat) from oB, FinMove.refl _ _ _⟩ ?_)
  exact r.out) : G := f ⟨k⟩
end Go.Aw
namespace Go.Aw
set_option linter.unusedVariables false
set_option linter.unusedSimpArgs false
section
variable {P : Program}
abbrev grownS (T U : TypeId) : Store := ⟨2, [(0, .two T (.ref 0 0 0) (.own 1 0 0)), (1, .rows (1, U) []), (0, .bld T U [])]⟩
theorem Grow_abs {f : FuncId} {T U : TypeId} (hc : Callable P f) (n : Nat)
  (hrow : ∀ (b : Nat) (p : Value) (w : World), (p = .pointer none ∨ p = .pointer (some ⟨b, 0, none⟩)) → w.heap[b]? = some (.cells #[p, .slice none 0 0] T (0, 0)) →
   Calls P f #[.pointer (some ⟨b, 0, none⟩), .int .i64 n] w fun e w' => e = .returned (.tuple #[]) ∧ ∃ cs : Array Value, (∀ x, w'.heap[x]? = if x = b then some (.cells #[.pointer (some ⟨b, 0, none⟩), .slice (some ⟨w.heap.size, 0, none⟩) 0 cs.size] T (0, 0)) else if x = w.heap.size then some (.cells cs U (0, 0)) else w.heap[x]?) ∧
    w'.heap.size = w.heap.size + 1 ∧ w'.os = w.os ∧ w'.tape = w.tape ∧ w'.output = w.output) :
  CallsAbs P f [.ref 0 0 0, .d (.int .i64 n)] ⟨1, [(0, .bld T U [])]⟩ fun r σ' => r = .tup [] ∧ σ' = grownS T U := by
 refine .inl ⟨hc, fun g w vs R hL => ?_⟩
 obtain ⟨v0, r0, rfl, h0, hr0⟩ := hL.uncons
 obtain ⟨v1, r1, rfl, h1, hr1⟩ := hr0.uncons
 rw [hr1.unnil]
 cases repA_int h1
 have hn : g.n = 1 := R.n.symm
 have hi : 0 < g.n := by omega
 have hv0 : v0 = .pointer (some ⟨g.blk 0, 0, none⟩) := by cases h0; simp
 subst hv0
 have hob : BldAt g w 0 T U [] := R.ob 0 hi
 obtain ⟨hk, hz, hcp, p, v, hw, hp, hv⟩ := hob
 have hv' : v = .slice none 0 0 := by
  rcases hv with ⟨_, h⟩ | ⟨b, cap, c, fr, _, _, _, _, _, _, _, h, _⟩
  ·exact h
  ·exact absurd rfl h
 subst hv'
 have hlt : g.blk 0 < w.heap.size := R.lt _ (by rw [hk]; intro q; cases q)
 refine (hrow (g.blk 0) p w hp hw).mono fun e w' ⟨he, cs, q1, q2, q3, q4, q5⟩ => ?_
 let w1 : World := { w with heap := w.heap.push (.cells cs U (0, 0)) }
 obtain ⟨x1, R1⟩ := newRow_ok R cs U (0, 0) [] 1 cs.size (w' := w1) rfl rfl rfl rfl (fun o _ h => by omega) (by simp) (Nat.zero_le _) (fun r row h => by simp at h)
 have hk1 : (g.grow w.heap.size 1 cs.size).blk 0 = g.blk 0 := by simp [Ghost.grow]; omega
 have hkind : (g.grow w.heap.size 1 cs.size).kind (g.blk 0) = .own 0 := by simp [Ghost.grow, Nat.ne_of_lt hlt, hk]
 have hheap : ∀ b, (g.grow w.heap.size 1 cs.size).kind b ≠ .own 0 → w'.heap[b]? = w1.heap[b]? := fun b hb => by
  have hne : b ≠ g.blk 0 := fun e => hb (e ▸ hkind)
  rw [q1 b, if_neg hne]
  show _ = (w.heap.push _)[b]?
  rw [Array.getElem?_push]
 obtain ⟨x2, R2⟩ := set_ok R1 0 (.two T (.ref 0 0 0) (.own 1 0 0)) (by simp [Ghost.grow]) (w' := w') (by intro q; cases q) hheap (by rw [q2]; show _ = (w.heap.push _).size; simp) q3 q4 q5 (by
  refine ⟨by rw [hk1]; exact hkind, by simp [Ghost.grow, hn, hz], by simp [Ghost.grow, hn, hcp], .pointer (some ⟨g.blk 0, 0, none⟩), .slice (some ⟨w.heap.size, 0, none⟩) 0 cs.size, by rw [hk1, q1, if_pos rfl], ?_, ?_, rfl, rfl⟩
  ·have := RepA.ref (g := g.grow w.heap.size 1 cs.size) (w := w') 0 0 0 (by simp [Ghost.grow])
   rw [hk1] at this
   simpa using this
  ·have := RepA.own (g := g.grow w.heap.size 1 cs.size) (w := w') 1 0 0 cs.size (by simp [Ghost.grow, hn]) (by simp [Ghost.grow, hn]) (Nat.zero_le _)
   simpa [Ghost.grow, hn] using this)
 exact ⟨_, _, _, .tup [], he, x1.trans R x2, R2, .tup [] #[] rfl (by simp), rfl, rfl⟩
theorem copyCheck_two {f : FuncId} {T : TypeId} (hc : Callable P f)
  (hused : ∀ (b : Nat) (w : World), w.cell? ⟨b, 0, none⟩ = some (.pointer (some ⟨b, 0, none⟩)) → Calls P f #[.pointer (some ⟨b, 0, none⟩)] w fun e w' => e = .returned (.tuple #[]) ∧ w' = w) {σ : Store} {y : AV} (ho : σ.get 0 = .two T (.ref 0 0 0) y) :
  CallsAbs P f [.ref 0 0 0] σ fun r σ' => r = .tup [] ∧ σ' = σ := by
 refine .inl ⟨hc, fun g w vs R hL => ?_⟩
 rw [rep_ref0 hL]
 have hi : 0 < g.n := by
  rcases Nat.lt_or_ge 0 g.n with h | h
  ·exact h
  ·have := R.dead 0 h; rw [ho] at this; cases this
 have hob := R.ob 0 hi
 rw [ho] at hob
 obtain ⟨hk, hz, hcp, x, z, hw, hx, _⟩ := hob
 have hx' : x = .pointer (some ⟨g.blk 0, 0, none⟩) := by cases hx; simp
 subst hx'
 refine (hused (g.blk 0) w (by rw [Lib.cell_of_heap hw]; rfl)).mono fun e w' ⟨he, hw'⟩ => ?_
 subst hw'
 exact ⟨_, g, _, .tup [], he, Ext.refl _ _ _, R, .tup [] #[] rfl (by simp), rfl, rfl⟩
theorem String_two {f : FuncId} {T U : TypeId} (hc : Callable P f)
  (hrow : ∀ (b g cap : Nat) (p : Value) (l : List UInt8) (cur : Array Value) (fr : Nat × Nat) (w : World), l ≠ [] → l.length ≤ cap → l.length ≤ 9223372036854775807 →
   w.heap[b]? = some (.cells #[p, .slice (some ⟨g, 0, none⟩) l.length cap] T (0, 0)) → w.heap[g]? = some (.cells cur U fr) → l.length ≤ cur.size → (∀ (j : Nat) x, l[j]? = some x → cur[j]? = some (.int .u8 x.toNat)) →
   Calls P f #[.pointer (some ⟨b, 0, none⟩)] w fun e w' => e = .returned (.string ⟨l.toArray⟩) ∧ w' = w.drew.freeze ⟨g, 0, none⟩ l.length) (s : List UInt8) (hs0 : s ≠ []) (hs : s.length ≤ 9223372036854775807) :
  CallsAbs P f [.ref 0 0 0] ⟨2, [(0, .two T (.ref 0 0 0) (.own 1 0 s.length)), (1, .rows (1, U) (bytesA s))]⟩ fun r σ' => r = .d (.str s) ∧ σ' = ⟨2, []⟩ := by
 refine .inl ⟨hc, fun g w vs R hL => ?_⟩
 rw [rep_ref0 hL]
 have hn : g.n = 2 := R.n.symm
 obtain ⟨hk, hz, hcp, x, z, hw, hx, hzv, _⟩ := R.ob 0 (by omega)
 obtain ⟨s0, hs1⟩ : ∃ x, s[0]? = some x := by
  cases s with
  | nil => exact absurd rfl hs0
  | cons a r => exact ⟨a, rfl⟩
 have hob1 : ObRel g w 1 (.rows (1, U) (bytesA s)) := R.ob 1 (by omega)
 obtain ⟨jk, jz, cs, fr, jw, jf, js, jl, jr⟩ := hob1.at (bytesA_get s 0 s0 hs1)
 have hzz : ∃ cap, z = .slice (some ⟨g.blk 1, 0, none⟩) s.length cap ∧ s.length ≤ cap := by
  generalize hln : s.length = ln at hzv
  cases hzv with
  | own0 => exact absurd (List.length_eq_zero_iff.1 hln) hs0
  | own _ _ _ cap _ hcap hl => exact ⟨cap, by simp, hl⟩
 obtain ⟨cap, rfl, hcap⟩ := hzz
 have hcell : ∀ (j : Nat) x, s[j]? = some x → cs[j]? = some (.int .u8 x.toNat) := fun j x hx => by
  obtain ⟨_, q2⟩ := jr j _ (bytesA_get s j x hx)
  obtain ⟨u, hu, hru, _⟩ := q2 0 _ rfl
  have := repA_int hru
  subst this
  rw [jz] at hu
  simpa using hu
 have jz' : g.sz 1 = 1 := jz
 have hcs : s.length ≤ cs.size := by
  have h1 : s.length ≤ g.cap 1 := by have := jl; rwa [bytesA_len] at this
  rw [js, jz', Nat.mul_one]; exact h1
 refine (hrow (g.blk 0) (g.blk 1) cap x s cs fr w hs0 hcap hs hw jw hcs hcell).mono fun e w' ⟨he, hw'⟩ => ?_
 have hsize : (w.drew.freeze ⟨g.blk 1, 0, none⟩ s.length).heap.size = w.heap.size := by
  unfold World.freeze
  split
  ·rfl
  ·simp
 have hoth : ∀ x, x ≠ g.blk 1 → (w.drew.freeze ⟨g.blk 1, 0, none⟩ s.length).heap[x]? = w.heap[x]? := by
  intro x hx
  unfold World.freeze
  split
  ·rfl
  ·simp only [Array.getElem?_modify, if_neg (Ne.symm hx)]; rfl
 subst hw'
 refine ⟨_, g, ⟨2, []⟩, .d (.str s), he, ⟨Nat.le_refl _, fun _ _ => ⟨rfl, rfl, rfl⟩, fun _ _ _ => rfl, by omega, fun b hb ho => ⟨rfl, hoth b (fun e => ?_)⟩, ?_, ?_, ?_⟩, all_dead hn.symm (fun x hx => by rw [hsize]; exact R.lt x hx) R.owner (glob_same (w := w) (fun x hx => hoth x (fun e => by subst e; rw [show g.kind (g.blk 1) = .imm from hx] at jk; cases jk)) R.glob), .d (.str s), rfl, rfl⟩
 ·subst e
  have := ho 1 jk
  cases this
 all_goals (unfold World.freeze; split <;> rfl)
end
end Go.Aw

namespace Go.Aw
set_option linter.unusedVariables false
set_option linter.unusedSimpArgs false
section
variable {P : Program} {N B : Nat}
def krel (v : Value) (a : AV) : AV → AV → Prop
 | x, y => x = y ∨ (y = .lit v ∧ x = a)
def krow (v : Value) (a : AV) : List AV → List AV → Prop
 | [], b => (match b with | [] => True | _ => False)
 | x :: r, b => (match b with | y :: q => krel v a x y ∧ krow v a r q | _ => False)
theorem krow_get {v : Value} {a : AV} : ∀ {as bs : List AV}, krow v a as bs → as.length = bs.length ∧ ∀ (i : Nat) x, as[i]? = some x → ∃ y, bs[i]? = some y ∧ krel v a x y
 | [], [], _ => ⟨rfl, by simp⟩
 | x :: as, y :: bs, h => by
  obtain ⟨h1, h2⟩ := krow_get h.2
  refine ⟨by simp [h1], fun i z hz => ?_⟩
  cases i with
  | zero => simp at hz; subst hz; exact ⟨y, by simp, h.1⟩
  | succ i => simpa using h2 i z (by simpa using hz)
 | [], y :: bs, h => h.elim
 | x :: as, [], h => h.elim
theorem krow_self {v : Value} {a : AV} : ∀ (l : List AV), krow v a l l
 | [] => trivial
 | x :: r => ⟨.inl rfl, krow_self r⟩
def krows (v : Value) (a : AV) : List (List AV) → List (List AV) → Prop
 | [], b => (match b with | [] => True | _ => False)
 | x :: r, b => (match b with | y :: q => krow v a x y ∧ krows v a r q | _ => False)
theorem krows_get {v : Value} {a : AV} : ∀ {as bs : List (List AV)}, krows v a as bs → as.length = bs.length ∧ ∀ (i : Nat) x, as[i]? = some x → ∃ y, bs[i]? = some y ∧ krow v a x y
 | [], [], _ => ⟨rfl, by simp⟩
 | x :: as, y :: bs, h => by
  obtain ⟨h1, h2⟩ := krows_get h.2
  refine ⟨by simp [h1], fun i z hz => ?_⟩
  cases i with
  | zero => simp at hz; subst hz; exact ⟨y, by simp, h.1⟩
  | succ i => simpa using h2 i z (by simpa using hz)
 | [], y :: bs, h => h.elim
 | x :: as, [], h => h.elim
theorem krows_app {v : Value} {a : AV} : ∀ (l : List (List AV)) {x y : List (List AV)}, krows v a x y → krows v a (l ++ x) (l ++ y)
 | [], _, _, h => h
 | r :: l, x, y, h => ⟨krow_self r, krows_app l h⟩
def kslots (v : Value) (a : AV) : St → St → Prop
 | [], _ => True
 | (t, x) :: r, s => krel v a x (look .top s t) ∧ kslots v a r s
theorem kslots_get {v : Value} {a : AV} : ∀ {s' s : St}, kslots v a s' s → ∀ t, look .top s' t = .top ∨ krel v a (look .top s' t) (look .top s t)
 | [], s, _, t => .inl rfl
 | (u, x) :: r, s, h, t => by
  rw [look_cons]
  split
  ·rename_i e; subst e; exact .inr h.1
  ·exact kslots_get h.2 t
theorem krel_rep {g g' : Ghost} {w : World} {v : Value} {a : AV} (k : Keeps g w g' w) (ha : RepA g' w a v) {x y : AV} {u : Value} (h : krel v a x y) (hr : RepA g w y u) : RepA g' w x u := by
 rcases h with rfl | ⟨rfl, rfl⟩
 ·exact hr.mono k
 ·cases hr; exact ha
theorem krows_at {g g' : Ghost} {w : World} {v : Value} {a : AV} {j : Nat} {sz : Nat × Nat} {rs rs' : List (List AV)} (k : Keeps g w g' w) (hj : j < g.n) (hown : ∀ b, g.kind b = .own j → g'.kind b = .own j) (ha : RepA g' w a v) (h : krows v a rs' rs) (ho : ObRel g w j (.rows sz rs)) : ObRel g' w j (.rows sz rs') := by
 obtain ⟨e1, e2, e3⟩ := k.place j hj
 obtain ⟨hl, hg⟩ := krows_get h
 rcases ho with ⟨rfl, h1, h2⟩ | ⟨h1, h2, c, fr, h3, h4, h5, h6, h7⟩
 ·have : rs' = [] := List.length_eq_zero_iff.1 (by simpa using hl)
  exact .inl ⟨this, by rw [e2]; exact h1, by rw [e3]; exact h2⟩
 ·refine .inr ⟨by rw [e1]; exact hown _ h1, by rw [e2]; exact h2, c, fr, by rw [e1]; exact h3, h4, by rw [e2, e3]; exact h5, by rw [e3, hl]; exact h6, fun r row hr => ?_⟩
  obtain ⟨row0, hr0, hrr⟩ := hg r row hr
  obtain ⟨p1, p2⟩ := h7 r row0 hr0
  obtain ⟨q1, q2⟩ := krow_get hrr
  refine ⟨by rw [e2, q1]; exact p1, fun i x hx => ?_⟩
  obtain ⟨y, hy, hxy⟩ := q2 i x hx
  obtain ⟨u, u1, u2, u3⟩ := p2 i y hy
  exact ⟨u, by rw [e2]; exact u1, krel_rep k ha hxy u2, u3⟩
theorem E.kinOut {c : Code} {K : Exit → St → Store → Prop} {s s' : St} {σ : Store} {i j : Nat} {sz sz2 : Nat × Nat} {v : Value} {rows : List (List D)} {l : List (Value × List (List D))} {rs rs' : List (List AV)}
  (ho : σ.get i = .kin sz ((v, rows) :: l)) (hj : σ.get j = .rows sz2 rs) (hrs : krows v (.own σ.n 0 rows.length) rs' rs) (hs : kslots v (.own σ.n 0 rows.length) s' s) (hiB : B ≤ i ∨ True)
  (h : E P N B c K s' ⟨σ.n + 1, (j, .rows sz2 rs') :: (σ.n, .rows sz (rows.map fun r => r.map .d)) :: (i, .kin sz l) :: σ.objs⟩) : E P N B c K s σ := fun g a w hB hT R => by
 have lt : ∀ k, σ.get k ≠ .dead → k < g.n := fun k hk => by
  rcases Nat.lt_or_ge k g.n with h | h
  ·exact h
  ·exact absurd (R.dead k h) hk
 have hi : i < g.n := lt i (by rw [ho]; intro q; cases q)
 have hjn : j < g.n := lt j (by rw [hj]; intro q; cases q)
 have hij : i ≠ j := fun e => by subst e; rw [ho] at hj; cases hj
 have hn := R.n
 have hob := R.ob i hi
 rw [ho] at hob
 have hobj := R.ob j hjn
 rw [hj] at hobj
 obtain ⟨bs, hkin⟩ := hob
 have hget : ∀ (o1 o2 o3 : Ob) (k : Nat), (Store.mk (σ.n + 1) ((j, o1) :: (σ.n, o2) :: (i, o3) :: σ.objs)).get k = if j = k then o1 else if σ.n = k then o2 else if i = k then o3 else σ.get k := fun o1 o2 o3 k => by simp only [Store.get, look_cons]
 have main : ∀ g' : Ghost, g'.n = g.n + 1 → Keeps g w g' w → (∀ b, g'.kind b ≠ .free → b < w.heap.size) → (∀ b k, g'.kind b = .own k → k < g.n + 1) → (∀ b k, k ≠ i → g.kind b = .own k → g'.kind b = .own k) → (∀ b, g.kind b ≠ .own i → g'.kind b = g.kind b) →
   RepA g' w (.own σ.n 0 rows.length) v → ObRel g' w g.n (.rows sz (rows.map fun r => r.map .d)) → ObRel g' w i (.kin sz l) → c.wp P (Post (P := P) N B g σ w K) a w := by
  intro g' hgn hK hlt hown hk1 hk2 hrep hnew hkin'
  have hR : StoreRel P g' ⟨σ.n + 1, (j, .rows sz2 rs') :: (σ.n, .rows sz (rows.map fun r => r.map .d)) :: (i, .kin sz l) :: σ.objs⟩ w := by
   refine ⟨by rw [hgn]; show σ.n + 1 = g.n + 1; rw [hn], hlt, fun b k hb => by rw [hgn]; exact hown b k hb, fun k hk => ?_, fun k hk => ?_, glob_keep hK R.glob⟩
   ·rw [hgn] at hk
    rw [hget, if_neg (by omega), if_neg (by omega), if_neg (by omega)]; exact R.dead k (by omega)
   ·rw [hget]
    split
    ·rename_i e; subst e
     exact krows_at hK hjn (fun b hb => hk1 b _ (fun e => hij e.symm) hb) hrep hrs hobj
    ·split
     ·rename_i e; subst e; rw [hn]; exact hnew
     ·split
      ·rename_i e; subst e; exact hkin'
      ·rename_i h1 h2 h3
       have hkn : k < g.n := by rw [hgn] at hk; omega
       exact (R.ob k hkn).mono hK hkn fun b hb => ⟨hk1 b k (fun e => h3 e.symm) hb, rfl⟩
  have hT' : RelT N g' w s' a := by
   refine ⟨hT.size, hT.defers, fun t => ?_⟩
   rcases kslots_get hs t with h | h
   ·rw [h]; exact .top _
   ·exact krel_rep hK hrep h (hT.rep t)
  have hX : ExtB B g σ w g' ⟨σ.n + 1, (j, .rows sz2 rs') :: (σ.n, .rows sz (rows.map fun r => r.map .d)) :: (i, .kin sz l) :: σ.objs⟩ w := by
   refine ⟨by rw [hgn]; omega, fun k hk => hK.place k (by omega), fun k hk hd => ?_, Nat.le_refl _, fun x hx hox => ⟨?_, rfl⟩, rfl, rfl, rfl⟩
   ·rw [hget, if_neg (fun e => by subst e; rw [hj] at hd; cases hd), if_neg (by omega), if_neg (fun e => by subst e; rw [ho] at hd; cases hd)]; exact hd
   ·exact hk2 x (fun e => by have := (hox i e).2; rw [ho] at this; cases this)
  exact wp_mono (h g' a w hX.n hT' hR) fun e a' w' ⟨s2, σ2, g2, q1, q2, q3, q4⟩ => ⟨s2, σ2, g2, q1, q2, hX.trans q3, q4⟩
 cases hkin with
 | none hv hl =>
  have go : ∀ b, RepA (g.nowhere b sz.1) w (.own σ.n 0 0) v → c.wp P (Post (P := P) N B g σ w K) a w := by
   intro b hrep
   have hK : Keeps g w (g.nowhere b sz.1) w := ⟨by simp [Ghost.nowhere], fun k hk => by simp [Ghost.nowhere, Nat.ne_of_lt hk], fun x hx => ⟨hx, rfl⟩⟩
   exact main (g.nowhere b sz.1) rfl hK R.lt (fun b k hb => by have := R.owner b k hb; omega) (fun _ _ _ h => h) (fun _ _ => rfl) hrep (.inl ⟨rfl, by simp [Ghost.nowhere], by simp [Ghost.nowhere]⟩) ⟨_, hl.mono hK.imm fun b _ h => ⟨h, rfl⟩⟩
  rcases hv with rfl | ⟨b, rfl⟩
  ·exact go 0 (.own0 _ _ (by simp [Ghost.nowhere]; omega))
  ·refine go b ?_
   have : RepA (g.nowhere b sz.1) w (.own g.n 0 0) (.slice (some ⟨(g.nowhere b sz.1).blk g.n, 0 * (g.nowhere b sz.1).sz g.n, none⟩) 0 0) := .own g.n 0 0 0 (by simp [Ghost.nowhere]) (by simp [Ghost.nowhere]) (Nat.le_refl _)
   rw [hn]; simpa [Ghost.nowhere] using this
 | some hnb hk hl =>
  rename_i b bs
  obtain ⟨cap, cs, fr, rfl, hkb, hwb, hfz, hcs, hcap, hcell⟩ := hk
  let g' : Ghost := ⟨g.n + 1, fun k => if k = g.n then b else g.blk k, fun k => if k = g.n then sz.1 else g.sz k, fun k => if k = g.n then cap else g.cap k, fun x => if x = b then .own g.n else g.kind x⟩
  have hK : Keeps g w g' w := ⟨by simp [g'], fun k hk => by simp [g', Nat.ne_of_lt hk], fun x hx => ⟨by
   have : x ≠ b := fun e => by subst e; rw [show g.kind x = .imm from hx] at hkb; cases hkb
   show g'.kind x = .imm
   simp [g', this]; exact hx, rfl⟩⟩
  refine main g' rfl hK (fun x hx => ?_) (fun x k hx => ?_) (fun x k hki hx => ?_) (fun x hx => ?_) ?_ ?_ ⟨bs, hl.mono hK.imm fun x hm hx => ⟨?_, rfl⟩⟩
  ·by_cases hxb : x = b
   ·subst hxb; exact R.lt x (by rw [hkb]; intro q; cases q)
   ·simp [g', hxb] at hx; exact R.lt x hx
  ·by_cases hxb : x = b
   ·subst hxb; simp [g'] at hx; omega
   ·simp [g', hxb] at hx; have := R.owner x k hx; omega
  ·have : x ≠ b := fun e => by subst e; rw [hkb] at hx; cases hx; exact hki rfl
   simp [g', this, hx]
  ·have : x ≠ b := fun e => hx (by rw [e]; exact hkb)
   simp [g', this]
  ·have : RepA g' w (.own g.n 0 rows.length) (.slice (some ⟨g'.blk g.n, 0 * g'.sz g.n, none⟩) rows.length cap) := .own g.n 0 _ cap (by simp [g']) (by simp [g']) hcap
   rw [hn]; simpa [g'] using this
  ·have hsz : g'.sz g.n = sz.1 := by simp [g']
   refine .inr ⟨by simp [g'], hsz, cs, fr, by simpa [g'] using hwb, hfz, by rw [hsz]; simp [g', hcs], by simp [g']; exact hcap, fun r row hrow => ?_⟩
   rw [hsz]
   rw [List.getElem?_map] at hrow
   obtain ⟨d, hd, rfl⟩ := Option.map_eq_some_iff.1 hrow
   obtain ⟨p1, p2⟩ := hcell r d hd
   refine ⟨by simpa using p1, fun q x hx => ?_⟩
   rw [List.getElem?_map] at hx
   obtain ⟨y, hy, rfl⟩ := Option.map_eq_some_iff.1 hx
   obtain ⟨u, u1, u2, u3⟩ := p2 q y hy
   exact ⟨u, u1, .d (u2.mono hK.imm), u3⟩
  ·have : x ≠ b := fun e => hnb (e ▸ hm)
   simp [g', this, hx]
def sslots : St → St → Prop
 | [], _ => True
 | (t, x) :: r, s => x = look .top s t ∧ sslots r s
theorem sslots_get : ∀ {s' s : St}, sslots s' s → ∀ t, look .top s' t = .top ∨ look .top s' t = look .top s t
 | [], s, _, t => .inl rfl
 | (u, x) :: r, s, h, t => by
  rw [look_cons]
  split
  ·rename_i e; subst e; exact .inr h.1
  ·exact sslots_get h.2 t
theorem rows_lit {g g' : Ghost} {w : World} {j r q : Nat} {sz : Nat × Nat} {rs : List (List AV)} {row : List AV} {u : Value} (k : Keeps g w g' w) (hj : j < g.n) (hown : g.kind (g.blk j) = .own j → g'.kind (g.blk j) = .own j) (h : RowsAt g w j sz rs) (hrow : rs[r]? = some row)
  (hu : ∀ c fr, w.heap[g.blk j]? = some (.cells c sz.2 fr) → c[r * g.sz j + q]? = some u) : RowsAt g' w j sz (rs.set r (row.set q (.lit u))) := by
 obtain ⟨e1, e2, e3⟩ := k.place j hj
 obtain ⟨h1, h2, c, fr, h3, h4, h5, h6, h7⟩ := h
 refine ⟨by rw [e1]; exact hown h1, by rw [e2]; exact h2, c, fr, by rw [e1]; exact h3, h4, by rw [e2, e3]; exact h5, by rw [e3, List.length_set]; exact h6, fun r2 row2 hr => ?_⟩
 rw [e2]
 rw [List.getElem?_set] at hr
 split at hr
 ·rename_i e; subst e
  split at hr
  ·cases hr
   obtain ⟨p1, p2⟩ := h7 r row hrow
   refine ⟨by rw [List.length_set]; exact p1, fun m a ha => ?_⟩
   rw [List.getElem?_set] at ha
   split at ha
   ·rename_i e; subst e
    split at ha
    ·rename_i hlt
     cases ha
     obtain ⟨v, v1, _, v3⟩ := p2 q row[q] (List.getElem?_eq_getElem hlt)
     have := hu c fr h3
     rw [this] at v1
     cases v1
     exact ⟨u, this, .lit u, v3⟩
    ·cases ha
   ·obtain ⟨v, v1, v2, v3⟩ := p2 m a ha
    exact ⟨v, v1, v2.mono k, v3⟩
  ·cases hr
 ·obtain ⟨p1, p2⟩ := h7 r2 row2 hr
  refine ⟨p1, fun m a ha => ?_⟩
  obtain ⟨v, v1, v2, v3⟩ := p2 m a ha
  exact ⟨v, v1, v2.mono k, v3⟩
theorem E.kinIn {c : Code} {K : Exit → St → Store → Prop} {s s' : St} {σ : Store} {i j k r q : Nat} {sz sz2 : Nat × Nat} {rows : List (List D)} {l : List (Value × List (List D))} {rs : List (List AV)} {row : List AV}
  (ho : σ.get i = .kin sz l) (hk : σ.get k = .rows sz (rows.map fun r => r.map .d)) (hj : σ.get j = .rows sz2 rs) (hrow : rs[r]? = some row) (hcell : row[q]? = some (.own k 0 rows.length)) (hjk : j ≠ k) (hs : sslots s' s)
  (h : ∀ v : Value, v.oneCell' = true → E P N B c K s' ⟨σ.n, (j, .rows sz2 (rs.set r (row.set q (.lit v)))) :: (k, .dead) :: (i, .kin sz ((v, rows) :: l)) :: σ.objs⟩) : E P N B c K s σ := fun g a w hB hT R => by
 have lt : ∀ k, σ.get k ≠ .dead → k < g.n := fun k hk => by
  rcases Nat.lt_or_ge k g.n with h | h
  ·exact h
  ·exact absurd (R.dead k h) hk
 have hi : i < g.n := lt i (by rw [ho]; intro q; cases q)
 have hjn : j < g.n := lt j (by rw [hj]; intro q; cases q)
 have hkn : k < g.n := lt k (by rw [hk]; intro q; cases q)
 have hij : i ≠ j := fun e => by subst e; rw [ho] at hj; cases hj
 have hik : i ≠ k := fun e => by subst e; rw [ho] at hk; cases hk
 have hn := R.n
 have hob := R.ob i hi
 rw [ho] at hob
 have hobk := R.ob k hkn
 rw [hk] at hobk
 have hobj := R.ob j hjn
 rw [hj] at hobj
 have hat := hobj.at hrow
 obtain ⟨bs, hkin⟩ := hob
 obtain ⟨j1, j2, cj, fj, j3, j4, j5, j6, j7⟩ := hat
 obtain ⟨jl, jc⟩ := j7 r row hrow
 obtain ⟨u, u1, u2, u3⟩ := jc q _ hcell
 have hu : ∀ c fr, w.heap[g.blk j]? = some (.cells c sz2.2 fr) → c[r * g.sz j + q]? = some u := fun c fr hc => by
  rw [j3] at hc; cases hc; exact u1
 have hget : ∀ (o1 o2 o3 : Ob) (m : Nat), (Store.mk σ.n ((j, o1) :: (k, o2) :: (i, o3) :: σ.objs)).get m = if j = m then o1 else if k = m then o2 else if i = m then o3 else σ.get m := fun o1 o2 o3 m => by simp only [Store.get, look_cons]
 have main : ∀ g' : Ghost, g'.n = g.n → Keeps g w g' w → (∀ b, g'.kind b ≠ .free → b < w.heap.size) → (∀ b m, g'.kind b = .own m → m < g.n) → (∀ b m, m ≠ k → g.kind b = .own m → g'.kind b = .own m) → (∀ b, g.kind b ≠ .own k → g'.kind b = g.kind b) →
   ObRel g' w i (.kin sz ((u, rows) :: l)) → c.wp P (Post (P := P) N B g σ w K) a w := by
  intro g' hgn hK hlt hown hk1 hk2 hkin'
  have hR : StoreRel P g' ⟨σ.n, (j, .rows sz2 (rs.set r (row.set q (.lit u)))) :: (k, .dead) :: (i, .kin sz ((u, rows) :: l)) :: σ.objs⟩ w := by
   refine ⟨by rw [hgn]; exact hn, hlt, fun b m hb => by rw [hgn]; exact hown b m hb, fun m hm => ?_, fun m hm => ?_, glob_keep hK R.glob⟩
   ·rw [hgn] at hm
    rw [hget, if_neg (by omega), if_neg (by omega), if_neg (by omega)]; exact R.dead m hm
   ·rw [hget]
    split
    ·rename_i e; subst e
     exact .inr (rows_lit hK hjn (fun hb => hk1 _ _ hjk hb) ⟨j1, j2, cj, fj, j3, j4, j5, j6, j7⟩ hrow hu)
    ·split
     ·trivial
     ·split
      ·rename_i e; subst e; exact hkin'
      ·rename_i h1 h2 h3
       have hmn : m < g.n := by rw [hgn] at hm; omega
       exact (R.ob m hmn).mono hK hmn fun b hb => ⟨hk1 b m (fun e => h2 e.symm) hb, rfl⟩
  have hT' : RelT N g' w s' a := by
   refine ⟨hT.size, hT.defers, fun t => ?_⟩
   rcases sslots_get hs t with h | h
   ·rw [h]; exact .top _
   ·rw [h]; exact (hT.rep t).mono hK
  have hX : ExtB B g σ w g' ⟨σ.n, (j, .rows sz2 (rs.set r (row.set q (.lit u)))) :: (k, .dead) :: (i, .kin sz ((u, rows) :: l)) :: σ.objs⟩ w := by
   refine ⟨by rw [hgn]; exact hB, fun m hm => hK.place m (by omega), fun m hm hd => ?_, Nat.le_refl _, fun x hx hox => ⟨?_, rfl⟩, rfl, rfl, rfl⟩
   ·rw [hget, if_neg (fun e => by subst e; rw [hj] at hd; cases hd), if_neg (fun e => by subst e; rw [hk] at hd; cases hd), if_neg (fun e => by subst e; rw [ho] at hd; cases hd)]; exact hd
   ·exact hk2 x (fun e => by have := (hox k e).2; rw [hk] at this; cases this)
  exact wp_mono (h u u3 g' a w hX.n hT' hR) fun e a' w' ⟨s2, σ2, g2, q1, q2, q3, q4⟩ => ⟨s2, σ2, g2, q1, q2, hX.trans q3, q4⟩
 have stay : rows = [] → (u = .slice none 0 0 ∨ ∃ b, u = .slice (some ⟨b, 0, none⟩) 0 0) → c.wp P (Post (P := P) N B g σ w K) a w := fun hr hv => by
  subst hr
  exact main g rfl ⟨Nat.le_refl _, fun _ _ => ⟨rfl, rfl, rfl⟩, fun _ h => ⟨h, rfl⟩⟩ R.lt R.owner (fun _ _ _ h => h) (fun _ _ => rfl) ⟨bs, .none hv hkin⟩
 rcases hobk with ⟨k1, k2, k3⟩ | ⟨k1, k2, ck, fk, k3, k4, k5, k6, k7⟩
 ·have hr : rows = [] := List.map_eq_nil_iff.1 k1
  subst hr
  cases u2 with
  | own _ _ _ cap h1 h2 h3 =>
   have : cap = 0 := by omega
   subst this
   exact stay rfl (.inr ⟨g.blk k, by simp⟩)
  | own0 => exact stay rfl (.inl rfl)
 ·generalize hlen : rows.length = n at *
  cases u2 with
  | own0 => exact stay (List.length_eq_zero_iff.1 hlen) (.inl rfl)
  | own _ _ _ cap h1 h2 h3 =>
   let g' : Ghost := ⟨g.n, g.blk, g.sz, g.cap, fun x => if x = g.blk k then .own i else g.kind x⟩
   have hK : Keeps g w g' w := ⟨Nat.le_refl _, fun _ _ => ⟨rfl, rfl, rfl⟩, fun x hx => ⟨by
    have : x ≠ g.blk k := fun e => by subst e; rw [show g.kind (g.blk k) = .imm from hx] at k1; cases k1
    show g'.kind x = .imm
    simp [g', this]; exact hx, rfl⟩⟩
   refine main g' rfl hK (fun x hx => ?_) (fun x m hx => ?_) (fun x m hmk hx => ?_) (fun x hx => ?_) ⟨g.blk k :: bs, .some (fun hm => ?_) ?_ (hkin.mono hK.imm fun x hm hx => ⟨?_, rfl⟩)⟩
   ·by_cases hxb : x = g.blk k
    ·subst hxb; exact R.lt _ (by rw [k1]; intro q; cases q)
    ·simp [g', hxb] at hx; exact R.lt x hx
   ·by_cases hxb : x = g.blk k
    ·subst hxb; simp [g'] at hx; omega
    ·simp [g', hxb] at hx; exact R.owner x m hx
   ·have : x ≠ g.blk k := fun e => by subst e; rw [k1] at hx; cases hx; exact hmk rfl
    simp [g', this, hx]
   ·have : x ≠ g.blk k := fun e => hx (by rw [e]; exact k1)
    simp [g', this]
   ·have := hkin.own _ hm
    rw [k1] at this; cases this; exact hik rfl
   ·have hcap : cap = g.cap k := by omega
    subst hlen
    refine ⟨cap, ck, fk, by simp, by simp [g'], k3, k4, by rw [k5, k2, hcap], by omega, fun m row2 hm => ?_⟩
    obtain ⟨p1, p2⟩ := k7 m (row2.map .d) (by rw [List.getElem?_map, hm]; rfl)
    rw [k2] at p1 p2
    refine ⟨by simpa using p1, fun o x hx => ?_⟩
    obtain ⟨v, v1, v2, v3⟩ := p2 o (.d x) (by rw [List.getElem?_map, hx]; rfl)
    cases v2 with
    | d hd => exact ⟨v, v1, hd.mono hK.imm, v3⟩
   ·have : x ≠ g.blk k := fun e => by
     have h1 := hkin.own _ hm
     rw [e, k1] at h1; cases h1; exact hik rfl
    simp [g', this, hx]
theorem E.same {c : Code} {K : Exit → St → Store → Prop} {s s' : St} {σ σ' : Store} (hn : σ'.n = σ.n) (hg : ∀ i, σ'.get i = σ.get i) (hs : sslots s' s) (h : E P N B c K s' σ') : E P N B c K s σ := fun g a w hB hT R => by
 have hR : StoreRel P g σ' w := ⟨by rw [hn]; exact R.n, R.lt, R.owner, fun i hi => by rw [hg]; exact R.dead i hi, fun i hi => by rw [hg]; exact R.ob i hi, R.glob⟩
 have hT' : RelT N g w s' a := by
  refine ⟨hT.size, hT.defers, fun t => ?_⟩
  rcases sslots_get hs t with h | h
  ·rw [h]; exact .top _
  ·rw [h]; exact hT.rep t
 have hX : ExtB B g σ w g σ' w := ⟨hB, fun _ _ => ⟨rfl, rfl, rfl⟩, fun m hm hd => by rw [hg]; exact hd, Nat.le_refl _, fun _ _ _ => ⟨rfl, rfl⟩, rfl, rfl, rfl⟩
 exact wp_mono (h g a w hB hT' hR) fun e a' w' ⟨s2, σ2, g2, q1, q2, q3, q4⟩ => ⟨s2, σ2, g2, q1, q2, hX.trans q3, q4⟩
theorem fin_same {σ0 σ σ' : Store} {r : AV} (hn : σ'.n = σ.n) (hg : ∀ i, σ'.get i = σ.get i) : FinMove σ0 r σ r σ' := fun P g0 g w0 w v R0 hE R hr =>
 ⟨g, ⟨hE.n, hE.place, fun i hi hd => by rw [hg]; exact hE.dead i hi hd, hE.size, hE.keep, hE.os, hE.tape, hE.output⟩,
  ⟨by rw [hn]; exact R.n, R.lt, R.owner, fun i hi => by rw [hg]; exact R.dead i hi, fun i hi => by rw [hg]; exact R.ob i hi, R.glob⟩, hr⟩
end
end Go.Aw

namespace Go.Aw
set_option linter.unusedVariables false
set_option linter.unusedSimpArgs false
section
variable {P : Program} {N B : Nat}
theorem repL_slots {N : Nat} {g : Ghost} {w : World} {s : St} {a : Act} (h : RelT N g w s a) : ∀ s' : St, RepL g w (s'.map fun p => look .top s p.1) (s'.map fun p => a.tmps.getD p.1 undef)
 | [] => RepL.nil
 | p :: r => RepL.cons (h.rep p.1) (repL_slots h r)
theorem slots_get {g : Ghost} {w : World} {f : Nat → Value} : ∀ {s' : St}, RepL g w (s'.map (·.2)) (s'.map fun p => f p.1) → ∀ t, RepA g w (look .top s' t) (f t)
 | [], _, t => .top _
 | (k, v) :: r, h, t => by
  obtain ⟨u, q, e, h1, h2⟩ := h.uncons
  cases e
  rw [look_cons]
  split
  ·rename_i e; subst e; exact h1
  ·exact slots_get h2 t
theorem E.fm {c : Code} {K : Exit → St → Store → Prop} {s s' : St} {σ σ' : Store} (hm : FinMove σ (.tup (s'.map fun p => look .top s p.1)) σ (.tup (s'.map (·.2))) σ') (h : E P N B c K s' σ') : E P N B c K s σ := fun g a w hB hT R => by
 obtain ⟨g', q1, q2, q3⟩ := hm P g g w w (.tuple (s'.map fun p => a.tmps.getD p.1 undef).toArray) R (Ext.refl g σ w) R (repL_tup (by simpa using repL_slots hT s'))
 have hT' : RelT N g' w s' a := by
  refine ⟨hT.size, hT.defers, slots_get (f := fun t => a.tmps.getD t undef) ?_⟩
  cases q3 with
  | tup _ cs hl hx => exact ⟨hl, fun j a v ha hv => hx j a v ha (by rw [List.getElem?_toArray]; exact hv)⟩
 have hX := q1.toB hB
 exact wp_mono (h g' a w hX.n hT' q2) fun e a' w' ⟨s2, σ2, g2, p1, p2, p3, p4⟩ => ⟨s2, σ2, g2, p1, p2, hX.trans p3, p4⟩
theorem CallsAbs.fm {f : FuncId} {args args' : List AV} {σ σ' : Store} {K : AV → Store → Prop} (hm : FinMove σ (.tup args) σ (.tup args') σ') (h : CallsAbs P f args' σ' K) : CallsAbs P f args σ K := by
 refine h.args fun g w vs R hL => ?_
 obtain ⟨g', q1, q2, q3⟩ := hm P g g w w (.tuple vs.toArray) R (Ext.refl g σ w) R (repL_tup (by simpa using hL))
 refine ⟨g', q1, q2, ?_⟩
 cases q3 with
 | tup _ cs hl hx => exact ⟨by simpa using hl, fun j a v ha hv => hx j a v ha (by simpa using hv)⟩
theorem fin_cut {σ0 σ : Store} {r : AV} {j : Nat} {sz : Nat × Nat} {rs rs' : List (List AV)} (ho : σ.get j = .rows sz rs) (n : Nat) (he : rs' = rs.take n) : FinMove σ0 r σ r (σ.set j (.rows sz rs')) := fun P g0 g w0 w v R0 hE R hr => by
 have hj : j < g.n := by
  rcases Nat.lt_or_ge j g.n with h | h
  ·exact h
  ·have := R.dead j h; rw [ho] at this; cases this
 have hob := R.ob j hj
 rw [ho] at hob
 have hob' : ObRel g w j (.rows sz rs') := by
  subst he
  rcases hob with ⟨rfl, h1, h2⟩ | ⟨h1, h2, c, fr, h3, h4, h5, h6, h7⟩
  ·exact .inl ⟨by simp, h1, h2⟩
  ·refine .inr ⟨h1, h2, c, fr, h3, h4, h5, by rw [List.length_take]; omega, fun r row hr => h7 r row ?_⟩
   rw [List.getElem?_take] at hr
   split at hr
   ·exact hr
   ·cases hr
 have hR := set_ok R j (.rows sz rs') hj (by rw [ho]; intro q; cases q) (fun _ _ => rfl) rfl rfl rfl rfl hob'
 exact ⟨g, hE.trans R0 hR.1, hR.2, hr⟩
theorem fin_kin0 {σ0 σ : Store} {r : AV} (sz : Nat × Nat) : FinMove σ0 r σ r (σ.add (.kin sz [])) := fun P g0 g w0 w v R0 hE R hr => by
 have hk : Keeps g w (g.nowhere 0 sz.1) w := ⟨by simp [Ghost.nowhere], fun i hi => by simp [Ghost.nowhere, Nat.ne_of_lt hi], fun x hx => ⟨hx, rfl⟩⟩
 have hget : ∀ i, (σ.add (.kin sz [])).get i = if σ.n = i then (.kin sz []) else σ.get i := fun i => by simp only [Store.get, Store.add, look_cons]
 have hX : Ext g σ w (g.nowhere 0 sz.1) (σ.add (.kin sz [])) w := by
  refine ⟨hk.n, hk.place, fun i hi hd => ?_, Nat.le_refl _, fun b hb ho => ⟨rfl, rfl⟩, rfl, rfl, rfl⟩
  rw [hget, if_neg (by rw [R.n]; omega)]; exact hd
 refine ⟨g.nowhere 0 sz.1, hE.trans R0 hX, ?_, hr.mono hk⟩
 refine StoreRel.step R (by simp [Ghost.nowhere, R.n]) hk R.lt (fun b i hb => ?_) (fun i hi => ?_) (fun _ => False) (fun i hi _ => ⟨?_, .inr fun b hb => ⟨hb, rfl⟩⟩) (fun i hi hi' => ?_)
 ·have := R.owner b i hb; simp [Ghost.nowhere]; omega
 ·simp only [Ghost.nowhere] at hi
  rw [hget, if_neg (by rw [R.n]; omega)]
  exact R.dead i (by omega)
 ·rw [hget, if_neg (by rw [R.n]; omega)]
 ·have hin : i = g.n := by
   rcases hi' with h | h
   ·exact h.elim
   ·simp only [Ghost.nowhere] at hi; omega
  subst hin
  rw [hget, if_pos R.n]
  exact ⟨[], .nil⟩
def pos : List Nat → Nat → Nat → Option Nat
 | [], _, _ => none
 | a :: r, k, n => match Nat.beq a k with
  | true => some n
  | false => pos r k (n + 1)
theorem pos_some : ∀ {q : List Nat} {k a i : Nat}, pos q k a = some i → ∃ j, i = a + j ∧ q[j]? = some k
 | b :: r, k, a, i, h => by
  unfold pos at h
  split at h
  ·rename_i e
   cases h
   exact ⟨0, rfl, by simp [Nat.eq_of_beq_eq_true e]⟩
  ·obtain ⟨j, h1, h2⟩ := pos_some h
   exact ⟨j + 1, by omega, by simpa using h2⟩
theorem pos_nodup : ∀ {q : List Nat} {j k a : Nat}, q.Nodup → q[j]? = some k → pos q k a = some (a + j)
 | b :: r, 0, k, a, hq, h => by
  simp at h; subst h
  unfold pos; rw [Nat.beq_refl]; rfl
 | b :: r, j + 1, k, a, hq, h => by
  simp at h
  have hk : k ∈ r := List.mem_of_getElem? h
  have hne : b ≠ k := fun e => (List.nodup_cons.1 hq).1 (e ▸ hk)
  have : Nat.beq b k = false := by
   cases hb : Nat.beq b k with
   | false => rfl
   | true => exact absurd (Nat.eq_of_beq_eq_true hb) hne
  unfold pos
  rw [this, show a + (j + 1) = a + 1 + j by omega]
  exact pos_nodup (List.nodup_cons.1 hq).2 h
def nthN : List Nat → Nat → Option Nat
 | [], _ => none
 | a :: _, 0 => some a
 | _ :: r, n + 1 => nthN r n
theorem nthN_eq : ∀ (q : List Nat) (n : Nat), nthN q n = q[n]?
 | [], n => by simp [nthN]
 | a :: r, 0 => by simp [nthN]
 | a :: r, n + 1 => by simp [nthN, nthN_eq r n]
def upf (n : Nat) (q : List Nat) (i : Nat) : Option VE := match Nat.ble n i with
 | false => some (.old i)
 | true => (nthN q (i - n)).map .old
def Ghost.ups (g : Ghost) (q : List Nat) : Ghost where
 n := g.n + q.length
 blk i := match upf g.n q i with | some (.old k) => g.blk k | _ => 0
 sz i := match upf g.n q i with | some (.old k) => g.sz k | _ => 0
 cap i := match upf g.n q i with | some (.old k) => g.cap k | _ => 0
 kind b := match g.kind b with
  | .own k => (match pos q k g.n with | some i => .own i | none => .own k)
  | x => x
theorem upf_lo {n i : Nat} {q : List Nat} (h : i < n) : upf n q i = some (.old i) := by
 have : Nat.ble n i = false := by
  cases hb : Nat.ble n i with
  | false => rfl
  | true => have := Nat.le_of_ble_eq_true hb; omega
 simp [upf, this]
theorem upf_hi {n i : Nat} {q : List Nat} (h : n ≤ i) : upf n q i = (q[i - n]?).map .old := by
 have : Nat.ble n i = true := Nat.ble_eq_true_of_le h
 simp [upf, this, nthN_eq]
theorem upf_lt {n i : Nat} {q : List Nat} {e : VE} (h : upf n q i = some e) : i < n + q.length := by
 rcases Nat.lt_or_ge i n with hi | hi
 ·omega
 ·rw [upf_hi hi] at h
  obtain ⟨k, hk, _⟩ := Option.map_eq_some_iff.1 h
  have := (List.getElem?_eq_some_iff.1 hk).1
  omega
def deads (σ : Store) : List Nat → Prop
 | [] => True
 | k :: r => σ.get k = .dead ∧ deads σ r
def lives (σ : Store) : List Nat → Prop
 | [] => True
 | k :: r => σ.get k ≠ .dead ∧ lives σ r
theorem deads_get {σ : Store} : ∀ {q : List Nat} {k : Nat}, deads σ q → k ∈ q → σ.get k = .dead
 | a :: r, k, h, hk => by
  rcases List.mem_cons.1 hk with rfl | hk
  ·exact h.1
  ·exact deads_get h.2 hk
theorem lives_get {σ : Store} : ∀ {q : List Nat} {k : Nat}, lives σ q → k ∈ q → σ.get k ≠ .dead
 | a :: r, k, h, hk => by
  rcases List.mem_cons.1 hk with rfl | hk
  ·exact h.1
  ·exact lives_get h.2 hk
theorem ob_lt {P : Program} {g : Ghost} {σ : Store} {w : World} (R : StoreRel P g σ w) {k : Nat} (h : σ.get k ≠ .dead) : k < g.n := by
 rcases Nat.lt_or_ge k g.n with hk | hk
 ·exact hk
 ·exact absurd (R.dead k hk) h
theorem fin_ups {σ0 σ σ' : Store} {r r' : AV} (q : List Nat) (hn : σ'.n = σ.n + q.length) (hq : q.Nodup) (hd : deads σ' q) (hl : lives σ q) (ho : orelS (upf σ.n q) σ σ'.objs) (hr : vrel (upf σ.n q) r' r) : FinMove σ0 r σ r' σ' := fun P g0 g w0 w v R0 hE R hrep => by
 have hsn := R.n
 rw [hsn] at hn ho hr
 have ht : Tr (upf g.n q) g (g.ups q) := by
  refine ⟨fun i k h hk => ⟨upf_lt h, by simp [Ghost.ups, h], by simp [Ghost.ups, h], by simp [Ghost.ups, h]⟩, fun i sz h => ?_, fun b h => ?_⟩
  ·rcases Nat.lt_or_ge i g.n with hi | hi
   ·rw [upf_lo hi] at h; cases h
   ·rw [upf_hi hi] at h
    obtain ⟨k, _, hk⟩ := Option.map_eq_some_iff.1 h
    cases hk
  ·have h' : g.kind b = .imm := h
   simp [Ghost.imm, Ghost.ups, h']
 have hlook : ∀ i, σ'.get i = .dead ∨ entry (upf g.n q) σ i (σ'.get i) := fun i => orelS_look ho
 have hkind : ∀ b k, g.kind b = .own k → (g.ups q).kind b = match pos q k g.n with | some i => .own i | none => .own k := fun b k h => by simp [Ghost.ups, h]
 have hR : StoreRel P (g.ups q) σ' w := by
  refine ⟨hn, fun b hb => R.lt b (fun hf => hb (by simp [Ghost.ups, hf])), fun b i hb => ?_, fun i hi => ?_, fun i hi => ?_, fun x hx => ⟨ht.imm x (R.glob x hx).1, (R.glob x hx).2⟩⟩
  ·cases hk : g.kind b with
   | own k =>
    rw [hkind b k hk] at hb
    show i < g.n + q.length
    split at hb
    ·rename_i j hj
     cases hb
     obtain ⟨m, rfl, hm⟩ := pos_some hj
     have := (List.getElem?_eq_some_iff.1 hm).1
     omega
    ·cases hb
     have := R.owner b _ hk
     omega
   | _ => simp [Ghost.ups, hk] at hb
  ·have hi' : g.n + q.length ≤ i := hi
   rcases hlook i with h | h
   ·exact h
   ·unfold entry at h
    rw [upf_hi (by omega), List.getElem?_eq_none (by omega)] at h
    dsimp only [Option.map_none] at h
    generalize hs : σ'.get i = o at h
    cases o <;> first | rfl | exact h.elim
  ·rcases hlook i with h | h
   ·rw [h]; trivial
   ·by_cases hin : i < g.n
    ·unfold entry at h
     rw [upf_lo hin] at h
     dsimp only at h
     by_cases hiq : i ∈ q
     ·rw [deads_get hd hiq]; trivial
     ·refine (R.ob i hin).tr ht (upf_lo hin) hin (fun b hb => ?_) h
      rw [hkind b i hb]
      cases hp : pos q i g.n with
      | none => rfl
      | some j =>
       obtain ⟨m, _, hm⟩ := pos_some hp
       exact absurd (List.mem_of_getElem? hm) hiq
    ·have hf := upf_hi (q := q) (Nat.le_of_not_lt hin)
     have hlt : i - g.n < q.length := by
      have hi2 : i < g.n + q.length := hi
      omega
     rw [List.getElem?_eq_getElem hlt] at hf
     have hmem : q[i - g.n] ∈ q := List.getElem_mem hlt
     unfold entry at h
     rw [hf] at h
     dsimp only [Option.map_some] at h hf
     have hkn := ob_lt R (lives_get hl hmem)
     refine (R.ob _ hkn).tr ht hf hkn (fun b hb => ?_) h
     rw [hkind b _ hb, pos_nodup (a := g.n) hq (List.getElem?_eq_getElem hlt)]
     dsimp only
     rw [Nat.add_sub_cancel' (Nat.le_of_not_lt hin)]
 have hX : Ext g σ w (g.ups q) σ' w := by
  refine ⟨by simp [Ghost.ups], fun i hi => by simp [Ghost.ups, upf_lo hi], fun i hi hdi => ?_, Nat.le_refl _, fun b hb ho => ⟨?_, rfl⟩, rfl, rfl, rfl⟩
  ·rcases hlook i with h | h
   ·exact h
   ·unfold entry at h
    rw [upf_lo hi] at h
    dsimp only at h
    rw [hdi] at h
    exact orel_dead h
  ·cases hk : g.kind b with
   | own k =>
    rw [hkind b k hk]
    cases hp : pos q k g.n with
    | none => rfl
    | some j =>
     obtain ⟨m, _, hm⟩ := pos_some hp
     exact absurd (ho k hk) (lives_get hl (List.mem_of_getElem? hm))
   | _ => simp [Ghost.ups, hk]
 exact ⟨g.ups q, hE.trans R0 hX, hR, hrep.tr ht _ hr⟩
end
end Go.Aw

namespace Go.Aw
set_option linter.unusedVariables false
set_option linter.unusedSimpArgs false
section
variable {T : List TI} {P : Program} {N B : Nat} {ops : Array Oper} {md : Region.Mode} {eff : List Nat} {σs : List Bool → Store}
def mayM (md : Region.Mode) (ops : Array Oper) (i : Nat) : List Nat → List Bool → Bool
 | e :: eff, b :: t => (match b with | true => !waitsT md ops e i | false => !waitsT md ops i e) && mayM md ops i eff t
 | _, _ => true
def masks : Nat → List (List Bool)
 | 0 => [[]]
 | n + 1 => (masks n).map (false :: ·) ++ (masks n).map (true :: ·)
theorem mem_masks : ∀ {n : Nat} {t : List Bool}, t.length = n → t ∈ masks n
 | 0, [], _ => by simp [masks]
 | n + 1, b :: t, h => by
  have := mem_masks (n := n) (t := t) (by simpa using h)
  cases b <;> simp [masks, this]
theorem mayM_get {i : Nat} : ∀ {eff : List Nat} {t : List Bool}, mayM md ops i eff t = true ↔ ∀ (a e : Nat) b, eff[a]? = some e → t[a]? = some b → (match b with | true => waitsT md ops e i = false | false => waitsT md ops i e = false)
 | [], t => by simp [mayM]
 | e :: eff, [] => by simp [mayM]
 | e :: eff, b :: t => by
  show ((match b with | true => !waitsT md ops e i | false => !waitsT md ops i e) && mayM md ops i eff t) = true ↔ _
  rw [Bool.and_eq_true, mayM_get]
  constructor
  ·rintro ⟨h1, h2⟩ a e' b' he hb
   cases a with
   | zero =>
    simp at he hb; subst he; subst hb
    cases b <;> simpa using h1
   | succ a => exact h2 a e' b' (by simpa using he) (by simpa using hb)
  ·intro h
   refine ⟨?_, fun a e' b' he hb => h (a + 1) e' b' (by simpa using he) (by simpa using hb)⟩
   have := h 0 e b (by simp) (by simp)
   cases b <;> simpa using this
def MA (T : List TI) (P : Program) (N : Nat) (md : Region.Mode) (ops : Array Oper) (eff : List Nat) (σs : List Bool → Store) (i : Nat) (o : Oper) (r : AV) (s : St) (t t' : List Bool) : Prop :=
 (∃ a, eff[a]? = some i ∧ t[a]? = some false ∧ mayM md ops i eff t = true ∧ t' = t.set a true ∧ ∀ u : List Bool, u.length = eff.length → u[a]? = some false → mayM md ops i eff u = true → YE T P N (σs u) (σs (u.set a true)) ops.toList o r s) ∨
 (i ∉ eff ∧ t' = t ∧ mayM md ops i eff t = true ∧ ∀ u : List Bool, u.length = eff.length → mayM md ops i eff u = true → YA T P N (σs u) ops.toList o r s)
def qM (T : List TI) (P : Program) (N : Nat) (md : Region.Mode) (ops : Array Oper) (eff : List Nat) (σs : List Bool → Store) (i : Nat) (K : St → List Bool → Prop) (s : St) (t : List Bool) : Prop :=
 match ops[i]? with
 | none => K s t
 | some o => ∃ r t', MA T P N md ops eff σs i o r s t t' ∧ K (putS o.dst r s) t'
def anyM (T : List TI) (P : Program) (N : Nat) (md : Region.Mode) (ops : Array Oper) (eff : List Nat) (σs : List Bool → Store) (Q : St → List Bool → Prop) : Nat → Array Bool → St → List Bool → Prop
 | 0, listed, s, t => Region.ready md ops listed = [] ∧ Q s t
 | fuel + 1, listed, s, t =>
  (Region.ready md ops listed = [] → Q s t) ∧
  ∀ i ∈ Region.ready md ops listed, qM T P N md ops eff σs i (anyM T P N md ops eff σs Q fuel (listed.setIfInBounds i true)) s t
theorem MA.of_same {i : Nat} {o : Oper} {r : AV} {s s' : St} {t t' : List Bool} (h : MA T P N md ops eff σs i o r s t t') (he : ∀ x ∈ o.op.operands, ev s x = ev s' x) (hw : askS ops.toList o s = askS ops.toList o s') : MA T P N md ops eff σs i o r s' t t' := by
 rcases h with ⟨a, h1, h2, h3, h4, h5⟩ | ⟨h1, h2, h3, h4⟩
 ·exact .inl ⟨a, h1, h2, h3, h4, fun u q1 q2 q3 => (h5 u q1 q2 q3).of_same he hw⟩
 ·exact .inr ⟨h1, h2, h3, fun u hu hm => (h4 u hu hm).of_same he hw⟩
theorem qM_same {i : Nat} {s s' : St} {t : List Bool} {K : St → List Bool → Prop} (hs : same s s') (hK : ∀ a b t, same a b → K a t → K b t) (h : qM T P N md ops eff σs i K s t) : qM T P N md ops eff σs i K s' t := by
 unfold qM at *
 split
 ·rename_i ho; simp only [ho] at h; exact hK _ _ _ hs h
 ·rename_i o ho
  simp only [ho] at h
  obtain ⟨r, t', h1, h2⟩ := h
  exact ⟨r, t', h1.of_same (fun x _ => hs.ev x) (hs.ask _ _), hK _ _ _ (hs.put _ _) h2⟩
theorem anyM_same {Q : St → List Bool → Prop} (hQ : ∀ a b t, same a b → Q a t → Q b t) : ∀ (fuel : Nat) (listed : Array Bool) (s s' : St) (t : List Bool), same s s' → anyM T P N md ops eff σs Q fuel listed s t → anyM T P N md ops eff σs Q fuel listed s' t
 | 0, _, _, _, _, hs, h => ⟨h.1, hQ _ _ _ hs h.2⟩
 | fuel + 1, _, _, _, _, hs, h => ⟨fun h0 => hQ _ _ _ hs (h.1 h0), fun i hi => qM_same hs (fun a b t hab => anyM_same hQ fuel _ a b t hab) (h.2 i hi)⟩
theorem mayM_unset {i j a : Nat} {t : List Bool} (h : mayM md ops j eff (t.set a true) = true) (ha : eff[a]? = some i) (hw : waitsT md ops j i = false) : mayM md ops j eff t = true := by
 rw [mayM_get] at h ⊢
 intro c e b he hb
 by_cases hc : c = a
 ·subst hc
  rw [ha] at he; cases he
  cases b with
  | false => exact hw
  | true =>
   have hlt := (List.getElem?_eq_some_iff.1 hb).1
   exact h c i true ha (by rw [List.getElem?_set_self hlt])
 ·exact h c e b he (by rw [List.getElem?_set_ne (Ne.symm hc)]; exact hb)
theorem mayM_set {i j a : Nat} {t : List Bool} (h : mayM md ops i eff t = true) (ha : eff[a]? = some j) (hw : waitsT md ops j i = false) : mayM md ops i eff (t.set a true) = true := by
 rw [mayM_get] at h ⊢
 intro c e b he hb
 by_cases hc : c = a
 ·subst hc
  rw [ha] at he; cases he
  rw [List.getElem?_set] at hb
  rw [if_pos rfl] at hb
  split at hb
  ·cases hb; exact hw
  ·cases hb
 ·rw [List.getElem?_set_ne (Ne.symm hc)] at hb
  exact h c e b he hb
theorem qM_put {j : Nat} {oi oj : Oper} {i : Nat} {v : AV} (hoi : ops[i]? = some oi) (hj : ops[j]? = some oj) (hji : j ≠ i) (hap : oi.apart ops oj = true) (hno2 : waitsT md ops j i = false) (hno3 : waitsT md ops i j = false)
  {K : St → List Bool → Prop} (hK : ∀ a b t, same a b → K a t → K b t) {s : St} {t t' : List Bool}
  (hy : MA T P N md ops eff σs i oi v s t t') (h : qM T P N md ops eff σs j K (putS oi.dst v s) t') :
  qM T P N md ops eff σs j (fun s' u => ∃ u', MA T P N md ops eff σs i oi v s' u u' ∧ K (putS oi.dst v s') u') s t := by
 obtain ⟨h1, h2, h3⟩ := Oper.apart_spec hap
 unfold qM at h ⊢
 simp only [hj] at h ⊢
 obtain ⟨r, t2, hr, hn⟩ := h
 have hr' := hr.of_same (op_put oj s oi.dst v h1) (ask_put oj s oi.dst v h1)
 have keep := fun u u' (hz : MA T P N md ops eff σs i oi v s u u') => hz.of_same (fun x hx => (op_put oi s oj.dst r h3 x hx).symm) (ask_put oi s oj.dst r h3).symm
 have hput : ∀ u, K (putS oj.dst r (putS oi.dst v s)) u → K (putS oi.dst v (putS oj.dst r s)) u := fun u hk => hK _ _ _ (put_comm s v r h2) hk
 rcases hy with ⟨a, hi1, hi2, hi3, rfl, hi5⟩ | ⟨hi1, htt, hi3, hi4⟩
 ·rcases hr' with ⟨b, hj1, hj2, hj3, rfl, hj5⟩ | ⟨hj1, hee, hj3, hj4⟩
  ·have hab : a ≠ b := fun e => by subst e; rw [hi1] at hj1; cases hj1; exact hji rfl
   have hb2 : t[b]? = some false := by rwa [List.getElem?_set_ne hab] at hj2
   refine ⟨r, t.set b true, .inl ⟨b, hj1, hb2, mayM_unset hj3 hi1 hno2, rfl, hj5⟩, (t.set b true).set a true, keep _ _ (.inl ⟨a, hi1, by rw [List.getElem?_set_ne (Ne.symm hab)]; exact hi2, mayM_set hi3 hj1 hno2, rfl, hi5⟩), ?_⟩
   rw [List.set_comm _ _ (Ne.symm hab)]
   exact hput _ hn
  ·subst hee
   exact ⟨r, t, .inr ⟨hj1, rfl, mayM_unset hj3 hi1 hno2, hj4⟩, _, keep _ _ (.inl ⟨a, hi1, hi2, hi3, rfl, hi5⟩), hput _ hn⟩
 ·replace htt := htt.symm
  subst htt
  rcases hr' with ⟨b, hj1, hj2, hj3, rfl, hj5⟩ | ⟨hj1, hee, hj3, hj4⟩
  ·exact ⟨r, _, .inl ⟨b, hj1, hj2, hj3, rfl, hj5⟩, _, keep _ _ (.inr ⟨hi1, rfl, mayM_set hi3 hj1 hno2, hi4⟩), hput _ hn⟩
  ·replace hee := hee.symm
   subst hee
   exact ⟨r, t, .inr ⟨hj1, rfl, hj3, hj4⟩, t, keep _ _ (.inr ⟨hi1, rfl, hi3, hi4⟩), hput _ hn⟩
theorem MA_len {i : Nat} {o : Oper} {r : AV} {s : St} {t t' : List Bool} (h : MA T P N md ops eff σs i o r s t t') : t'.length = t.length := by
 rcases h with ⟨a, _, _, _, rfl, _⟩ | ⟨_, rfl, _⟩
 ·simp
 ·rfl
theorem anyM_first {Q : St → List Bool → Prop} (hQ : ∀ a b t, same a b → Q a t → Q b t) {i : Nat} {oi : Oper} {v : AV} (hi : ops[i]? = some oi) :
  ∀ (fuel : Nat) (listed : Array Bool) (s : St) (t t' : List Bool), Closed md ops listed →
   (∀ j oj, ops[j]? = some oj → j ≠ i → listed.getD j true = false → (∀ e ∈ oj.after, Region.binds md e = true → e.on ≠ i) → oi.apart ops oj = true) →
   i ∈ Region.ready md ops listed → MA T P N md ops eff σs i oi v s t t' →
   anyM T P N md ops eff σs Q fuel (listed.setIfInBounds i true) (putS oi.dst v s) t' → anyM T P N md ops eff σs Q (fuel + 1) listed s t := by
 have now : ∀ {s : St} {t t' : List Bool} {K : St → List Bool → Prop}, MA T P N md ops eff σs i oi v s t t' → K (putS oi.dst v s) t' → qM T P N md ops eff σs i K s t := fun hy h => by
  unfold qM; simp only [hi]; exact ⟨v, _, hy, h⟩
 intro fuel
 induction fuel with
 | zero =>
  intro listed a t t' _ _ hr hy H
  refine ⟨fun h => (by rw [h] at hr; cases hr), fun j hj => ?_⟩
  by_cases hji : j = i
  ·subst hji; exact now hy H
  ·have := ready_mono hj hji
   rw [H.1] at this
   cases this
 | succ fuel ih =>
  intro listed a t t' hcl hfree hr hy H
  refine ⟨fun h => (by rw [h] at hr; cases hr), fun j hj => ?_⟩
  by_cases hji : j = i
  ·subst hji; exact now hy H
  ·have h1 := H.2 j (ready_mono hj hji)
   obtain ⟨hjun, oj, hoj, hall⟩ := mem_ready.1 hj
   have unl : ∀ k, listed.getD k true = false → listed.getD k false = true → False := fun k h0 h1 => by
    rcases Nat.lt_or_ge k listed.size with h' | h'
    ·simp [h'] at h0 h1; rw [h0] at h1; cases h1
    ·simp [Array.getElem?_eq_none h'] at h1
   have hnot : ∀ e ∈ oj.after, Region.binds md e = true → e.on ≠ i := fun e he hb heq => by
    have h1 := hall e he hb
    rw [heq] at h1
    exact unl i (mem_ready.1 hr).1 h1
   have hnot2 : waitsT md ops j i = false := by
    cases hb : waitsT md ops j i with
    | false => rfl
    | true => exact (unl i (mem_ready.1 hr).1 (waitsT_listed hcl hoj hall hb)).elim
   have hnot3 : waitsT md ops i j = false := by
    cases hb : waitsT md ops i j with
    | false => rfl
    | true =>
     obtain ⟨_, oi', hoi', hall'⟩ := mem_ready.1 hr
     exact (unl j hjun (waitsT_listed hcl hoi' hall' hb)).elim
   have h2 := qM_put hi hoj hji (hfree j oj hoj hji hjun hnot) hnot2 hnot3 (fun a b t hab => anyM_same hQ fuel _ a b t hab) hy h1
   have hfree' : ∀ k ok, ops[k]? = some ok → k ≠ i → (listed.setIfInBounds j true).getD k true = false →
     (∀ e ∈ ok.after, Region.binds md e = true → e.on ≠ i) → oi.apart ops ok = true := fun k ok hk hki hun hno => by
    refine hfree k ok hk hki ?_ hno
    by_cases hjk : j = k
    ·subst hjk; exact hjun
    ·rw [getD_set_ne true hjk] at hun; exact hun
   unfold qM at h2 ⊢
   simp only [hoj] at h2 ⊢
   obtain ⟨r, u, q1, u', q2, q3⟩ := h2
   refine ⟨r, u, q1, ih (listed.setIfInBounds j true) _ u u' (hcl.set hj) hfree' (ready_mono hr (Ne.symm hji)) q2 ?_⟩
   rw [Array.setIfInBounds_comm _ _ hji]
   exact q3
def mops (T : List TI) (P : Program) (N : Nat) (md : Region.Mode) (ops : Array Oper) (eff : List Nat) (σs : List Bool → Store) (Q : St → List Bool → Prop) : List Oper → Nat → St → List Bool → Prop
 | [], _, s, t => Q s t
 | o :: rest, i, s, t => ∃ r t', MA T P N md ops eff σs i o r s t t' ∧ mops T P N md ops eff σs Q rest (i + 1) (putS o.dst r s) t'
theorem anyM_lex {Q : St → List Bool → Prop} (hQ : ∀ a b t, same a b → Q a t → Q b t) : ∀ (l : List Oper) (k : Nat) (listed : Array Bool) (s : St) (t : List Bool), Closed md ops listed → (∀ j, l[j]? = ops[k + j]?) →
  Region.lexFrom md ops l.length k listed = true → mops T P N md ops eff σs Q l k s t → anyM T P N md ops eff σs Q l.length listed s t
 | [], _, _, _, _, _, _, hB, h => ⟨by simpa [Region.lexFrom] using hB, h⟩
 | o :: l, k, listed, s, t, hcl, hl, hB, h => by
  have h0 : ops[k]? = some o := by simpa using (hl 0).symm
  simp only [List.length_cons, Region.lexFrom, Bool.and_eq_true] at hB
  obtain ⟨⟨hr, hf⟩, hB'⟩ := hB
  obtain ⟨v, t', hy, hK⟩ := h
  exact anyM_first hQ h0 l.length listed s t t' hcl (Region.free_spec h0 hf) (by simpa using hr) hy
   (anyM_lex hQ l (k + 1) _ _ t' (hcl.set (by simpa using hr)) (fun j => by have := hl (j + 1); simpa [Nat.add_assoc, Nat.add_comm 1 j] using this) hB' hK)
theorem anyM_sound (hw : wfP P = true) {sm : St} {tm : List Bool} {σ0 : Store} {K : Exit → St → Store → Prop} (hK : K .normal sm (σs tm)) {g0 : Ghost} {w0 : World} (R0 : StoreRel P g0 σ0 w0) (hB : B ≤ g0.n) : ∀ (fuel : Nat) (listed : Array Bool) (s : St) (t : List Bool) (g : Ghost) (w : World) (a : Act), t.length = eff.length →
  anyM (tabOf P) P N md ops eff σs (fun s t => same s sm ∧ t = tm) fuel listed s t → RelT N g w s a → StoreRel P g (σs t) w → Ext g0 σ0 w0 g (σs t) w → wpAny P md ops (Post (P := P) N B g0 σ0 w0 K) fuel listed a w
 | 0, _, s, t, g, w, a, ht, h, hT, R, hE => by
  obtain ⟨h1, h2, rfl⟩ := h
  exact ⟨h1, sm, σs t, g, hK, hT.same h2, hE.toB hB, R⟩
 | fuel + 1, listed, s, t, g, w, a, ht, h, hT, R, hE => by
  refine ⟨fun h0 => ?_, fun i hi => ?_⟩
  ·obtain ⟨h2, rfl⟩ := h.1 h0
   exact ⟨sm, σs t, g, hK, hT.same h2, hE.toB hB, R⟩
  have hq := h.2 i hi
  cases ho : ops[i]? with
  | none =>
   unfold qM at hq
   simp only [ho] at hq
   unfold wpOp
   simp only [ho]
   exact anyM_sound hw hK R0 hB fuel _ s t g w a ht hq hT R hE
  | some o =>
   unfold qM at hq
   simp only [ho] at hq
   obtain ⟨r, t', hy, hn⟩ := hq
   have ht' := MA_len hy
   rcases hy with ⟨b, h1, h2, h3, rfl, h5⟩ | ⟨h1, hee, h3, h4⟩
   ·exact YE_sound hw ho (h5 t ht h2 h3) hT R fun g' w' a' e1 e2 e3 => anyM_sound hw hK R0 hB fuel _ _ _ g' w' a' (ht'.trans ht) hn e3 e2 (hE.trans R0 e1)
   ·replace hee := hee.symm
    subst hee
    exact YA_sound hw ho (h4 t ht h3) hT R fun g' w' a' e1 e2 e3 => anyM_sound hw hK R0 hB fuel _ _ t g' w' a' ht hn e3 e2 (hE.trans R0 e1)
def none0 : List Nat → List Bool
 | [] => []
 | _ :: r => false :: none0 r
theorem none0_len : ∀ l : List Nat, (none0 l).length = l.length
 | [] => rfl
 | _ :: r => by simp [none0, none0_len r]
theorem drawnM (hw : wfP P = true) {T : List TI} (hT : tabOf P = T) {id : Nat} {K : Exit → St → Store → Prop} {s : St} {σ : Store} (eff : List Nat) (σs : List Bool → Store) (h0 : σs (none0 eff) = σ) (hm : P.follows .mixedOrders = true) (hL : Region.lexB .any ops = true)
  (h : mops T P N .any ops eff σs (fun s t => K .normal s (σs t)) ops.toList 0 s (none0 eff)) : E P N B (.region id ops true) K s σ := fun g a w hB hR R => by
 subst hT
 subst h0
 simp only [Region.lexB, Bool.and_eq_true] at hL
 have last : ∀ (l : List Oper) (i : Nat) (s : St) (t : List Bool), mops (tabOf P) P N .any ops eff σs (fun s t => K .normal s (σs t)) l i s t → ∃ sm tm, K .normal sm (σs tm) ∧ mops (tabOf P) P N .any ops eff σs (fun s t => same s sm ∧ t = tm) l i s t := by
  intro l
  induction l with
  | nil => intro i s t h; exact ⟨s, t, h, same.refl s, rfl⟩
  | cons o l ih =>
   intro i s t h
   obtain ⟨r, t', h1, h2⟩ := h
   obtain ⟨sm, tm, q1, q2⟩ := ih _ _ _ h2
   exact ⟨sm, tm, q1, r, t', h1, q2⟩
 obtain ⟨sm, tm, hK, hq⟩ := last _ _ _ _ h
 have := anyM_lex (md := .any) (fun a b t hab ha => ⟨hab.symm.trans ha.1, ha.2⟩) ops.toList 0 (Array.replicate ops.size false) s (none0 eff) (fun x o _ hl => by simp [Array.getD_eq_getD_getElem?, Array.getElem?_replicate] at hl; split at hl <;> simp at hl) (by simp) (by simpa using hL.2) hq
 refine wp_region_any hm ?_
 have hk : Keeps g w g { w with drawn := w.drawn + 1 } := ⟨Nat.le_refl _, fun _ _ => ⟨rfl, rfl, rfl⟩, fun b hb => ⟨hb, rfl⟩⟩
 have R' : StoreRel P g (σs (none0 eff)) { w with drawn := w.drawn + 1 } := ⟨R.n, R.lt, R.owner, R.dead, fun i hi => (R.ob i hi).mono hk hi (fun b hb => ⟨hb, rfl⟩), glob_keep hk R.glob⟩
 have hR' : RelT N g { w with drawn := w.drawn + 1 } s a := hR.mono hk
 have hE' : Ext g (σs (none0 eff)) w g (σs (none0 eff)) { w with drawn := w.drawn + 1 } := ⟨Nat.le_refl _, fun _ _ => ⟨rfl, rfl, rfl⟩, fun _ _ h => h, Nat.le_refl _, fun _ _ _ => ⟨rfl, rfl⟩, rfl, rfl, rfl⟩
 have hsz : ops.toList.length = ops.size := by simp
 rw [hsz] at this
 exact anyM_sound (md := .any) hw hK R hB _ _ s _ g _ a (none0_len eff) this hR' R' hE'
theorem mblind {Q : St → List Bool → Prop} {o : Oper} {rest : List Oper} {i : Nat} {s : St} {t : List Bool} {r : AV} (hi : (!eff.contains i && mayM md ops i eff t) = true) (hN : dstOk N o.dst = true) (hg : askS ops.toList o s = .run) (h : ∀ σ, astep T P s σ o.op (fun v σ' => FinMove σ v σ' r σ))
  (k : mops T P N md ops eff σs Q rest (i + 1) (putS o.dst r s) t) : mops T P N md ops eff σs Q (o :: rest) i s t := by
 rw [Bool.and_eq_true] at hi
 exact ⟨r, t, .inr ⟨by simpa using hi.1, rfl, hi.2, fun u _ _ => ⟨hN, .inl ⟨hg, h (σs u)⟩⟩⟩, k⟩
def allM (A : List Bool → Prop) : List (List Bool) → Prop
 | [] => True
 | u :: r => A u ∧ allM A r
theorem allM_get {A : List Bool → Prop} : ∀ {l : List (List Bool)}, allM A l → ∀ u ∈ l, A u
 | u :: r, h, v, hv => by
  rcases List.mem_cons.1 hv with rfl | hv
  ·exact h.1
  ·exact allM_get h.2 v hv
theorem mreadL {Q : St → List Bool → Prop} {o : Oper} {rest : List Oper} {i : Nat} {s : St} {t : List Bool} {r : AV} (us : List (List Bool)) (hi : (!eff.contains i && mayM md ops i eff t && (masks eff.length).all fun u => !mayM md ops i eff u || us.contains u) = true) (hN : dstOk N o.dst = true) (hg : askS ops.toList o s = .run)
  (h : allM (fun u => astep T P s (σs u) o.op (fun v σ' => FinMove (σs u) v σ' r (σs u))) us)
  (k : mops T P N md ops eff σs Q rest (i + 1) (putS o.dst r s) t) : mops T P N md ops eff σs Q (o :: rest) i s t := by
 rw [Bool.and_eq_true, Bool.and_eq_true] at hi
 refine ⟨r, t, .inr ⟨by simpa using hi.1.1, rfl, hi.1.2, fun u hu hm => ⟨hN, .inl ⟨hg, allM_get h u ?_⟩⟩⟩, k⟩
 have := List.all_eq_true.1 hi.2 u (mem_masks hu)
 rw [hm] at this
 simpa using this
theorem meff {Q : St → List Bool → Prop} {o : Oper} {rest : List Oper} {i : Nat} {s : St} {t : List Bool} {r : AV} (a : Nat) (us : List (List Bool)) (hi : (mayM md ops i eff t && (masks eff.length).all fun u => !(u.getD a true == false && mayM md ops i eff u) || us.contains u) = true) (ha : eff[a]? = some i) (ht : t[a]? = some false) (hN : dstOk N o.dst = true) (hg : askS ops.toList o s = .run)
  (h : allM (fun u => astep T P s (σs u) o.op (fun v σ' => FinMove (σs u) v σ' r (σs (u.set a true)))) us)
  (k : mops T P N md ops eff σs Q rest (i + 1) (putS o.dst r s) (t.set a true)) : mops T P N md ops eff σs Q (o :: rest) i s t := by
 rw [Bool.and_eq_true] at hi
 refine ⟨r, t.set a true, .inl ⟨a, ha, ht, hi.1, rfl, fun u hu hua hm => ⟨hN, hg, allM_get h u ?_⟩⟩, k⟩
 have := List.all_eq_true.1 hi.2 u (mem_masks hu)
 rw [hm, List.getD_eq_getElem?_getD, hua] at this
 simpa using this
end
end Go.Aw

