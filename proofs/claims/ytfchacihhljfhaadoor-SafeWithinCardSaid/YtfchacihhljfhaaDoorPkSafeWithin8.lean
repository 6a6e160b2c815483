/- What is proved here serves the claim: the walk over the code and the plain laws, part 8 of 16. -/
import Derived.Test.YtfchacihhljfhaaDoorPkSafeWithin7
import Derived.Orders
import Derived.Still
namespace Go.Aw
set_option linter.unusedVariables false
set_option linter.unusedSimpArgs false
def putS (d : Option Tmp) (v : AV) (s : St) : St := match d with
  | none => s
  | some d => (d, v) :: s
/-- The same slots. -/
def same (s s' : St) : Prop := ∀ t, look .top s t = look .top s' t
theorem same.refl (s : St) : same s s := fun _ => rfl
theorem same.symm {s s' : St} (h : same s s') : same s' s := fun t => (h t).symm
theorem same.trans {a b c : St} (h : same a b) (k : same b c) : same a c := fun t => (h t).trans (k t)
theorem same.ev {s s' : St} (h : same s s') (x : Operand) : ev s x = ev s' x := by
  cases x with
  | tmp t => exact h t
  | _ => rfl
theorem same.put {s s' : St} (h : same s s') (d : Option Tmp) (v : AV) : same (putS d v s) (putS d v s') := by
  cases d with
  | none => exact h
  | some d =>
    intro t
    show look .top ((d, v) :: s) t = look .top ((d, v) :: s') t
    rw [look_cons, look_cons, h t]
theorem put_comm (s : St) {x y : Option Tmp} (v u : AV) (h : ∀ d, x = some d → y ≠ some d) : same (putS y u (putS x v s)) (putS x v (putS y u s)) := by
  cases x with
  | none => exact same.refl _
  | some d =>
    cases y with
    | none => exact same.refl _
    | some e =>
      have hne : d ≠ e := fun he => h d rfl (he ▸ rfl)
      intro t
      show look .top ((e, u) :: (d, v) :: s) t = look .top ((d, v) :: (e, u) :: s) t
      simp only [look_cons]
      by_cases h1 : e = t
      · subst h1; rw [if_pos rfl, if_neg hne, if_pos rfl]
      · rw [if_neg h1, if_neg h1]
section
variable {T : List TI} {P : Program} {N B : Nat}
theorem afill_congr {place : Nat → Option (Nat × Nat)} {ρ ρ' : Operand → AV} : ∀ {parts : List (Nat × Operand)} {cells : List AV}, (∀ p ∈ parts, ρ p.2 = ρ' p.2) → afill place cells ρ parts = afill place cells ρ' parts
  | [], _, _ => rfl
  | (i, x) :: r, cells, h => by
    have e : ρ x = ρ' x := h (i, x) (by simp)
    have ih : ∀ cells, afill place cells ρ r = afill place cells ρ' r := fun cells => afill_congr fun p hp => h p (List.mem_cons_of_mem _ hp)
    simp only [afill, e, ih]
theorem astep_congr {s s' : St} {σ : Store} {op : Op} {K : AV → Store → Prop} (h : ∀ x ∈ op.operands, ev s x = ev s' x) : astep T P s σ op K = astep T P s' σ op K := by
  have ml : ∀ xs : Array Operand, (∀ x ∈ xs, ev s x = ev s' x) → xs.toList.map (ev s) = xs.toList.map (ev s') := fun xs hx => List.map_congr_left fun x hm => hx x (by simpa using hm)
  have mo : ∀ xs : Option Operand, (∀ x ∈ xs, ev s x = ev s' x) → xs.map (ev s) = xs.map (ev s') := fun xs hx => by
    cases xs with
    | none => rfl
    | some x => simp [hx x (by simp)]
  cases op <;> simp only [Op.operands] at h <;> simp only [astep, aop]
  case call c =>
    unfold acall
    have hargs : c.args.toList.map (ev s) = c.args.toList.map (ev s') := ml _ fun x hx => h x (by simp [Call.operands, hx])
    have hargs' : c.args.toList.map (fun x => nrm (ev s x)) = c.args.toList.map (fun x => nrm (ev s' x)) := List.map_congr_left fun x hm => by rw [h x (by simp [Call.operands] ; exact .inr (by simpa using hm))]
    simp only [hargs, hargs']
    cases hc : c.callee with
    | value f => have hf : ev s f = ev s' f := h f (by simp [Call.operands, hc]); simp only [hf]
    | invoke r m => have hr : ev s r = ev s' r := h r (by simp [Call.operands, hc]); simp only [hr]
    | builtin b => rfl
  case build t ps =>
    unfold abuild
    simp only [afillK_eq]
    have : ∀ place z, afill place z (ev s) ps.toList = afill place z (ev s') ps.toList := fun place z => afill_congr fun p hp => h p.2 (by simp; exact ⟨p.1, by simpa using hp⟩)
    simp only [this]
  case buildSlice t n ps =>
    unfold abuildSlice
    simp only [afillK_eq]
    have : ∀ place z, afill place z (ev s) ps.toList = afill place z (ev s') ps.toList := fun place z => afill_congr fun p hp => h p.2 (by simp; exact ⟨p.1, by simpa using hp⟩)
    simp only [this]
  case makeFunc fn first captured =>
    rw [ml first fun x hx => h x (by simp [hx]), ml captured fun x hx => h x (by simp [hx])]
  case slice t x lo hi mx =>
    rw [h x (by simp), mo lo fun y hy => h y (by simp at hy; simp [hy]), mo hi fun y hy => h y (by simp at hy; simp [hy]), mo mx fun y hy => h y (by simp at hy; simp [hy])]
  case makeMap t r => cases r <;> rfl
  case next it b => cases b <;> simp_all
  all_goals (first | rfl | (simp_all; done))
def runIf : Bool → Bool → Dec
  | true, true => .run
  | false, false => .run
  | _, _ => .skip
/-- Is an operation carried out? -/
def askS (l : List Oper) (o : Oper) (s : St) : Dec := match o.guard with
  | none => .run
  | some (j, want) => match decide' (aguard l s j) want with
    | .ask b => runIf b want
    | d => d
theorem same.ask {s s' : St} (h : same s s') (l : List Oper) (o : Oper) : askS l o s = askS l o s' := by
  have : ∀ j, aguard l s j = aguard l s' j := fun j => by
    unfold aguard
    split
    · split
      · exact h _
      · rfl
    · rfl
  unfold askS
  simp only [this]
def dstOk (N : Nat) : Option Tmp → Bool
  | none => true
  | some d => Nat.ble (d + 1) N
/-- An operation leaves a value, and no object that is not told in it. -/
def YA (T : List TI) (P : Program) (N : Nat) (σ : Store) (l : List Oper) (o : Oper) (r : AV) (s : St) : Prop :=
  dstOk N o.dst = true ∧ ((askS l o s = .run ∧ astep T P s σ o.op (fun v σ' => FinMove σ v σ' r σ)) ∨ (askS l o s = .skip ∧ r = .tup []))
theorem YA.of_same {σ : Store} {l : List Oper} {o : Oper} {r : AV} {s s' : St} (h : YA T P N σ l o r s) (he : ∀ x ∈ o.op.operands, ev s x = ev s' x) (hw : askS l o s = askS l o s') : YA T P N σ l o r s' := by
  obtain ⟨h0, h⟩ := h
  refine ⟨h0, ?_⟩
  rw [← hw]
  rcases h with ⟨h1, h2⟩ | h
  · exact .inl ⟨h1, by rw [← astep_congr he]; exact h2⟩
  · exact .inr h
variable {σ : Store} {ops : Array Oper} {md : Region.Mode}
def qA (T : List TI) (P : Program) (N : Nat) (σ : Store) (ops : Array Oper) (i : Nat) (K : St → Prop) (s : St) : Prop :=
  match ops[i]? with
  | none => K s
  | some o => ∃ r, YA T P N σ ops.toList o r s ∧ K (putS o.dst r s)
theorem qA_mono {i : Nat} {s : St} {K K' : St → Prop} (h : ∀ s, K s → K' s) (hh : qA T P N σ ops i K s) : qA T P N σ ops i K' s := by
  unfold qA at *
  split
  · rename_i ho; simp only [ho] at hh; exact h _ hh
  · rename_i o ho
    simp only [ho] at hh
    obtain ⟨r, h1, h2⟩ := hh
    exact ⟨r, h1, h _ h2⟩
def anyA (T : List TI) (P : Program) (N : Nat) (σ : Store) (md : Region.Mode) (ops : Array Oper) (Q : St → Prop) : Nat → Array Bool → St → Prop
  | 0, listed, s => Region.ready md ops listed = [] ∧ Q s
  | fuel + 1, listed, s =>
    (Region.ready md ops listed = [] → Q s) ∧
    ∀ i ∈ Region.ready md ops listed, qA T P N σ ops i (anyA T P N σ md ops Q fuel (listed.setIfInBounds i true)) s
theorem qA_same {i : Nat} {s s' : St} {K : St → Prop} (hs : same s s') (hK : ∀ a b, same a b → K a → K b) (h : qA T P N σ ops i K s) : qA T P N σ ops i K s' := by
  unfold qA at *
  split
  · rename_i ho; simp only [ho] at h; exact hK _ _ hs h
  · rename_i o ho
    simp only [ho] at h
    obtain ⟨r, h1, h2⟩ := h
    exact ⟨r, h1.of_same (fun x _ => hs.ev x) (hs.ask _ _), hK _ _ (hs.put _ _) h2⟩
theorem anyA_same {Q : St → Prop} (hQ : ∀ a b, same a b → Q a → Q b) : ∀ (fuel : Nat) (listed : Array Bool) (s s' : St), same s s' → anyA T P N σ md ops Q fuel listed s → anyA T P N σ md ops Q fuel listed s'
  | 0, _, _, _, hs, h => ⟨h.1, hQ _ _ hs h.2⟩
  | fuel + 1, _, _, _, hs, h => ⟨fun h0 => hQ _ _ hs (h.1 h0), fun i hi => qA_same hs (fun a b hab => anyA_same hQ fuel _ a b hab) (h.2 i hi)⟩
theorem ev_put {s : St} {dst : Option Tmp} {v : AV} {x : Operand} (h : ∀ d, dst = some d → x ≠ .tmp d) : ev (putS dst v s) x = ev s x := by
  cases dst with
  | none => rfl
  | some d =>
    cases x with
    | tmp t =>
      have hne : d ≠ t := fun e => h d rfl (e ▸ rfl)
      exact look_cons_ne _ _ _ hne
    | _ => rfl
theorem op_put (o : Oper) (s : St) (dst : Option Tmp) (v : AV) (h : ∀ d, dst = some d → d ∉ o.looksAt ops) : ∀ x ∈ o.op.operands, ev (putS dst v s) x = ev s x := fun x hx =>
  ev_put fun d hd hxd => h d hd (by
    subst hxd
    exact List.mem_append_left _ (List.mem_filterMap.2 ⟨.tmp d, by simpa using hx, rfl⟩))
theorem ask_put (o : Oper) (s : St) (dst : Option Tmp) (v : AV) (h : ∀ d, dst = some d → d ∉ o.looksAt ops) : askS ops.toList o (putS dst v s) = askS ops.toList o s := by
  cases dst with
  | none => rfl
  | some d =>
    unfold askS
    cases hg : o.guard with
    | none => rfl
    | some gw =>
      obtain ⟨j, want⟩ := gw
      have : aguard ops.toList (putS (some d) v s) j = aguard ops.toList s j := by
        unfold aguard
        cases hj : ops.toList[j]? with
        | none => rfl
        | some oj =>
          dsimp only
          cases hd : oj.dst with
          | none => rfl
          | some t =>
            have hne : d ≠ t := fun e => h d rfl (by
              subst e
              have hj' : ops[j]? = some oj := by simpa using hj
              simp [Oper.looksAt, hg, hj', hd])
            exact look_cons_ne _ _ _ hne
      simp only [this]
theorem qA_put {j : Nat} {oi oj : Oper} {v : AV} (hj : ops[j]? = some oj) (hap : oi.apart ops oj = true) {K : St → Prop} (hK : ∀ a b, same a b → K a → K b) {s : St}
    (hy : YA T P N σ ops.toList oi v s) (h : qA T P N σ ops j K (putS oi.dst v s)) :
    qA T P N σ ops j (fun s' => YA T P N σ ops.toList oi v s' ∧ K (putS oi.dst v s')) s := by
  obtain ⟨h1, h2, h3⟩ := Oper.apart_spec hap
  unfold qA at *
  simp only [hj] at *
  obtain ⟨r, hr, hn⟩ := h
  refine ⟨r, hr.of_same (op_put oj s oi.dst v h1) (ask_put oj s oi.dst v h1), hy.of_same (fun x hx => (op_put oi s oj.dst r h3 x hx).symm) (ask_put oi s oj.dst r h3).symm, ?_⟩
  exact hK _ _ (put_comm s v r h2) hn
theorem anyA_first {Q : St → Prop} (hQ : ∀ a b, same a b → Q a → Q b) {i : Nat} {oi : Oper} {v : AV} (hi : ops[i]? = some oi) :
    ∀ (fuel : Nat) (listed : Array Bool) (s : St),
      (∀ j oj, ops[j]? = some oj → j ≠ i → listed.getD j true = false → (∀ e ∈ oj.after, Region.binds md e = true → e.on ≠ i) → oi.apart ops oj = true) →
      i ∈ Region.ready md ops listed → YA T P N σ ops.toList oi v s →
      anyA T P N σ md ops Q fuel (listed.setIfInBounds i true) (putS oi.dst v s) → anyA T P N σ md ops Q (fuel + 1) listed s := by
  have now : ∀ {s : St} {K : St → Prop}, YA T P N σ ops.toList oi v s → K (putS oi.dst v s) → qA T P N σ ops i K s := fun hy h => by
    unfold qA; simp only [hi]; exact ⟨v, hy, h⟩
  intro fuel
  induction fuel with
  | zero =>
    intro listed a _ hr hy H
    refine ⟨fun h => (by rw [h] at hr; cases hr), fun j hj => ?_⟩
    by_cases hji : j = i
    · subst hji; exact now hy H
    · have := ready_mono hj hji
      rw [H.1] at this
      cases this
  | succ fuel ih =>
    intro listed a hfree hr hy H
    refine ⟨fun h => (by rw [h] at hr; cases hr), fun j hj => ?_⟩
    by_cases hji : j = i
    · subst hji; exact now hy H
    · have h1 := H.2 j (ready_mono hj hji)
      obtain ⟨hjun, oj, hoj, hall⟩ := mem_ready.1 hj
      have hnot : ∀ e ∈ oj.after, Region.binds md e = true → e.on ≠ i := fun e he hb heq => by
        have h1 := hall e he hb
        have h0 := (mem_ready.1 hr).1
        rw [heq] at h1
        rcases Nat.lt_or_ge i listed.size with h' | h'
        · simp [h'] at h0 h1; rw [h0] at h1; cases h1
        · simp [Array.getElem?_eq_none h'] at h1
      have h2 := qA_put hoj (hfree j oj hoj hji hjun hnot) (fun a b hab => anyA_same hQ fuel _ a b hab) hy h1
      have hfree' : ∀ k ok, ops[k]? = some ok → k ≠ i → (listed.setIfInBounds j true).getD k true = false →
          (∀ e ∈ ok.after, Region.binds md e = true → e.on ≠ i) → oi.apart ops ok = true := fun k ok hk hki hun hno => by
        refine hfree k ok hk hki ?_ hno
        by_cases hjk : j = k
        · subst hjk; exact hjun
        · rw [getD_set_ne true hjk] at hun; exact hun
      refine qA_mono (fun a' h3 => ih (listed.setIfInBounds j true) a' hfree' (ready_mono hr (Ne.symm hji)) h3.1 ?_) h2
      rw [Array.setIfInBounds_comm _ _ hji]
      exact h3.2
/-- The walk in text order. -/
def qops (T : List TI) (P : Program) (N : Nat) (σ : Store) (l : List Oper) (Q : St → Prop) : List Oper → St → Prop
  | [], s => Q s
  | o :: rest, s => ∃ r, YA T P N σ l o r s ∧ qops T P N σ l Q rest (putS o.dst r s)
theorem anyA_lex {Q : St → Prop} (hQ : ∀ a b, same a b → Q a → Q b) : ∀ (l : List Oper) (k : Nat) (listed : Array Bool) (s : St), (∀ j, l[j]? = ops[k + j]?) →
    Region.lexFrom md ops l.length k listed = true → qops T P N σ ops.toList Q l s → anyA T P N σ md ops Q l.length listed s
  | [], _, _, _, _, hB, h => ⟨by simpa [Region.lexFrom] using hB, h⟩
  | o :: l, k, listed, s, hl, hB, h => by
    have h0 : ops[k]? = some o := by simpa using (hl 0).symm
    simp only [List.length_cons, Region.lexFrom, Bool.and_eq_true] at hB
    obtain ⟨⟨hr, hf⟩, hB'⟩ := hB
    obtain ⟨v, hy, hK⟩ := h
    exact anyA_first hQ h0 l.length listed s (Region.free_spec h0 hf) (by simpa using hr) hy
      (anyA_lex hQ l (k + 1) _ _ (fun j => by have := hl (j + 1); simpa [Nat.add_assoc, Nat.add_comm 1 j] using this) hB' hK)
/-- What an operation does, the machine does. -/
theorem YA_sound (hw : wfP P = true) {g : Ghost} {w : World} {s : St} {a : Act} {o : Oper} {r : AV} {K : Act → World → Prop} {Q : Exit → Act → World → Prop} {i : Nat} (hi : ops[i]? = some o) (h : YA (tabOf P) P N σ ops.toList o r s) (hT : RelT N g w s a) (R : StoreRel P g σ w)
    (hK : ∀ g' w' a', Ext g σ w g' σ w' → StoreRel P g' σ w' → RelT N g' w' (putS o.dst r s) a' → K a' w') : wpOp P ops Q i K a w := by
  obtain ⟨hN, h⟩ := h
  have put : ∀ {g' : Ghost} {w' : World} {v : Value}, RelT N g' w' s a → RepA g' w' r v → RelT N g' w' (putS o.dst r s) (a.put o.dst v) := by
    intro g' w' v hT' hr
    cases hd : o.dst with
    | none => exact hT'
    | some d =>
      rw [hd] at hN
      obtain ⟨s', h1, h2⟩ := put_ok (N := N) (dst := some d) (K := fun s' => s' = (d, r) :: s) hT' hr (by
        unfold aput
        have : Nat.ble (d + 1) N = true := hN
        simp only [this])
      subst h2; exact h1
  unfold wpOp
  simp only [hi]
  have run : askS ops.toList o s = .run → astep (tabOf P) P s σ o.op (fun v σ' => FinMove σ v σ' r σ) → o.wp P a w K Q := by
    intro _ hs
    have hup := step_sound hw hs hT R
    unfold Oper.wp
    generalize (execOp a.eval o).run P w = res at hup
    cases res with
    | halt x w' => exact hup.elim
    | ok n w' =>
      cases n with
      | value v =>
        obtain ⟨g', σ', r1, h1, h2, h3, h4⟩ := hup
        obtain ⟨g2, e1, e2, e3⟩ := h4 _ g g' w w' v R h1 h2 h3
        exact hK g2 w' _ e1 e2 (put (hT.mono (e1.keeps R)) e3)
      | skip =>
        obtain ⟨g', σ', h1, h2, h4⟩ := hup
        obtain ⟨g2, e1, e2, e3⟩ := h4 _ g g' w w' undef R h1 h2 (.top undef)
        exact hK g2 w' _ e1 e2 (put (hT.mono (e1.keeps R)) e3)
      | enter f args =>
        obtain ⟨hww, hc⟩ := hup
        replace hww := hww.symm
        subst hww
        refine hc.mono fun e w'' he => ?_
        obtain ⟨v, g', σ', r1, rfl, h1, h2, h3, h4⟩ := he
        obtain ⟨g2, e1, e2, e3⟩ := h4 _ g g' w w'' v R h1 h2 h3
        exact hK g2 w'' _ e1 e2 (put (hT.mono (e1.keeps R)) e3)
      | _ => exact hup.elim
  have skip : r = .tup [] → K (a.put o.dst undef) w := by
    rintro rfl
    exact hK g w _ (Ext.refl _ _ _) R (put hT (.tup [] #[] rfl (by simp) : RepA g w (.tup []) undef))
  -- the guard
  have slot : ∀ (j : Nat) (v : AV) (b : Bool), aguard ops.toList s j = v → (∀ u, RepA g w v u → u = .bool b) → v ≠ .top → yielded ops a.tmps j = some b := by
    intro j v b hv hvb hnt
    unfold aguard at hv
    unfold yielded
    simp only [Array.getElem?_toList] at hv
    cases hj : ops[j]? with
    | none => rw [hj] at hv; exact absurd hv.symm hnt
    | some oj =>
      rw [hj] at hv
      dsimp only at hv ⊢
      cases hd : oj.dst with
      | none => rw [hd] at hv; exact absurd hv.symm hnt
      | some d =>
        rw [hd] at hv
        dsimp only at hv ⊢
        have hrep := hT.rep d
        rw [hv] at hrep
        have hval := hvb _ hrep
        have hlt : d < a.tmps.size := by
          rcases Nat.lt_or_ge d a.tmps.size with h' | h'
          · exact h'
          · exfalso
            rw [Array.getD_eq_getD_getElem?, Array.getElem?_eq_none h'] at hval
            cases hval
        have hsome : a.tmps[d]? = some (.bool b) := by
          rw [Array.getD_eq_getD_getElem?, Array.getElem?_eq_getElem hlt] at hval
          rw [Array.getElem?_eq_getElem hlt]
          simpa using hval
        simp [hd, hsome]
  cases hg : o.guard with
  | none =>
    rw [if_pos (by simp [Region.wanted, hg])]
    rcases h with ⟨h1, h2⟩ | ⟨h1, _⟩
    · exact .inl (run h1 h2)
    · simp [askS, hg] at h1
  | some jw =>
    obtain ⟨j, want⟩ := jw
    have hwant : ∀ b, yielded ops a.tmps j = some b → Region.wanted o (yielded ops a.tmps) = (b == want) := by
      intro b hy
      simp only [Region.wanted, hg, hy]
      cases b <;> cases want <;> rfl
    have fin : ∀ b, yielded ops a.tmps j = some b → askS ops.toList o s = runIf b want → (if Region.wanted o (yielded ops a.tmps) then o.wp P a w K Q ∨ (o.asks P a w ∧ LetsOut Q) else K (a.put o.dst undef) w) := by
      intro b hy hd
      rw [hwant b hy]
      rw [hd] at h
      cases b <;> cases want <;> rcases h with ⟨h1, h2⟩ | ⟨h1, h2⟩ <;> first | (cases h1; done) | exact .inl (run hd h2) | exact skip h2
    cases hv : aguard ops.toList s j with
    | tt => exact fin true (slot j .tt true hv (fun u hu => by cases hu; rfl) (by simp)) (by simp only [askS, hg, hv, decide']; cases want <;> rfl)
    | ff => exact fin false (slot j .ff false hv (fun u hu => by cases hu; rfl) (by simp)) (by simp only [askS, hg, hv, decide']; cases want <;> rfl)
    | d x =>
      cases x with
      | bool b => exact fin b (slot j _ b hv (fun u hu => repA_bool hu) (by simp)) (by simp only [askS, hg, hv, decide'])
      | _ => rcases h with ⟨h1, _⟩ | ⟨h1, _⟩ <;> simp [askS, hg, hv, decide'] at h1
    | tup vs =>
      cases vs with
      | nil =>
        have hy : yielded ops a.tmps j = none := by
          unfold aguard at hv
          unfold yielded
          simp only [Array.getElem?_toList] at hv
          cases hj : ops[j]? with
          | none => rw [hj] at hv; cases hv
          | some oj =>
            rw [hj] at hv
            dsimp only at hv ⊢
            cases hd : oj.dst with
            | none => rw [hd] at hv; cases hv
            | some d =>
              rw [hd] at hv
              dsimp only at hv ⊢
              have hrep := hT.rep d
              rw [hv] at hrep
              generalize hu : a.tmps.getD d undef = u at hrep
              rw [Array.getD_eq_getD_getElem?] at hu
              simp only [Option.bind_some, hd]
              cases hrep with
              | tup _ cs hl _ =>
              cases ht : a.tmps[d]? with
              | none => rfl
              | some x => rw [ht] at hu; simp only [Option.getD_some] at hu; subst hu; rfl
        have hw0 : Region.wanted o (yielded ops a.tmps) = false := by simp [Region.wanted, hg, hy]
        rw [hw0, if_neg (by decide)]
        rcases h with ⟨h1, _⟩ | ⟨_, h2⟩
        · simp [askS, hg, hv, decide'] at h1
        · exact skip h2
      | cons x xs => rcases h with ⟨h1, _⟩ | ⟨h1, _⟩ <;> simp [askS, hg, hv, decide'] at h1
    | _ => rcases h with ⟨h1, _⟩ | ⟨h1, _⟩ <;> simp [askS, hg, hv, decide'] at h1
theorem RelT.same {g : Ghost} {w : World} {s s' : St} {a : Act} (h : RelT N g w s a) (hs : same s s') : RelT N g w s' a := ⟨h.size, h.defers, fun t => by rw [← hs t]; exact h.rep t⟩
theorem any_sound (hw : wfP P = true) {sm : St} {K : Exit → St → Store → Prop} (hK : K .normal sm σ) {g0 : Ghost} {w0 : World} (R0 : StoreRel P g0 σ w0) (hB : B ≤ g0.n) : ∀ (fuel : Nat) (listed : Array Bool) (s : St) (g : Ghost) (w : World) (a : Act),
    anyA (tabOf P) P N σ md ops (fun s => same s sm) fuel listed s → RelT N g w s a → StoreRel P g σ w → Ext g0 σ w0 g σ w → wpAny P md ops (Post (P := P) N B g0 σ w0 K) fuel listed a w
  | 0, _, s, g, w, a, h, hT, R, hE => ⟨h.1, sm, σ, g, hK, hT.same h.2, hE.toB hB, R⟩
  | fuel + 1, listed, s, g, w, a, h, hT, R, hE => by
    refine ⟨fun h0 => ⟨sm, σ, g, hK, hT.same (h.1 h0), hE.toB hB, R⟩, fun i hi => ?_⟩
    have hq := h.2 i hi
    cases ho : ops[i]? with
    | none =>
      unfold qA at hq
      simp only [ho] at hq
      unfold wpOp
      simp only [ho]
      exact any_sound hw hK R0 hB fuel _ s g w a hq hT R hE
    | some o =>
      unfold qA at hq
      simp only [ho] at hq
      obtain ⟨r, hy, hn⟩ := hq
      exact YA_sound hw ho hy hT R fun g' w' a' e1 e2 e3 => any_sound hw hK R0 hB fuel _ _ g' w' a' hn e3 e2 (hE.trans R0 e1)
/-- A REGION THAT DRAWS ITS ORDER: one walk in text order serves every order. -/
theorem drawnT (hw : wfP P = true) {T : List TI} (hT : tabOf P = T) {id : Nat} {K : Exit → St → Store → Prop} {s : St} (hm : P.follows .mixedOrders = true) (hL : Region.lexB .any ops = true)
    (h : qops T P N σ ops.toList (fun s => K .normal s σ) ops.toList s) : E P N B (.region id ops true) K s σ := fun g a w hB hR R => by
  subst hT
  simp only [Region.lexB, Bool.and_eq_true] at hL
  -- the last slots
  have last : ∀ (l : List Oper) (s : St), qops (tabOf P) P N σ ops.toList (fun s => K .normal s σ) l s → ∃ sm, K .normal sm σ ∧ qops (tabOf P) P N σ ops.toList (fun s => same s sm) l s := by
    intro l
    induction l with
    | nil => intro s h; exact ⟨s, h, same.refl s⟩
    | cons o l ih =>
      intro s h
      obtain ⟨r, h1, h2⟩ := h
      obtain ⟨sm, q1, q2⟩ := ih _ h2
      exact ⟨sm, q1, r, h1, q2⟩
  obtain ⟨sm, hK, hq⟩ := last _ _ h
  have := anyA_lex (md := .any) (fun a b hab ha => hab.symm.trans ha) ops.toList 0 (Array.replicate ops.size false) s (by simp) (by simpa using hL.2) hq
  refine wp_region_any hm ?_
  have hk : Keeps g w g { w with drawn := w.drawn + 1 } := ⟨Nat.le_refl _, fun _ _ => ⟨rfl, rfl, rfl⟩, fun b hb => ⟨hb, rfl⟩⟩
  have R' : StoreRel P g σ { w with drawn := w.drawn + 1 } := ⟨R.n, R.lt, R.owner, R.dead, fun i hi => (R.ob i hi).mono hk hi (fun b hb => ⟨hb, rfl⟩), glob_keep hk R.glob⟩
  have hR' : RelT N g { w with drawn := w.drawn + 1 } s a := hR.mono hk
  have hE' : Ext g σ w g σ { w with drawn := w.drawn + 1 } := ⟨Nat.le_refl _, fun _ _ => ⟨rfl, rfl, rfl⟩, fun _ _ h => h, Nat.le_refl _, fun _ _ _ => ⟨rfl, rfl⟩, rfl, rfl, rfl⟩
  have hsz : ops.toList.length = ops.size := by simp
  rw [hsz] at this
  exact any_sound (md := .any) hw hK R hB _ _ s g _ a this hR' R' hE'
/-- One operation of such a region. -/
theorem qstep {l : List Oper} {Q : St → Prop} {o : Oper} {rest : List Oper} {s : St} {r : AV} (hN : dstOk N o.dst = true) (hg : askS l o s = .run) (h : astep T P s σ o.op (fun v σ' => FinMove σ v σ' r σ)) (k : qops T P N σ l Q rest (putS o.dst r s)) :
    qops T P N σ l Q (o :: rest) s := ⟨r, ⟨hN, .inl ⟨hg, h⟩⟩, k⟩
theorem qskip {l : List Oper} {Q : St → Prop} {o : Oper} {rest : List Oper} {s : St} (hN : dstOk N o.dst = true) (hg : askS l o s = .skip) (k : qops T P N σ l Q rest (putS o.dst (.tup []) s)) :
    qops T P N σ l Q (o :: rest) s := ⟨.tup [], ⟨hN, .inr ⟨hg, rfl⟩⟩, k⟩
theorem fin_lit {σ : Store} {n : Nat} {sz : Nat × Nat} {rs : List (List AV)} {ds : List (List D)} {len : Nat} (hn : n = σ.n) (hds : rowsD rs = some ds) (hl : len = ds.length) (ho : orelS (phi σ.n []) ⟨σ.n + 1, (σ.n, .dead) :: (σ.n, .rows sz rs) :: σ.objs⟩ σ.objs) : FinMove σ (.own n 0 len) ⟨σ.n + 1, (n, .rows sz rs) :: σ.objs⟩ (.d (.sl ds)) σ := by
  subst hn
  have hd := (rowsD_get hds).1
  have hg : (⟨σ.n + 1, (σ.n, .rows sz rs) :: σ.objs⟩ : Store).get σ.n = .rows sz rs := look_cons_same _ _ _ _
  have h1 := fin_freeze (σ0 := σ) (σ := ⟨σ.n + 1, (σ.n, .rows sz rs) :: σ.objs⟩) (r := .own σ.n 0 len) σ.n hg hds (fun _ => by omega)
  rw [frz_whole σ.n ds len hl] at h1
  exact h1.trans (fin_mv [] (Nat.ble_eq_true_of_le (Nat.le_succ _)) rfl rfl ho rfl)
end
end Go.Aw

namespace Go.Aw
set_option linter.unusedVariables false
set_option linter.unusedSimpArgs false
section
variable {T : List TI} {P : Program} {N B : Nat} {ops : Array Oper} {md : Region.Mode}
/-- Does an operation wait for another one? -/
def waits (md : Region.Mode) (o : Oper) (i : Nat) : Bool := o.after.any fun e => Region.binds md e && Nat.beq e.on i
def waitsAt (md : Region.Mode) (ops : Array Oper) (e i : Nat) : Bool := match ops[e]? with
  | some o => waits md o i
  | none => false
/-- What an operation waits for, at first or at last. -/
def ancs (md : Region.Mode) (ops : Array Oper) : List Nat → List Nat → List Nat
  | [], acc => acc
  | j :: js, acc => match acc.any fun k => waitsAt md ops k j with
    | true => ancs md ops js (j :: acc)
    | false => ancs md ops js acc
def waitsT (md : Region.Mode) (ops : Array Oper) (e i : Nat) : Bool := (ancs md ops (List.range e).reverse [e]).contains i && !Nat.beq i e
/-- May an operation come up when so many changes are done: it waits for none that comes later, and none that is done waits for it. -/
def mayAt (md : Region.Mode) (ops : Array Oper) (eff : List Nat) (i : Nat) (t : Nat) : Bool :=
  (eff.drop t).all (fun e => !waitsT md ops i e) && (eff.take t).all (fun e => !waitsT md ops e i)
/-- What is listed has all listed that it waits for. -/
def Closed (md : Region.Mode) (ops : Array Oper) (listed : Array Bool) : Prop := ∀ (x : Nat) (o : Oper), ops[x]? = some o → listed.getD x false = true → ∀ e ∈ o.after, Region.binds md e = true → listed.getD e.on false = true
theorem getD_set_mono {listed : Array Bool} {i k : Nat} (h : listed.getD k false = true) : (listed.setIfInBounds i true).getD k false = true := by
  simp only [Array.getD_eq_getD_getElem?, Array.getElem?_setIfInBounds] at h ⊢
  split
  · split
    · rfl
    · rename_i h1 h2
      subst h1
      rw [Array.getElem?_eq_none (by omega)] at h
      exact h
  · exact h
theorem Closed.set {listed : Array Bool} (hcl : Closed md ops listed) {i : Nat} (hi : i ∈ Region.ready md ops listed) : Closed md ops (listed.setIfInBounds i true) := by
  obtain ⟨hiun, oi, hoi, hall⟩ := mem_ready.1 hi
  intro x o hx hl e he hb
  refine getD_set_mono ?_
  by_cases hxi : x = i
  · subst hxi
    rw [hoi] at hx; cases hx
    exact hall e he hb
  · refine hcl x o hx ?_ e he hb
    rwa [getD_set_ne false (Ne.symm hxi)] at hl
/-- What an operation does to the stores of a chain. -/
def YE (T : List TI) (P : Program) (N : Nat) (σ σ' : Store) (l : List Oper) (o : Oper) (r : AV) (s : St) : Prop :=
  dstOk N o.dst = true ∧ askS l o s = .run ∧ astep T P s σ o.op (fun v σ1 => FinMove σ v σ1 r σ')
theorem YE.of_same {σ σ' : Store} {l : List Oper} {o : Oper} {r : AV} {s s' : St} (h : YE T P N σ σ' l o r s) (he : ∀ x ∈ o.op.operands, ev s x = ev s' x) (hw : askS l o s = askS l o s') : YE T P N σ σ' l o r s' :=
  ⟨h.1, by rw [← hw]; exact h.2.1, by rw [← astep_congr he]; exact h.2.2⟩
/-- Operation i at a time t: either the next change, or quiet in every store in which it may come up. -/
def ZA (T : List TI) (P : Program) (N : Nat) (md : Region.Mode) (ops : Array Oper) (eff : List Nat) (σs : Nat → Store) (i : Nat) (o : Oper) (r : AV) (s : St) (t t' : Nat) : Prop :=
  (eff[t]? = some i ∧ t' = t + 1 ∧ YE T P N (σs t) (σs (t + 1)) ops.toList o r s) ∨
  (i ∉ eff ∧ t' = t ∧ mayAt md ops eff i t = true ∧ ∀ u, u ≤ eff.length → mayAt md ops eff i u = true → YA T P N (σs u) ops.toList o r s)
variable {eff : List Nat} {σs : Nat → Store}
theorem ZA.of_same {i : Nat} {o : Oper} {r : AV} {s s' : St} {t t' : Nat} (h : ZA T P N md ops eff σs i o r s t t') (he : ∀ x ∈ o.op.operands, ev s x = ev s' x) (hw : askS ops.toList o s = askS ops.toList o s') : ZA T P N md ops eff σs i o r s' t t' := by
  rcases h with ⟨h1, h2, h3⟩ | ⟨h1, h2, h3, h4⟩
  · exact .inl ⟨h1, h2, h3.of_same he hw⟩
  · exact .inr ⟨h1, h2, h3, fun u hu hm => (h4 u hu hm).of_same he hw⟩
/-- A change, carried out. -/
theorem YE_sound (hw : wfP P = true) {g : Ghost} {w : World} {σ σ' : Store} {s : St} {a : Act} {o : Oper} {r : AV} {K : Act → World → Prop} {Q : Exit → Act → World → Prop} {i : Nat} (hi : ops[i]? = some o) (h : YE (tabOf P) P N σ σ' ops.toList o r s) (hT : RelT N g w s a) (R : StoreRel P g σ w)
    (hK : ∀ g' w' a', Ext g σ w g' σ' w' → StoreRel P g' σ' w' → RelT N g' w' (putS o.dst r s) a' → K a' w') : wpOp P ops Q i K a w := by
  obtain ⟨hN, hrun, hs⟩ := h
  -- as a quiet one: the guard
  have put : ∀ {g' : Ghost} {w' : World} {v : Value}, RelT N g' w' s a → RepA g' w' r v → RelT N g' w' (putS o.dst r s) (a.put o.dst v) := by
    intro g' w' v hT' hr
    cases hd : o.dst with
    | none => exact hT'
    | some d =>
      rw [hd] at hN
      obtain ⟨s', h1, h2⟩ := put_ok (N := N) (dst := some d) (K := fun s' => s' = (d, r) :: s) hT' hr (by
        unfold aput
        have : Nat.ble (d + 1) N = true := hN
        simp only [this])
      subst h2; exact h1
  have hwant : Region.wanted o (yielded ops a.tmps) = true := by
    cases hg : o.guard with
    | none => simp [Region.wanted, hg]
    | some jw =>
      obtain ⟨j, want⟩ := jw
      have slot : ∀ (v : AV) (b : Bool), aguard ops.toList s j = v → (∀ u, RepA g w v u → u = .bool b) → v ≠ .top → yielded ops a.tmps j = some b := by
        intro v b hv hvb hnt
        unfold aguard at hv
        unfold yielded
        simp only [Array.getElem?_toList] at hv
        cases hj : ops[j]? with
        | none => rw [hj] at hv; exact absurd hv.symm hnt
        | some oj =>
          rw [hj] at hv
          dsimp only at hv ⊢
          cases hd : oj.dst with
          | none => rw [hd] at hv; exact absurd hv.symm hnt
          | some d =>
            rw [hd] at hv
            dsimp only at hv ⊢
            have hrep := hT.rep d
            rw [hv] at hrep
            have hval := hvb _ hrep
            have hlt : d < a.tmps.size := by
              rcases Nat.lt_or_ge d a.tmps.size with h' | h'
              · exact h'
              · exfalso
                rw [Array.getD_eq_getD_getElem?, Array.getElem?_eq_none h'] at hval
                cases hval
            have hsome : a.tmps[d]? = some (.bool b) := by
              rw [Array.getD_eq_getD_getElem?, Array.getElem?_eq_getElem hlt] at hval
              rw [Array.getElem?_eq_getElem hlt]
              simpa using hval
            simp [hd, hsome]
      have fin : ∀ b, yielded ops a.tmps j = some b → runIf b want = .run → Region.wanted o (yielded ops a.tmps) = true := by
        intro b hy hd
        simp only [Region.wanted, hg, hy]
        cases b <;> cases want <;> first | rfl | cases hd
      unfold askS at hrun
      rw [hg] at hrun
      dsimp only at hrun
      cases hv : aguard ops.toList s j with
      | tt => rw [hv] at hrun; exact fin true (slot .tt true hv (fun u hu => by cases hu; rfl) (by simp)) (by cases want <;> first | rfl | cases hrun)
      | ff => rw [hv] at hrun; exact fin false (slot .ff false hv (fun u hu => by cases hu; rfl) (by simp)) (by cases want <;> first | rfl | cases hrun)
      | d x =>
        rw [hv] at hrun
        cases x with
        | bool b => exact fin b (slot _ b hv (fun u hu => repA_bool hu) (by simp)) hrun
        | _ => cases hrun
      | tup vs => rw [hv] at hrun; cases vs <;> cases hrun
      | _ => rw [hv] at hrun; cases hrun
  unfold wpOp
  simp only [hi]
  rw [hwant, if_pos rfl]
  refine .inl ?_
  have hup := step_sound hw hs hT R
  unfold Oper.wp
  generalize (execOp a.eval o).run P w = res at hup
  cases res with
  | halt x w' => exact hup.elim
  | ok n w' =>
    cases n with
    | value v =>
      obtain ⟨g', σ1, r1, h1, h2, h3, h4⟩ := hup
      obtain ⟨g2, e1, e2, e3⟩ := h4 _ g g' w w' v R h1 h2 h3
      exact hK g2 w' _ e1 e2 (put (hT.mono (e1.keeps R)) e3)
    | skip =>
      obtain ⟨g', σ1, h1, h2, h4⟩ := hup
      obtain ⟨g2, e1, e2, e3⟩ := h4 _ g g' w w' undef R h1 h2 (.top undef)
      exact hK g2 w' _ e1 e2 (put (hT.mono (e1.keeps R)) e3)
    | enter f args =>
      obtain ⟨hww, hc⟩ := hup
      replace hww := hww.symm
      subst hww
      refine hc.mono fun e w'' he => ?_
      obtain ⟨v, g', σ1, r1, rfl, h1, h2, h3, h4⟩ := he
      obtain ⟨g2, e1, e2, e3⟩ := h4 _ g g' w w'' v R h1 h2 h3
      exact hK g2 w'' _ e1 e2 (put (hT.mono (e1.keeps R)) e3)
    | _ => exact hup.elim
/-- A region in text order, each operation's result being told as one likes. -/
def pops (T : List TI) (P : Program) (N : Nat) (l : List Oper) (Q : St → Store → Prop) : List Oper → St → Store → Prop
  | [], s, σ => Q s σ
  | o :: rest, s, σ => (∃ r σ2, YE T P N σ σ2 l o r s ∧ pops T P N l Q rest (putS o.dst r s) σ2) ∨ (YA T P N σ l o (.tup []) s ∧ pops T P N l Q rest (putS o.dst (.tup []) s) σ)
theorem pops_sound (hw : wfP P = true) {K : Exit → St → Store → Prop} {g0 : Ghost} {σ0 : Store} {w0 : World} (R0 : StoreRel P g0 σ0 w0) (hB : B ≤ g0.n) : ∀ (l : List Oper) (k : Nat) (s : St) (σ : Store) (g : Ghost) (w : World) (a : Act), (∀ j, l[j]? = ops[k + j]?) →
    pops (tabOf P) P N ops.toList (fun s σ => K .normal s σ) l s σ → RelT N g w s a → StoreRel P g σ w → Ext g0 σ0 w0 g σ w → wpOps P ops (Post (P := P) N B g0 σ0 w0 K) (List.range' k l.length) a w
  | [], k, s, σ, g, w, a, _, h, hT, R, hE => ⟨s, σ, g, h, hT, hE.toB hB, R⟩
  | o :: rest, k, s, σ, g, w, a, hl, h, hT, R, hE => by
    have ho : ops[k]? = some o := by have := hl 0; simpa using this.symm
    have hl' : ∀ j, rest[j]? = ops[k + 1 + j]? := fun j => by have := hl (j + 1); simpa [Nat.add_assoc, Nat.add_comm 1 j] using this
    rw [List.length_cons, List.range'_succ, wpOps_cons]
    rcases h with ⟨r, σ2, hy, hn⟩ | ⟨hy, hn⟩
    · exact YE_sound hw ho hy hT R fun g' w' a' e1 e2 e3 => pops_sound hw R0 hB rest (k + 1) _ σ2 g' w' a' hl' hn e3 e2 (hE.trans R0 e1)
    · exact YA_sound hw ho hy hT R fun g' w' a' e1 e2 e3 => pops_sound hw R0 hB rest (k + 1) _ σ g' w' a' hl' hn e3 e2 (hE.trans R0 e1)
theorem textT (hw : wfP P = true) {T : List TI} (hT : tabOf P = T) {id : Nat} {K : Exit → St → Store → Prop} {s : St} {σ : Store} (h : pops T P N ops.toList (fun s σ => K .normal s σ) ops.toList s σ) : E P N B (.region id ops false) K s σ := fun g a w hB hR R => by
  subst hT
  refine wp_region ?_
  have := pops_sound (B := B) hw R hB ops.toList 0 s σ g w a (fun j => by simp) h hR R (Ext.refl _ _ _)
  rw [List.range_eq_range']
  simpa using this
theorem pstep {l : List Oper} {Q : St → Store → Prop} {o : Oper} {rest : List Oper} {s : St} {σ : Store} {r : AV} (σ2 : Store) (hN : dstOk N o.dst = true) (hg : askS l o s = .run) (h : astep T P s σ o.op (fun v σ' => FinMove σ v σ' r σ2)) (k : pops T P N l Q rest (putS o.dst r s) σ2) :
    pops T P N l Q (o :: rest) s σ := .inl ⟨r, σ2, ⟨hN, hg, h⟩, k⟩
end
end Go.Aw
