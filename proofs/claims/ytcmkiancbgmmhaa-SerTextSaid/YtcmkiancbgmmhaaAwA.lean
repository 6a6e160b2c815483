/- The abstract walk, tenth part: objects told by other numbers; a call over few objects, used where there are more. -/
import Derived.Test.YtcmkiancbgmmhaaAw9
namespace Go.Aw
set_option linter.unusedVariables false
set_option linter.unusedSimpArgs false

/-- Where an object of a new telling was before: an object by its old number, or no rows at all. -/
inductive VE where
  | old (k : Nat)
  | phan (sz : Nat)

def nthE : List VE → Nat → Option VE
  | [], _ => none
  | e :: _, 0 => some e
  | _ :: r, n + 1 => nthE r n
def phi (B : Nat) (r : List VE) (i : Nat) : Option VE := match Nat.ble B i with
  | false => some (.old i)
  | true => nthE r (i - B)

def drel (x : D) : AV → Prop
  | .d y => x = y
  | .tt => x = .bool true
  | .ff => x = .bool false
  | .nil => x = .sl []
  | .dt rows => x = .sl rows
  | _ => False
def isPhan : Option VE → Bool
  | some (.phan _) => true
  | _ => false
mutual
/-- A new value tells of what an old one told of. -/
def vrel (f : Nat → Option VE) : AV → AV → Prop
  | .top, _ => True
  | .tt, b => (match b with | .tt => True | _ => False)
  | .ff, b => (match b with | .ff => True | _ => False)
  | .d x, b => drel x b
  | .nil, b => (match b with | .nil => True | _ => False)
  | .ref i r c, b => (match b with | .ref k r' c' => f i = some (.old k) ∧ r = r' ∧ c = c' | _ => False)
  | .nilp, b => (match b with | .nilp => True | _ => False)
  | .ip row c, b => (match b with | .ip row' c' => row = row' ∧ c = c' | _ => False)
  | .own i lo len, b => (match b with | .own k lo' len' => f i = some (.old k) ∧ lo = lo' ∧ len = len' | .nil => isPhan (f i) = true ∧ lo = 0 ∧ len = 0 | _ => False)
  | .tight i lo len, b => (match b with | .tight k lo' len' => f i = some (.old k) ∧ lo = lo' ∧ len = len' | _ => False)
  | .dt rows, b => (match b with | .dt rows' => rows = rows' | .nil => rows = [] | _ => False)
  | .mp i, b => (match b with | .mp k => f i = some (.old k) | _ => False)
  | .fn h a c, b => (match b with | .fn h' a' c' => h = h' ∧ vrelL f a a' ∧ vrelL f c c' | _ => False)
  | .nilf, b => (match b with | .nilf => True | _ => False)
  | .ifc t v, b => (match b with | .ifc t' v' => t = t' ∧ vrel f v v' | _ => False)
  | .nili, b => (match b with | .nili => True | _ => False)
  | .agg vs, b => (match b with | .agg us => vrelL f vs us | _ => False)
  | .tup vs, b => (match b with | .tup us => vrelL f vs us | _ => False)
def vrelL (f : Nat → Option VE) : List AV → List AV → Prop
  | [], b => (match b with | [] => True | _ => False)
  | a :: r, b => (match b with | c :: q => vrel f a c ∧ vrelL f r q | _ => False)
end
theorem vrelL_len {f : Nat → Option VE} : ∀ {as bs : List AV}, vrelL f as bs → as.length = bs.length
  | [], [], _ => rfl
  | a :: as, b :: bs, h => by simp [vrelL_len h.2]
  | [], b :: bs, h => h.elim
  | a :: as, [], h => h.elim
theorem vrelL_get {f : Nat → Option VE} : ∀ {as bs : List AV} {i : Nat} {a : AV}, vrelL f as bs → as[i]? = some a → ∃ b, bs[i]? = some b ∧ vrel f a b
  | [], [], i, a, _, ha => by simp at ha
  | x :: as, y :: bs, 0, a, h, ha => by simp at ha; subst ha; exact ⟨y, by simp, h.1⟩
  | x :: as, y :: bs, i + 1, a, h, ha => by simp at ha; simpa using vrelL_get h.2 ha
  | [], b :: bs, i, a, h, _ => h.elim
  | a :: as, [], i, _, h, _ => h.elim

mutual
/-- Does a value name no object? -/
def AV.pure : AV → Bool
  | .ref _ _ _ => false
  | .own _ _ _ => false
  | .tight _ _ _ => false
  | .mp _ => false
  | .fn _ a b => pureL a && pureL b
  | .ifc _ v => v.pure
  | .agg vs => pureL vs
  | .tup vs => pureL vs
  | _ => true
def pureL : List AV → Bool
  | [] => true
  | a :: r => a.pure && pureL r
end
theorem pureL_get {l : List AV} {i : Nat} {a : AV} (h : pureL l = true) (hi : l[i]? = some a) : a.pure = true := by
  induction l generalizing i with
  | nil => simp at hi
  | cons x l ih =>
    simp [pureL] at h
    cases i with
    | zero => simp at hi; subst hi; exact h.1
    | succ i => simp at hi; exact ih h.2 hi
mutual
theorem vrel_self {f : Nat → Option VE} : ∀ (a : AV), a.pure = true → vrel f a a
  | .top, _ => trivial
  | .tt, _ => trivial
  | .ff, _ => trivial
  | .d x, _ => rfl
  | .nil, _ => trivial
  | .ref _ _ _, h => by cases h
  | .nilp, _ => trivial
  | .ip _ _, _ => ⟨rfl, rfl⟩
  | .own _ _ _, h => by cases h
  | .tight _ _ _, h => by cases h
  | .dt _, _ => rfl
  | .mp _, h => by cases h
  | .fn _ a b, h => by
    simp [AV.pure] at h
    exact ⟨rfl, vrelL_self a h.1, vrelL_self b h.2⟩
  | .nilf, _ => trivial
  | .ifc t v, h => ⟨rfl, vrel_self v h⟩
  | .nili, _ => trivial
  | .agg vs, h => vrelL_self vs h
  | .tup vs, h => vrelL_self vs h
theorem vrelL_self {f : Nat → Option VE} : ∀ (l : List AV), pureL l = true → vrelL f l l
  | [], _ => trivial
  | a :: r, h => by
    simp [pureL] at h
    exact ⟨vrel_self a h.1, vrelL_self r h.2⟩
end

/-- From one ghost to another. -/
structure Tr (f : Nat → Option VE) (g g' : Ghost) : Prop where
  old : ∀ i k, f i = some (.old k) → k < g.n → i < g'.n ∧ g'.blk i = g.blk k ∧ g'.sz i = g.sz k ∧ g'.cap i = g.cap k
  phan : ∀ i sz, f i = some (.phan sz) → i < g'.n ∧ g'.sz i = sz ∧ g'.cap i = 0
  imm : ∀ b, g.imm b → g'.imm b

theorem RepA.tr {f : Nat → Option VE} {g g' : Ghost} {w : World} (t : Tr f g g') {a : AV} {v : Value} (h : RepA g w a v) : ∀ a', vrel f a' a → RepA g' w a' v := by
  have hm : ∀ {x : D} {v : Value}, RepD g.imm w x v → RepD g'.imm w x v := fun h => h.mono fun b hb => ⟨t.imm b hb, rfl⟩
  have hd : ∀ {a : AV} {v : Value} {x : D}, RepA g w a v → drel x a → RepA g' w (.d x) v := by
    intro a v x h hx
    cases a <;> simp only [drel] at hx <;> (try exact hx.elim) <;> subst hx <;> cases h
    · exact .d (.bool _)
    · exact .d (.bool _)
    · rename_i h; exact .d (hm h)
    · exact .d (.sl0 _ _)
    · rename_i h; exact .d (hm h)
  induction h with
  | top v => intro a' h; cases a' <;> simp only [vrel, drel] at h <;> first | exact h.elim | exact .top v
  | tt => intro a' h; cases a' <;> simp only [vrel] at h <;> first | exact h.elim | exact .top _ | exact .tt | exact hd .tt h
  | ff => intro a' h; cases a' <;> simp only [vrel] at h <;> first | exact h.elim | exact .top _ | exact .ff | exact hd .ff h
  | d hx => intro a' h; cases a' <;> simp only [vrel] at h <;> first | exact h.elim | exact .top _ | exact hd (.d hx) h
  | nil =>
    intro a' h; cases a' <;> simp only [vrel] at h
    case own i lo len =>
      obtain ⟨h1, rfl, rfl⟩ := h
      cases hf : f i with
      | none => rw [hf] at h1; cases h1
      | some e => cases e with
        | old k => rw [hf] at h1; cases h1
        | phan sz => exact .own0 i 0 (t.phan i sz hf).1
    case dt rows => subst h; exact .dt [] none (.sl0 _ _)
    all_goals first | exact h.elim | exact .top _ | exact .nil | exact hd .nil h
  | ref i r c hi =>
    intro a' h; cases a' <;> simp only [vrel, drel] at h
    case ref j r' c' =>
      obtain ⟨h1, rfl, rfl⟩ := h
      obtain ⟨q1, q2, q3, q4⟩ := t.old j i h1 hi
      rw [← q2, ← q3]; exact .ref j _ _ q1
    all_goals first | exact h.elim | exact .top _
  | nilp => intro a' h; cases a' <;> simp only [vrel, drel] at h <;> first | exact h.elim | exact .top _ | exact .nilp
  | ip row c b o k hI hc hr =>
    intro a' h; cases a' <;> simp only [vrel, drel] at h
    case ip row' c' =>
      obtain ⟨rfl, rfl⟩ := h
      exact .ip _ _ b o k (t.imm b hI) hc (fun j x hj => hm (hr j x hj))
    all_goals first | exact h.elim | exact .top _
  | own i lo len cap hi hc hl =>
    intro a' h; cases a' <;> simp only [vrel, drel] at h
    case own j lo' len' =>
      obtain ⟨h1, rfl, rfl⟩ := h
      obtain ⟨q1, q2, q3, q4⟩ := t.old j i h1 hi
      rw [← q2, ← q3]; exact .own j _ _ cap q1 (by rw [q4]; exact hc) hl
    all_goals first | exact h.elim | exact .top _
  | own0 i lo hi =>
    intro a' h; cases a' <;> simp only [vrel, drel] at h
    case own j lo' len' =>
      obtain ⟨h1, rfl, rfl⟩ := h
      exact .own0 j _ (t.old j i h1 hi).1
    all_goals first | exact h.elim | exact .top _
  | tight i lo len hi =>
    intro a' h; cases a' <;> simp only [vrel, drel] at h
    case tight j lo' len' =>
      obtain ⟨h1, rfl, rfl⟩ := h
      obtain ⟨q1, q2, q3, q4⟩ := t.old j i h1 hi
      rw [← q2, ← q3]; exact .tight j _ _ q1
    all_goals first | exact h.elim | exact .top _
  | tight0 i lo hi =>
    intro a' h; cases a' <;> simp only [vrel, drel] at h
    case tight j lo' len' =>
      obtain ⟨h1, rfl, rfl⟩ := h
      exact .tight0 j _ (t.old j i h1 hi).1
    all_goals first | exact h.elim | exact .top _
  | dt rows a hx =>
    intro a' h; cases a' <;> simp only [vrel, drel] at h
    case dt rows' => subst h; exact .dt _ a (hm hx)
    case d x => subst h; exact .d (hm hx)
    all_goals first | exact h.elim | exact .top _
  | mp i hi =>
    intro a' h; cases a' <;> simp only [vrel, drel] at h
    case mp j =>
      obtain ⟨q1, q2, q3, q4⟩ := t.old j i h hi
      rw [← q2]; exact .mp j q1
    all_goals first | exact h.elim | exact .top _
  | fn k first captured vf vc hf hc rf rc ihf ihc =>
    intro a' h; cases a' <;> simp only [vrel, drel] at h
    case fn k' a c =>
      obtain ⟨rfl, h1, h2⟩ := h
      refine .fn _ _ _ vf vc ((vrelL_len h1).trans hf) ((vrelL_len h2).trans hc) (fun i x v hx hv => ?_) (fun i x v hx hv => ?_)
      · obtain ⟨y, hy, hxy⟩ := vrelL_get h1 hx
        exact ihf i y v hy hv x hxy
      · obtain ⟨y, hy, hxy⟩ := vrelL_get h2 hx
        exact ihc i y v hy hv x hxy
    all_goals first | exact h.elim | exact .top _
  | nilf => intro a' h; cases a' <;> simp only [vrel, drel] at h <;> first | exact h.elim | exact .top _ | exact .nilf
  | ifc ty a v hx ih =>
    intro a' h; cases a' <;> simp only [vrel, drel] at h
    case ifc ty' b => obtain ⟨rfl, h1⟩ := h; exact .ifc _ _ v (ih b h1)
    all_goals first | exact h.elim | exact .top _
  | nili => intro a' h; cases a' <;> simp only [vrel, drel] at h <;> first | exact h.elim | exact .top _ | exact .nili
  | agg vs cs hl hx ih =>
    intro a' h; cases a' <;> simp only [vrel, drel] at h
    case agg us =>
      refine .agg _ cs ((vrelL_len h).trans hl) (fun i x v hx hv => ?_)
      obtain ⟨y, hy, hxy⟩ := vrelL_get h hx
      exact ih i y v hy hv x hxy
    all_goals first | exact h.elim | exact .top _
  | tup vs cs hl hx ih =>
    intro a' h; cases a' <;> simp only [vrel, drel] at h
    case tup us =>
      refine .tup _ cs ((vrelL_len h).trans hl) (fun i x v hx hv => ?_)
      obtain ⟨y, hy, hxy⟩ := vrelL_get h hx
      exact ih i y v hy hv x hxy
    all_goals first | exact h.elim | exact .top _

theorem RepL.tr {f : Nat → Option VE} {g g' : Ghost} {w : World} (t : Tr f g g') {as bs : List AV} {vs : List Value} (h : RepL g w as vs) (hr : vrelL f bs as) : RepL g' w bs vs :=
  ⟨(vrelL_len hr).trans h.1, fun i a v ha hv => by
    obtain ⟨b, hb, hab⟩ := vrelL_get hr ha
    exact (h.2 i b v hb hv).tr t a hab⟩

def rrel (f : Nat → Option VE) : List (List AV) → List (List AV) → Prop
  | [], b => (match b with | [] => True | _ => False)
  | a :: r, b => (match b with | c :: q => vrelL f a c ∧ rrel f r q | _ => False)
theorem rrel_len {f : Nat → Option VE} : ∀ {as bs : List (List AV)}, rrel f as bs → as.length = bs.length
  | [], [], _ => rfl
  | a :: as, b :: bs, h => by simp [rrel_len h.2]
  | [], b :: bs, h => h.elim
  | a :: as, [], h => h.elim
theorem rrel_get {f : Nat → Option VE} : ∀ {as bs : List (List AV)} {i : Nat} {a : List AV}, rrel f as bs → as[i]? = some a → ∃ b, bs[i]? = some b ∧ vrelL f a b
  | [], [], i, a, _, ha => by simp at ha
  | x :: as, y :: bs, 0, a, h, ha => by simp at ha; subst ha; exact ⟨y, by simp, h.1⟩
  | x :: as, y :: bs, i + 1, a, h, ha => by simp at ha; simpa using rrel_get h.2 ha
  | [], b :: bs, i, a, h, _ => h.elim
  | a :: as, [], i, _, h, _ => h.elim
def mrel (f : Nat → Option VE) : List (AV × AV) → List (AV × AV) → Prop
  | [], b => (match b with | [] => True | _ => False)
  | a :: r, b => (match b with | c :: q => vrel f a.1 c.1 ∧ vrel f a.2 c.2 ∧ mrel f r q | _ => False)
theorem mrel_len {f : Nat → Option VE} : ∀ {as bs : List (AV × AV)}, mrel f as bs → as.length = bs.length
  | [], [], _ => rfl
  | a :: as, b :: bs, h => by simp [mrel_len h.2.2]
  | [], b :: bs, h => h.elim
  | a :: as, [], h => h.elim
theorem mrel_get {f : Nat → Option VE} : ∀ {as bs : List (AV × AV)} {i : Nat} {a : AV × AV}, mrel f as bs → as[i]? = some a → ∃ b, bs[i]? = some b ∧ vrel f a.1 b.1 ∧ vrel f a.2 b.2
  | [], [], i, a, _, ha => by simp at ha
  | x :: as, y :: bs, 0, a, h, ha => by simp at ha; subst ha; exact ⟨y, by simp, h.1, h.2.1⟩
  | x :: as, y :: bs, i + 1, a, h, ha => by simp at ha; simpa using mrel_get h.2.2 ha
  | [], b :: bs, i, a, h, _ => h.elim
  | a :: as, [], i, _, h, _ => h.elim

/-- A new object tells of what an old one told of. -/
def orel (f : Nat → Option VE) : Ob → Ob → Prop
  | .dead, _ => True
  | .rows sz rs, b => (match b with | .rows sz' rs' => sz = sz' ∧ ((rs = rs' ∧ ∀ row ∈ rs, pureL row = true) ∨ rrel f rs rs') | _ => False)
  | .map es, b => (match b with | .map es' => (es = es' ∧ ∀ e ∈ es, e.1.pure = true ∧ e.2.pure = true) ∨ mrel f es es' | _ => False)
  | .iter s p, b => (match b with | .iter s' p' => s = s' ∧ p = p' | _ => False)
  | .bld T U s, b => (match b with | .bld T' U' s' => T = T' ∧ U = U' ∧ s = s' | _ => False)
  | .two T x y, b => (match b with | .two T' x' y' => T = T' ∧ vrel f x x' ∧ vrel f y y' | _ => False)

theorem orel_dead {f : Nat → Option VE} {o : Ob} (h : orel f o .dead) : o = .dead := by
  cases o <;> first | rfl | exact h.elim

theorem ObRel.tr {f : Nat → Option VE} {g g' : Ghost} {w : World} (t : Tr f g g') {i k : Nat} (hk : f i = some (.old k)) (hlt : k < g.n) (hown : ∀ b, g.kind b = .own k → g'.kind b = .own i) {o o' : Ob} (h : ObRel g w k o) (hr : orel f o' o) : ObRel g' w i o' := by
  obtain ⟨q1, q2, q3, q4⟩ := t.old i k hk hlt
  cases o' with
  | dead => trivial
  | rows sz rs =>
    cases o <;> simp only [orel] at hr <;> (try exact hr.elim)
    rename_i sz' rs'
    obtain ⟨rfl, hr⟩ := hr
    have hget : ∀ (r : Nat) row, rs[r]? = some row → ∃ row', rs'[r]? = some row' ∧ vrelL f row row' := by
      intro r row hrow
      rcases hr with ⟨rfl, hp⟩ | hr
      · exact ⟨row, hrow, vrelL_self row (hp row (List.mem_of_getElem? hrow))⟩
      · exact rrel_get hr hrow
    have hlen : rs.length = rs'.length := by
      rcases hr with ⟨rfl, _⟩ | hr
      · rfl
      · exact rrel_len hr
    rcases h with ⟨rfl, hz, hc⟩ | ⟨hk', hz, c, fr, hw, hf, hs, hl, hrr⟩
    · exact .inl ⟨List.length_eq_zero_iff.1 (by simpa using hlen), by rw [q3]; exact hz, by rw [q4]; exact hc⟩
    · refine .inr ⟨by rw [q2]; exact hown _ hk', by rw [q3]; exact hz, c, fr, by rw [q2]; exact hw, hf, by rw [q3, q4]; exact hs, by rw [q4, hlen]; exact hl, fun r row hrow => ?_⟩
      obtain ⟨row', hrow', hrel⟩ := hget r row hrow
      obtain ⟨p1, p2⟩ := hrr r row' hrow'
      refine ⟨by rw [q3, vrelL_len hrel]; exact p1, fun j a ha => ?_⟩
      obtain ⟨a0, ha0, haa⟩ := vrelL_get hrel ha
      obtain ⟨v, hv, hra, ho⟩ := p2 j a0 ha0
      exact ⟨v, by rw [q3]; exact hv, hra.tr t a haa, ho⟩
  | map es =>
    cases o <;> simp only [orel] at hr <;> (try exact hr.elim)
    rename_i es'
    have hget : ∀ (j : Nat) x, es[j]? = some x → ∃ x', es'[j]? = some x' ∧ vrel f x.1 x'.1 ∧ vrel f x.2 x'.2 := by
      intro j x hx
      rcases hr with ⟨rfl, hp⟩ | hr
      · have := hp x (List.mem_of_getElem? hx)
        exact ⟨x, hx, vrel_self _ this.1, vrel_self _ this.2⟩
      · exact mrel_get hr hx
    have hlen : es.length = es'.length := by
      rcases hr with ⟨rfl, _⟩ | hr
      · rfl
      · exact mrel_len hr
    obtain ⟨hk', entries, clock, hw, hs, hx⟩ := h
    refine ⟨by rw [q2]; exact hown _ hk', entries, clock, by rw [q2]; exact hw, by rw [hlen]; exact hs, fun j x e hj he => ?_⟩
    obtain ⟨x', hx', r1, r2⟩ := hget j x hj
    obtain ⟨p1, p2⟩ := hx j x' e hx' he
    exact ⟨p1.tr t _ r1, p2.tr t _ r2⟩
  | iter s p =>
    cases o <;> simp only [orel] at hr <;> (try exact hr.elim)
    obtain ⟨rfl, rfl⟩ := hr
    exact ⟨by rw [q2]; exact hown _ h.1, by rw [q2]; exact h.2⟩
  | bld T U s =>
    cases o <;> simp only [orel] at hr <;> (try exact hr.elim)
    obtain ⟨rfl, rfl, rfl⟩ := hr
    obtain ⟨h1, h2, h3, p, v, h4, h5, h6⟩ := h
    refine ⟨by rw [q2]; exact hown _ h1, by rw [q3]; exact h2, by rw [q4]; exact h3, p, v, by rw [q2]; exact h4, by rw [q2]; exact h5, ?_⟩
    rcases h6 with h6 | ⟨b, cap, c, fr, r1, r2, r3, r4⟩
    · exact .inl h6
    · exact .inr ⟨b, cap, c, fr, r1, by rw [q2]; exact r2, hown _ r3, r4⟩
  | two T x y =>
    cases o <;> simp only [orel] at hr <;> (try exact hr.elim)
    obtain ⟨rfl, r1, r2⟩ := hr
    obtain ⟨h1, h2, h3, p, v, h4, h5, h6, h7⟩ := h
    exact ⟨by rw [q2]; exact hown _ h1, by rw [q3]; exact h2, by rw [q4]; exact h3, p, v, by rw [q2]; exact h4, h5.tr t _ r1, h6.tr t _ r2, h7⟩

end Go.Aw
