/- What is proved here serves the claim: the walk over the code and the plain laws, part 9 of 16. -/
import Derived.Test.YtfchacihhljfhaaDoorPkSafeWithin8
import Derived.ProofKit
import Derived.OpenShut
import Derived.ShutString
import Derived.ChangeOld
import Derived.SizedLaws
import Derived.Carry
import Derived.Deep.Slices
namespace Go.Aw
set_option linter.unusedVariables false
set_option linter.unusedSimpArgs false
def tiles (P : Program) (S : List TypeId) (n : Nat) : List Field → Nat → Bool
  | [], off => Nat.beq off n
  | f :: r, off => Nat.beq f.offset off && (S.contains f.type && tiles P S n r (off + P.cellsOf f.type))
/-- Types of plain data, closed under their parts. -/
def plainT (P : Program) (S : List TypeId) (t : TypeId) : Bool := match P.underlying t with
  | some .bool | some (.int _) | some .string => Nat.beq (P.cellsOf t) 1
  | some (.slice e) => Nat.beq (P.cellsOf t) 1 && (Nat.blt 0 (P.cellsOf e) && S.contains e)
  | some (.struct fs) => tiles P S (P.cellsOf t) fs.toList 0
  | _ => false
def plainS (P : Program) (S : List TypeId) : Bool := S.all (plainT P S)
/-- Cells of a type, as data. -/
def DOk (P : Program) : Nat → TypeId → List D → Prop
  | 0, _, _ => False
  | n + 1, t, row => match P.underlying t with
    | some .bool => ∃ b, row = [.bool b]
    | some (.int k) => ∃ x, row = [.int k x] ∧ inK k x
    | some .string => ∃ s, row = [.str s] ∧ s.length ≤ 140737488351232
    | some (.slice e) => ∃ rows, row = [.sl rows] ∧ rows.length * P.bytesOf e ≤ 140737488351232 ∧ ∀ r ∈ rows, DOk P n e r
    | some (.struct fs) => row.length = P.cellsOf t ∧ ∀ f ∈ fs.toList, DOk P n f.type ((row.drop f.offset).take (P.cellsOf f.type))
    | _ => False
theorem inK_wf {k : IntKind} {n : Int} (h : (Lit.int k n).wf = true) : inK k n := by
  cases k <;> simp [Lit.wf, IntKind.min, IntKind.max, IntKind.signed, IntKind.bits] at h <;> simp [inK] <;> omega
theorem mem_weightsAll {H : Type} {P : Program} {e : TypeId} : ∀ {l : List (DataW H)} {d : DataW H} {x : Nat}, d ∈ l → x ∈ d.weights P e → x ∈ DataW.weightsAll P e l
  | a :: r, d, x, hd, hx => by
    simp only [DataW.weightsAll, List.mem_append]
    rcases List.mem_cons.1 hd with rfl | h
    · exact .inl hx
    · exact .inr (mem_weightsAll h hx)
section
variable {H : Type} {enc : TypeId × Value → H} {P : Program} {w : World}
theorem cells_len {base : Nat} {a : Addr} {n : Nat} {cs : List Value} (h : w.cells? base a n = some cs) : cs.length = n ∧ ∀ j, j < n → w.cell? (a.add j) = cs[j]? := by
  unfold World.cells? at h
  split at h
  · have h1 := mapM_some_length h
    refine ⟨by simpa using h1, fun j hj => ?_⟩
    exact mapM_some_get h j j (by simp [hj])
  · cases h
theorem cell_spot {a : Addr} {v : Value} (h : w.cell? a = some v) : a.spot = none := by
  unfold World.cell? at h
  split at h
  · split at h
    · cases h
    · rename_i hs; simpa using hs
  · cases h
theorem cell_lt {a : Addr} {v : Value} (h : w.cell? a = some v) : a.block < w.heap.size := by
  unfold World.cell? at h
  rcases Nat.lt_or_ge a.block w.heap.size with h1 | h1
  · exact h1
  · rw [Array.getElem?_eq_none h1] at h; cases h
/-- WHAT IS READ, STANDS FOR DATA. -/
theorem reads {S : List TypeId} (hS : plainS P S = true) : ∀ (n : Nat) (t : TypeId) (cs : List Value) (d : DataW H) (ps : List MemPlace), t ∈ S → DataW.trod enc P w 0 (fun _ => true) true n t cs = some (d, ps) → (∀ x ∈ d.weights P t, x ≤ reachBytes) →
    ∃ row, DOk P n t row ∧ row.length = P.cellsOf t ∧ cs.length = P.cellsOf t ∧ ∀ (j : Nat) x v, row[j]? = some x → cs[j]? = some v → RepD (· < w.heap.size) w x v
  | 0, t, cs, d, ps, _, h, _ => by simp [DataW.trod] at h
  | n + 1, t, cs, d, ps, ht, h, hwt => by
    have hp := List.all_eq_true.1 hS t ht
    unfold plainT at hp
    have one : ∀ (x : D) (v : Value), P.cellsOf t = 1 → RepD (· < w.heap.size) w x v → [x].length = P.cellsOf t ∧ [v].length = P.cellsOf t ∧ ∀ (j : Nat) y u, [x][j]? = some y → [v][j]? = some u → RepD (· < w.heap.size) w y u := by
      intro x v hc hr
      refine ⟨by simp [hc], by simp [hc], fun j y u hy hu => ?_⟩
      cases j with
      | zero => simp at hy hu; subst hy; subst hu; exact hr
      | succ j => simp at hy
    cases hu : P.underlying t with
    | none => rw [hu] at hp; cases hp
    | some U =>
      rw [hu] at hp
      cases U with
      | bool =>
        obtain ⟨b, rfl, _⟩ := DataW.trod_bool hu h
        have hc := Nat.eq_of_beq_eq_true hp
        exact ⟨[.bool b], by simp only [DOk, hu]; exact ⟨b, rfl⟩, one _ _ hc (.bool b)⟩
      | int k =>
        obtain ⟨x, rfl, _, hwf⟩ := DataW.trod_int hu h
        have hc := Nat.eq_of_beq_eq_true hp
        exact ⟨[.int k x], by simp only [DOk, hu]; exact ⟨x, rfl, inK_wf hwf⟩, one _ _ hc (.int k x)⟩
      | string =>
        obtain ⟨s, rfl, hx, _⟩ := DataW.trod_string hu h
        have hc := Nat.eq_of_beq_eq_true hp
        have hd : d = .lit (.string s.data.toList) := congrArg Prod.fst hx
        subst hd
        have hl : s.data.toList.length ≤ reachBytes := hwt _ (by simp [DataW.weights])
        exact ⟨[.str s.data.toList], by simp only [DOk, hu]; exact ⟨_, rfl, hl⟩, one _ _ hc (by simpa using RepD.str (I := (· < w.heap.size)) (w := w) s.data.toList)⟩
      | slice e =>
        simp only [Bool.and_eq_true] at hp
        obtain ⟨hc, hz, he⟩ := hp
        have hc := Nat.eq_of_beq_eq_true hc
        have hz : 0 < P.cellsOf e := by simpa [Nat.blt_eq] using hz
        have he : e ∈ S := by simpa using he
        rcases DataW.trod_slice hu h with ⟨rfl, hx⟩ | ⟨a, len, cap, elems, rest, m, hm, rfl, hx, _, hlen, hcap, hel, hget, _, _⟩
        · exact ⟨[.sl []], by simp only [DOk, hu]; exact ⟨[], rfl, by simp, by simp⟩, one _ _ hc (.sl0 _ _)⟩
        · obtain rfl : n = m := by omega
          have hd : d = .slice (elems.map (·.1)) (rest.map (·.1)) := congrArg Prod.fst hx
          subst hd
          have hw1 : ∀ y ∈ elems, ∀ x ∈ y.1.weights P e, x ≤ reachBytes := fun y hy x hx => hwt x (by
            simp only [DataW.weights, hu, List.mem_cons, List.mem_append]
            exact .inr (.inl (mem_weightsAll (List.mem_map.2 ⟨y, hy, rfl⟩) hx)))
          have hw0 : (elems.length + rest.length) * P.bytesOf e ≤ reachBytes := hwt _ (by simp [DataW.weights, hu])
          -- every element's row
          have key : ∀ i, i < len → ∃ row, (DOk P n e row ∧ row.length = P.cellsOf e) ∧ ∀ (j : Nat) x, row[j]? = some x → ∃ v, w.cell? ((a.add (i * P.cellsOf e)).add j) = some v ∧ RepD (· < w.heap.size) w x v := by
            intro i hi
            have hg := hget i hi
            have hi' : i < elems.length := by omega
            rw [List.getElem?_eq_getElem hi'] at hg
            obtain ⟨cs', h1, h2⟩ := Option.bind_eq_some_iff.1 hg
            obtain ⟨hl, hcell⟩ := cells_len h1
            obtain ⟨row, q1, q2, q3, q4⟩ := reads hS n e cs' _ _ he h2 (hw1 _ (List.getElem_mem hi'))
            refine ⟨row, ⟨q1, q2⟩, fun j x hj => ?_⟩
            have hjl : j < cs'.length := by
              have := (List.getElem?_eq_some_iff.1 hj).1; omega
            exact ⟨cs'[j], by rw [hcell j (by omega), List.getElem?_eq_getElem hjl], q4 j x _ hj (List.getElem?_eq_getElem hjl)⟩
          have ch : ∀ i, ∃ row : List D, i < len → (DOk P n e row ∧ row.length = P.cellsOf e) ∧ ∀ (j : Nat) x, row[j]? = some x → ∃ v, w.cell? ((a.add (i * P.cellsOf e)).add j) = some v ∧ RepD (· < w.heap.size) w x v := by
            intro i
            by_cases hi : i < len
            · obtain ⟨row, q⟩ := key i hi; exact ⟨row, fun _ => q⟩
            · exact ⟨[], fun q => absurd q hi⟩
          let R : Nat → List D := fun i => Classical.choose (ch i)
          have hR : ∀ i, i < len → (DOk P n e (R i) ∧ (R i).length = P.cellsOf e) ∧ ∀ (j : Nat) x, (R i)[j]? = some x → ∃ v, w.cell? ((a.add (i * P.cellsOf e)).add j) = some v ∧ RepD (· < w.heap.size) w x v := fun i hi => Classical.choose_spec (ch i) hi
          have hrows : ∀ (i : Nat) row, ((List.range len).map R)[i]? = some row → i < len ∧ row = R i := by
            intro i row hi
            rw [List.getElem?_map] at hi
            obtain ⟨k, hk, rfl⟩ := Option.map_eq_some_iff.1 hi
            have := List.getElem?_eq_some_iff.1 hk
            obtain ⟨hk1, hk2⟩ := this
            simp at hk1 hk2
            subst hk2
            exact ⟨hk1, rfl⟩
          have hbytes : len * P.bytesOf e ≤ 140737488351232 := by
            have h1 : len * P.bytesOf e ≤ (elems.length + rest.length) * P.bytesOf e := Nat.mul_le_mul_right _ (by omega)
            exact Nat.le_trans h1 hw0
          have hrep : RepD (· < w.heap.size) w (.sl ((List.range len).map R)) (.slice (some a) len cap) := by
            by_cases h0 : len = 0
            · subst h0; exact .sl0 _ _
            · have h00 := hR 0 (by omega)
              obtain ⟨v0, hv0, _⟩ := h00.2 0 ((R 0)[0]'(by omega)) (List.getElem?_eq_getElem (by omega))
              have hv0' : w.cell? a = some v0 := by simpa [Addr.add] using hv0
              have hsp := cell_spot hv0'
              obtain ⟨b, o, sp⟩ := a
              dsimp only at hsp
              subst hsp
              have hlt := cell_lt hv0'
              have hadd : ∀ i j, (({ block := b, off := o, spot := none } : Addr).add (i * P.cellsOf e)).add j = ⟨b, o + (i * P.cellsOf e + j), none⟩ := by
                intro i j
                by_cases hi : i * P.cellsOf e = 0 <;> by_cases hj : j = 0 <;> simp [Addr.add, hi, hj, Nat.add_assoc]
              have hz := RepD.sl (I := (· < w.heap.size)) (w := w) ((List.range len).map R) b o cap (P.cellsOf e) (fun i j => (w.cell? ⟨b, o + (i * P.cellsOf e + j), none⟩).getD undef) hlt (by simpa using hlen)
                (fun i row hi => by obtain ⟨hi', rfl⟩ := hrows i row hi; exact (hR i hi').1.2)
                (fun i j row x hi hj => by
                  obtain ⟨hi', rfl⟩ := hrows i row hi
                  obtain ⟨v, hv, _⟩ := (hR i hi').2 j x hj
                  rw [hadd] at hv
                  rw [hv]; rfl)
                (fun i j row x hi hj => by
                  obtain ⟨hi', rfl⟩ := hrows i row hi
                  obtain ⟨v, hv, hr⟩ := (hR i hi').2 j x hj
                  rw [hadd] at hv
                  rw [hv]; exact hr)
              simpa using hz
          refine ⟨[.sl ((List.range len).map R)], ?_, one _ _ hc hrep⟩
          simp only [DOk, hu]
          refine ⟨_, rfl, by simpa using hbytes, fun r hr => ?_⟩
          obtain ⟨i, hi, rfl⟩ := List.mem_map.1 hr
          exact (hR i (by simpa using hi)).1.1
      | struct fs =>
        obtain ⟨xs, m, hm, hx, hcl, hxl, hf⟩ := DataW.trod_struct hu h
        obtain rfl : n = m := by omega
        have hd : d = .agg (xs.map (·.1)) := congrArg Prod.fst hx
        subst hd
        have hwx : ∀ (i : Nat) (f : Field) (y : DataW H × List MemPlace), fs[i]? = some f → xs[i]? = some y → ∀ x ∈ y.1.weights P f.type, x ≤ reachBytes := by
          intro i f y hfi hyi x hx
          refine hwt x ?_
          simp only [DataW.weights, hu]
          exact DataW.weights_mem_each (j := i) (t := f.type) (d := y.1) (by simp [hfi]) (by simp [hyi]) x hx
        have each : ∀ (i : Nat) (f : Field), fs.toList[i]? = some f → f.type ∈ S → ∃ row, DOk P n f.type row ∧ row.length = P.cellsOf f.type ∧ ((cs.drop f.offset).take (P.cellsOf f.type)).length = P.cellsOf f.type ∧
            ∀ (j : Nat) x v, row[j]? = some x → ((cs.drop f.offset).take (P.cellsOf f.type))[j]? = some v → RepD (· < w.heap.size) w x v := by
          intro i f hfi hfS
          have hfi' : fs[i]? = some f := by simpa using hfi
          have hil : i < xs.length := by
            have := (Array.getElem?_eq_some_iff.1 hfi').1; omega
          have h2 := hf i f hfi'
          rw [List.getElem?_eq_getElem hil] at h2
          exact reads hS n f.type _ _ _ hfS h2 (hwx i f _ hfi' (List.getElem?_eq_getElem hil))
        -- the fields side by side
        have build : ∀ (l : List Field) (k off : Nat), (∀ j, l[j]? = fs.toList[k + j]?) → tiles P S (P.cellsOf t) l off = true → off ≤ P.cellsOf t → ∃ row : List D, off + row.length = P.cellsOf t ∧ (∀ f ∈ l, off ≤ f.offset ∧ DOk P n f.type ((row.drop (f.offset - off)).take (P.cellsOf f.type))) ∧
            ∀ (j : Nat) x v, row[j]? = some x → cs[off + j]? = some v → RepD (· < w.heap.size) w x v := by
          intro l
          induction l with
          | nil =>
            intro k off _ ht' ho
            have := Nat.eq_of_beq_eq_true ht'
            exact ⟨[], by simpa using this, by simp, by simp⟩
          | cons f r ih =>
            intro k off hl ht' ho
            simp only [tiles, Bool.and_eq_true] at ht'
            obtain ⟨h1, h2, h3⟩ := ht'
            have h1 := Nat.eq_of_beq_eq_true h1
            have h2 : f.type ∈ S := by simpa using h2
            obtain ⟨row0, q1, q2, q3, q4⟩ := each k f (by have := hl 0; simp at this; simp [← this]) h2
            rw [h1] at q3 q4
            have hle : off + P.cellsOf f.type ≤ P.cellsOf t := by
              have : ((cs.drop off).take (P.cellsOf f.type)).length ≤ cs.length - off := by rw [List.length_take, List.length_drop]; exact Nat.min_le_right _ _
              omega
            obtain ⟨row1, p1, p2, p3⟩ := ih (k + 1) (off + P.cellsOf f.type) (fun j => by rw [show k + 1 + j = k + (j + 1) by omega]; simpa using hl (j + 1)) h3 hle
            refine ⟨row0 ++ row1, by simp; omega, fun g hg => ?_, fun j x v hj hv => ?_⟩
            · rcases List.mem_cons.1 hg with rfl | hg
              · refine ⟨by omega, ?_⟩
                rw [h1, Nat.sub_self, List.drop_zero, List.take_append_of_le_length (by omega), List.take_of_length_le (by omega)]
                exact q1
              · obtain ⟨s1, s2⟩ := p2 g hg
                refine ⟨by omega, ?_⟩
                rw [List.drop_append, List.drop_eq_nil_of_le (by omega), List.nil_append]
                rw [show g.offset - off - row0.length = g.offset - (off + P.cellsOf f.type) by omega]
                exact s2
            · by_cases hjl : j < row0.length
              · rw [List.getElem?_append_left hjl] at hj
                refine q4 j x v hj ?_
                rw [List.getElem?_take, if_pos (by omega), List.getElem?_drop]; exact hv
              · rw [List.getElem?_append_right (by omega)] at hj
                refine p3 (j - row0.length) x v hj ?_
                rw [show off + P.cellsOf f.type + (j - row0.length) = off + j by omega]; exact hv
        obtain ⟨row, p1, p2, p3⟩ := build fs.toList 0 0 (fun j => by simp) hp (Nat.zero_le _)
        refine ⟨row, ?_, by omega, hcl, fun j x v hj hv => p3 j x v hj (by simpa using hv)⟩
        simp only [DOk, hu]
        refine ⟨by omega, fun f hf' => ?_⟩
        have := (p2 f hf').2
        simpa using this
      | _ => cases hp
def headAV : List D → AV
  | x :: _ => .d x
  | [] => .top
/-- A parameter of a law, as an abstract value. -/
def argAV (P : Program) (t : TypeId) (row : List D) : AV := match isAggB P t with
  | true => .agg (row.map .d)
  | false => headAV row
theorem arg_reads {S : List TypeId} (hS : plainS P S = true) {t : TypeId} (ht : t ∈ S) {v : Value} {d : DataW H} {ps : List MemPlace} {base : Nat} (h : DataW.Trod enc P w 0 (fun _ => true) true t v d ps) (hw : ∀ x ∈ d.weights P t, x ≤ reachBytes)
    (hval : Value.okWide P w .any base t v) : ∃ n row, DOk P n t row ∧ ∀ g : Ghost, (∀ b, b < w.heap.size → g.imm b) → RepA g w (argAV P t row) v := by
  obtain ⟨n, h⟩ := h
  obtain ⟨row, h1, h2, h3, h4⟩ := reads hS n t _ d ps ht h hw
  refine ⟨n, row, h1, fun g hg => ?_⟩
  have hmono : ∀ {x : D} {u : Value}, RepD (· < w.heap.size) w x u → RepD g.imm w x u := fun hr => hr.mono fun b hb => ⟨hg b hb, rfl⟩
  have hp := List.all_eq_true.1 hS t ht
  unfold plainT at hp
  unfold argAV isAggB
  have single : P.cellsOf t = 1 → (∀ cs, v ≠ .agg cs) → RepA g w (headAV row) v := by
    intro hc hv
    have hvc : v.cells.toList = [v] := by
      cases v with
      | agg cs => exact absurd rfl (hv cs)
      | _ => rfl
    rw [hvc] at h4
    cases row with
    | nil => exact .top v
    | cons x r => exact .d (hmono (h4 0 x v rfl rfl))
  cases hu : P.underlying t with
  | none => rw [hu] at hp; cases hp
  | some U =>
    rw [hu] at hp
    cases U with
    | struct fs =>
      simp only [Value.okWide, hu] at hval
      obtain ⟨cs, rfl, hcs, _⟩ := hval
      dsimp only
      refine .agg _ _ (by simp [h2, hcs]) fun i a u ha hu' => ?_
      rw [List.getElem?_map] at ha
      obtain ⟨x, hx, rfl⟩ := Option.map_eq_some_iff.1 ha
      exact .d (hmono (h4 i x u hx (by simpa [Value.cells] using hu')))
    | bool =>
      have hc := Nat.eq_of_beq_eq_true hp
      exact single hc (fun cs hv => by subst hv; simp [Value.okWide, hu, Cell.okWide, Cell.ok] at hval)
    | int k =>
      have hc := Nat.eq_of_beq_eq_true hp
      exact single hc (fun cs hv => by subst hv; simp [Value.okWide, hu, Cell.okWide, Cell.ok] at hval)
    | string =>
      have hc := Nat.eq_of_beq_eq_true hp
      exact single hc (fun cs hv => by subst hv; simp [Value.okWide, hu, Cell.okWide, Cell.ok] at hval)
    | slice e =>
      simp only [Bool.and_eq_true] at hp
      have hc := Nat.eq_of_beq_eq_true hp.1
      exact single hc (fun cs hv => by subst hv; simp [Value.okWide, hu, Cell.okWide, Cell.ok] at hval)
    | _ => cases hp
/-- The ghost of a world in which all that is there stays. -/
def allImm (w : World) : Ghost := ⟨0, fun _ => 0, fun _ => 0, fun _ => 0, fun b => if b < w.heap.size then .imm else .free⟩
theorem allImm_rel (w : World) (hg : ∀ h, Gl P h → ∃ m, w.cell? ⟨h, 0, none⟩ = some (.int .i64 m)) : StoreRel P (allImm w) ⟨0, []⟩ w := by
  refine ⟨rfl, fun b hb => ?_, fun b i hb => ?_, fun _ _ => rfl, fun i hi => absurd hi (Nat.not_lt_zero i), fun h hh => ⟨?_, hg h hh⟩⟩
  rotate_right
  · obtain ⟨m, hm⟩ := hg h hh
    simp only [Ghost.imm, allImm]
    rw [if_pos (cell_lt hm)]
  · simp only [allImm] at hb
    split at hb
    · assumption
    · exact absurd rfl hb
  · simp only [allImm] at hb
    split at hb <;> cases hb
/-- FROM THE WALK TO THE ROW. -/
theorem law_walk {f : FuncId} {args : List AV} {vs : List Value} (hc : PureC P f args (.d (.bool true))) (hg : ∀ h, Gl P h → ∃ m, w.cell? ⟨h, 0, none⟩ = some (.int .i64 m)) (hrep : RepL (allImm w) w args vs) (hout : Callable P f) :
    Calls P f vs.toArray w fun e w' => e = .returned (.bool true) ∧ RowKit.Below w.heap.size w w' := by
  rcases hc ⟨0, []⟩ with h | ⟨fn, e, h1, h2, h3, h4⟩
  · refine (h.2 (allImm w) w vs (allImm_rel w hg) hrep).mono fun e w' ⟨v, g', σ', r, he, hE, hR, hr, hv, _⟩ => ?_
    subst hv
    have hv : v = .bool true := by cases hr with | d h => cases h; rfl
    subst hv
    refine ⟨he, hE.os, hE.tape, hE.output, hE.size, fun k hk => ?_⟩
    exact (hE.keep k hk (fun i hi => by simp only [allImm] at hi; split at hi <;> cases hi)).2
  · obtain ⟨fn', q1, q2, q3⟩ := hout
    rw [h1] at q1
    cases q1
    rw [h3] at q3; cases q3
theorem one_gl {y : Nat} (h : P.globalNamed "internal/bytealg.MaxLen" = some y) {w : World} (hm : ∃ m, w.cell? ⟨y, 0, none⟩ = some (.int .i64 m)) : ∀ x, Gl P x → ∃ m, w.cell? ⟨x, 0, none⟩ = some (.int .i64 m) := fun x hx => by rw [Gl, h] at hx; cases hx; exact hm
theorem sizes_at {ts : List TypeId} {ds : List (DataW H)} (h : (DataW.weightsEach P ts ds).all (· ≤ reachBytes) = true) (j : Nat) {t : TypeId} {d : DataW H} (ht : ts[j]? = some t) (hd : ds[j]? = some d) : ∀ x ∈ d.weights P t, x ≤ reachBytes := fun x hx => by
  have := List.all_eq_true.1 h x (DataW.weights_mem_each ht hd x hx)
  simpa using this
end
end Go.Aw

namespace Go.Aw
set_option linter.unusedVariables false
set_option linter.unusedSimpArgs false
def optL {α β : Type} (f : α → Option β) : List α → Option (List β)
  | [] => some []
  | a :: r => match f a, optL f r with
    | some x, some xs => some (x :: xs)
    | _, _ => none
theorem optL_get {α β : Type} {f : α → Option β} : ∀ {l : List α} {m : List β}, optL f l = some m → m.length = l.length ∧ ∀ (i : Nat) a, l[i]? = some a → ∃ b, m[i]? = some b ∧ f a = some b
  | [], m, h => by cases h; exact ⟨rfl, by simp⟩
  | a :: r, m, h => by
    simp only [optL] at h
    split at h
    · rename_i x xs hx hxs
      cases h
      obtain ⟨h1, h2⟩ := optL_get hxs
      refine ⟨by simp [h1], fun i b hi => ?_⟩
      cases i with
      | zero => simp at hi; subst hi; exact ⟨x, by simp, hx⟩
      | succ i => simp at hi; simpa using h2 i b hi
    · cases h
theorem optL_map {α β γ : Type} {f : β → Option γ} {g : α → β} {h : α → γ} (hh : ∀ a, f (g a) = some (h a)) : ∀ l : List α, optL f (l.map g) = some (l.map h)
  | [] => rfl
  | a :: r => by simp only [List.map_cons, optL, hh, optL_map hh r]
def seeP : AV → Option D
  | .d x => some x
  | .tt => some (.bool true)
  | .ff => some (.bool false)
  | .nil => some (.sl [])
  | .dt rows => some (.sl rows)
  | _ => none
def seeO (f : List (List AV) → Option (List (List D))) (o : Ob) (lo len : Nat) : Option D := match o with
  | .rows _ rs => match f rs with
    | some ds => (match Nat.ble (lo + len) rs.length with | true => some (.sl ((ds.drop lo).take len)) | false => none)
    | none => none
  | _ => none
/-- A value, as it is seen by one that only reads. -/
def seeD (σ : Store) : Nat → AV → Option D
  | 0, a => seeP a
  | n + 1, a => match a with
    | .own i lo len => seeO (optL (optL (seeD σ n))) (σ.get i) lo len
    | .tight i lo len => seeO (optL (optL (seeD σ n))) (σ.get i) lo len
    | a => seeP a
def seeV (σ : Store) (n : Nat) : AV → Option AV
  | .agg vs => (optL (seeD σ n) vs).map fun l => .agg (l.map .d)
  | .ref i r 0 => match σ.get i with
    | .rows _ rs => (match rs[r]? with | some row => (optL (seeD σ n) row).map fun l => .ip l 0 | none => none)
    | _ => none
  | .nilp => some .nilp
  | .fn f [] [] => some (.fn f [] [])
  | a => (seeD σ n a).map .d
theorem seeD_d (σ : Store) (n : Nat) (x : D) : seeD σ n (.d x) = some x := by cases n <;> rfl
theorem see_row (σ : Store) (n : Nat) (r : List D) : optL (seeD σ n) (r.map .d) = some r := by
  have := optL_map (f := seeD σ n) (g := AV.d) (h := id) (fun x => seeD_d σ n x) r
  simpa using this
theorem see_rows (σ : Store) (n : Nat) (rs : List (List D)) : optL (optL (seeD σ n)) (rs.map fun r => r.map .d) = some rs := by
  have := optL_map (f := optL (seeD σ n)) (g := fun r : List D => r.map AV.d) (h := id) (fun r => see_row σ n r) rs
  simpa using this
theorem see_own {σ : Store} {n i len : Nat} {sz : Nat × Nat} {ds : List (List D)} (h : σ.get i = .rows sz (ds.map fun r => r.map .d)) (hl : len = ds.length) : seeD σ (n + 1) (.own i 0 len) = some (.sl ds) := by
  simp only [seeD, seeO, h, see_rows, List.length_map]
  rw [hl, Nat.zero_add, Nat.ble_eq_true_of_le (Nat.le_refl _)]
  simp
section
variable {P : Program}
theorem allImm_imm {g : Ghost} {σ : Store} {w : World} (R : StoreRel P g σ w) {b : Nat} (h : g.kind b ≠ .free) : (allImm w).imm b := by
  show (if b < w.heap.size then Kind.imm else .free) = .imm
  rw [if_pos (R.lt b h)]
theorem seen_rows {g : Ghost} {w : World} {i : Nat} {sz : Nat × Nat} {rs : List (List AV)} {ds : List (List D)} {I : Nat → Prop} (hob : ObRel g w i (.rows sz rs)) (hlen : ds.length = rs.length)
    (hds : ∀ (r : Nat) row, rs[r]? = some row → ∃ d, ds[r]? = some d ∧ d.length = row.length ∧ ∀ (j : Nat) a, row[j]? = some a → ∃ x, d[j]? = some x ∧ ∀ v, RepA g w a v → RepD I w x v)
    (hI : ∀ b, g.kind b ≠ .free → I b) (lo len cap : Nat) (hcap : len ≤ cap) (hle : lo + len ≤ rs.length) :
    RepD I w (.sl ((ds.drop lo).take len)) (.slice (some ⟨g.blk i, lo * g.sz i, none⟩) len cap) := by
  rcases hob with ⟨rfl, _, _⟩ | hob
  · have h0 : len = 0 := by simp at hle; omega
    subst h0
    rw [List.take_zero]; exact .sl0 _ _
  obtain ⟨hk, hz, c, fr, hw, hf, hsz, hl, hrr⟩ := hob
  have hll : ((ds.drop lo).take len).length = len := by simp; omega
  have hval : ∀ (r j : Nat) d x, ds[r]? = some d → d[j]? = some x → ∃ v, c[r * g.sz i + j]? = some v ∧ RepD I w x v := by
    intro r j d x hr hx
    obtain ⟨row, hrow⟩ := getElem?_of_lt (l := rs) (j := r) (by rw [← hlen]; exact lt_of_some hr)
    obtain ⟨d', q1, q2, q3⟩ := hds r row hrow
    rw [hr] at q1; cases q1
    obtain ⟨a, ha⟩ := getElem?_of_lt (l := row) (j := j) (by rw [← q2]; exact lt_of_some hx)
    obtain ⟨x', p1, p2⟩ := q3 j a ha
    rw [hx] at p1; cases p1
    obtain ⟨v, hv, hra, _⟩ := (hrr r row hrow).2 j a ha
    exact ⟨v, hv, p2 v hra⟩
  have hrow : ∀ (r : Nat) d, ((ds.drop lo).take len)[r]? = some d → ds[lo + r]? = some d := by
    intro r d hr
    rw [List.getElem?_take] at hr
    split at hr
    · rw [List.getElem?_drop] at hr; exact hr
    · cases hr
  have hgoal : RepD I w (.sl ((ds.drop lo).take len)) (.slice (some ⟨g.blk i, lo * g.sz i, none⟩) ((ds.drop lo).take len).length cap) := by
    refine .sl _ (g.blk i) (lo * g.sz i) cap (g.sz i) (fun r j => c.getD ((lo + r) * g.sz i + j) undef) (hI _ (by rw [hk]; intro e; cases e)) (by omega) (fun r d hr => ?_) (fun r j d x hr hx => ?_) (fun r j d x hr hx => ?_)
    · have q1 := hrow r d hr
      obtain ⟨row, hrow2⟩ := getElem?_of_lt (l := rs) (j := lo + r) (by rw [← hlen]; exact lt_of_some q1)
      obtain ⟨d', p1, p2, _⟩ := hds _ row hrow2
      rw [q1] at p1; cases p1
      rw [p2]; exact (hrr _ row hrow2).1
    · obtain ⟨v, hv, _⟩ := hval _ j d x (hrow r d hr) hx
      rw [cell_at hw, show lo * g.sz i + (r * g.sz i + j) = (lo + r) * g.sz i + j by rw [Nat.add_mul]; omega, hv]
      rw [Array.getD_eq_getD_getElem?, hv]; rfl
    · obtain ⟨v, hv, hrep⟩ := hval _ j d x (hrow r d hr) hx
      rw [Array.getD_eq_getD_getElem?, hv]
      exact hrep
  rw [hll] at hgoal
  exact hgoal
theorem seeP_ok {g : Ghost} {σ : Store} {w : World} (R : StoreRel P g σ w) {a : AV} {x : D} {v : Value} (h : seeP a = some x) (hr : RepA g w a v) : RepD (allImm w).imm w x v := by
  have hm : ∀ {x : D} {v : Value}, RepD g.imm w x v → RepD (allImm w).imm w x v := fun h => h.mono fun b hb => ⟨allImm_imm R (by have hb' : g.kind b = .imm := hb; rw [hb']; intro e; cases e), rfl⟩
  cases hr <;> first | (cases h; done) | skip
  · cases h; exact .bool _
  · cases h; exact .bool _
  · rename_i hx; cases h; exact hm hx
  · cases h; exact .sl0 _ _
  · rename_i hx; cases h; exact hm hx
theorem seeD_ok {g : Ghost} {σ : Store} {w : World} (R : StoreRel P g σ w) : ∀ (n : Nat) {a : AV} {x : D} {v : Value}, seeD σ n a = some x → RepA g w a v → RepD (allImm w).imm w x v
  | 0, a, x, v, h, hr => seeP_ok R h hr
  | n + 1, a, x, v, h, hr => by
    have hO : ∀ {i lo len : Nat} {x : D} (cap : Nat), len ≤ cap → seeO (optL (optL (seeD σ n))) (σ.get i) lo len = some x → i < g.n → RepD (allImm w).imm w x (.slice (some ⟨g.blk i, lo * g.sz i, none⟩) len cap) ∧ (len = 0 → x = .sl []) := by
      intro i lo len x cap hcap h hi
      unfold seeO at h
      split at h
      · rename_i sz rs ho
        split at h
        · rename_i ds hds
          split at h
          · rename_i hb
            cases h
            obtain ⟨h1, h2⟩ := optL_get hds
            have hob := R.ob i hi
            rw [ho] at hob
            refine ⟨seen_rows hob h1 (fun r row hr => ?_) (fun b hb => allImm_imm R hb) lo len cap hcap (Nat.le_of_ble_eq_true hb), fun h0 => by rw [h0, List.take_zero]⟩
            obtain ⟨d, q1, q2⟩ := h2 r row hr
            obtain ⟨p1, p2⟩ := optL_get q2
            refine ⟨d, q1, p1, fun j a ha => ?_⟩
            obtain ⟨x, w1, w2⟩ := p2 j a ha
            exact ⟨x, w1, fun v hv => seeD_ok R n w2 hv⟩
          · cases h
        · cases h
      · cases h
    cases hr with
    | own i lo len cap hi hc hl => exact (hO cap hl h hi).1
    | own0 i lo hi => rw [(hO 0 (Nat.le_refl _) h hi).2 rfl]; exact .sl0 _ _
    | tight i lo len hi => exact (hO len (Nat.le_refl _) h hi).1
    | tight0 i lo hi => rw [(hO 0 (Nat.le_refl _) h hi).2 rfl]; exact .sl0 _ _
    | top v => exact seeP_ok (g := g) (w := w) (a := .top) R h (.top v)
    | tt => exact seeP_ok (g := g) (w := w) (a := .tt) R h .tt
    | ff => exact seeP_ok (g := g) (w := w) (a := .ff) R h .ff
    | d hx => exact seeP_ok (g := g) (w := w) (a := .d _) R h (.d hx)
    | nil => exact seeP_ok (g := g) (w := w) (a := .nil) R h .nil
    | ref i r c hi => exact seeP_ok (g := g) (w := w) (a := .ref i r c) R h (.ref i r c hi)
    | nilp => exact seeP_ok (g := g) (w := w) (a := .nilp) R h .nilp
    | ip row c b o f hI hc hr => exact seeP_ok (g := g) (w := w) (a := .ip row c) R h (.ip row c b o f hI hc hr)
    | dt rows a hx => exact seeP_ok (g := g) (w := w) (a := .dt rows) R h (.dt rows a hx)
    | mp i hi => exact seeP_ok (g := g) (w := w) (a := .mp i) R h (.mp i hi)
    | fn f first captured vf vc hf hc rf rc => exact seeP_ok (g := g) (w := w) (a := .fn f first captured) R h (.fn f first captured vf vc hf hc rf rc)
    | nilf => exact seeP_ok (g := g) (w := w) (a := .nilf) R h .nilf
    | ifc t a v hx => exact seeP_ok (g := g) (w := w) (a := .ifc t a) R h (.ifc t a v hx)
    | nili => exact seeP_ok (g := g) (w := w) (a := .nili) R h .nili
    | lit v => exact seeP_ok (g := g) (w := w) (a := .lit v) R h (.lit v)
    | agg vs cs hl hx => exact seeP_ok (g := g) (w := w) (a := .agg vs) R h (.agg vs cs hl hx)
    | tup vs cs hl hx => exact seeP_ok (g := g) (w := w) (a := .tup vs) R h (.tup vs cs hl hx)
theorem seeV_ok {g : Ghost} {σ : Store} {w : World} (R : StoreRel P g σ w) {n : Nat} {a a' : AV} {v : Value} (h : seeV σ n a = some a') (hr : RepA g w a v) : RepA (allImm w) w a' v := by
  unfold seeV at h
  split at h
  · rename_i vs
    rw [Option.map_eq_some_iff] at h
    obtain ⟨l, hl, rfl⟩ := h
    cases hr with
    | agg _ cs hlen hx =>
      obtain ⟨h1, h2⟩ := optL_get hl
      refine .agg _ cs (by simp [h1, hlen]) fun i b u hb hu => ?_
      rw [List.getElem?_map, Option.map_eq_some_iff] at hb
      obtain ⟨x, hx', rfl⟩ := hb
      obtain ⟨c, hc⟩ := getElem?_of_lt (l := vs) (j := i) (by rw [← h1]; exact lt_of_some hx')
      obtain ⟨y, q1, q2⟩ := h2 i c hc
      rw [hx'] at q1; cases q1
      exact .d (seeD_ok R n q2 (hx i c u hc hu))
  · rename_i i r
    split at h
    · rename_i sz rs ho
      split at h
      · rename_i row hrow
        rw [Option.map_eq_some_iff] at h
        obtain ⟨l, hl, rfl⟩ := h
        cases hr with
        | ref _ _ _ hi =>
          have hob := R.ob i hi
          rw [ho] at hob
          obtain ⟨hk, hz, c, fr, hw, hf, hsz, hle, hrr⟩ := hob.at hrow
          obtain ⟨p1, p2⟩ := hrr r row hrow
          obtain ⟨h1, h2⟩ := optL_get hl
          have hcell : ∀ (j : Nat) x, l[j]? = some x → ∃ v, c[r * g.sz i + j]? = some v ∧ RepD (allImm w).imm w x v := by
            intro j x hx
            obtain ⟨a, ha⟩ := getElem?_of_lt (l := row) (j := j) (by rw [← h1]; exact lt_of_some hx)
            obtain ⟨y, q1, q2⟩ := h2 j a ha
            rw [hx] at q1; cases q1
            obtain ⟨v, hv, hra, _⟩ := p2 j a ha
            exact ⟨v, hv, seeD_ok R n q2 hra⟩
          refine .ip l 0 (g.blk i) (r * g.sz i + 0) (fun j => c.getD (r * g.sz i + j) undef) (allImm_imm R (by rw [hk]; intro e; cases e)) (fun j x hx => ?_) (fun j x hx => ?_)
          · obtain ⟨v, hv, _⟩ := hcell j x hx
            rw [Nat.add_zero, cell_at hw, hv, Array.getD_eq_getD_getElem?, hv]; rfl
          · obtain ⟨v, hv, hd⟩ := hcell j x hx
            rw [Array.getD_eq_getD_getElem?, hv]; exact hd
      · cases h
    · cases h
  · cases h; cases hr; exact .nilp
  · cases h
    cases hr with
    | fn f0 first captured vf vc hf hc rf rc => exact .fn _ [] [] vf vc hf hc (by simp) (by simp)
  · rw [Option.map_eq_some_iff] at h
    obtain ⟨x, hx, rfl⟩ := h
    exact .d (seeD_ok R n hx hr)
/-- Values that name no block at all. -/
def flatD : D → Bool
  | .sl _ => false
  | _ => true
mutual
def AV.flat : AV → Bool
  | .d x => flatD x
  | .tt => true
  | .ff => true
  | .nil => true
  | .nilp => true
  | .nili => true
  | .tup vs => flatL vs
  | .agg vs => flatL vs
  | _ => false
def flatL : List AV → Bool
  | [] => true
  | a :: r => a.flat && flatL r
end
theorem flatL_get : ∀ {l : List AV} {i : Nat} {a : AV}, flatL l = true → l[i]? = some a → a.flat = true
  | x :: l, 0, a, h, hi => by simp [flatL] at h hi; subst hi; exact h.1
  | x :: l, i + 1, a, h, hi => by simp [flatL] at h hi; exact flatL_get h.2 hi
theorem flat_rep {g g' : Ghost} {w w' : World} {a : AV} {v : Value} (hr : RepA g w a v) : a.flat = true → RepA g' w' a v := by
  induction hr with
  | tt => exact fun _ => .tt
  | ff => exact fun _ => .ff
  | d h =>
    intro hf
    cases h with
    | bool b => exact .d (.bool b)
    | int k n => exact .d (.int k n)
    | str s => exact .d (.str s)
    | sl0 => cases hf
    | sl => cases hf
  | nil => exact fun _ => .nil
  | nilp => exact fun _ => .nilp
  | nili => exact fun _ => .nili
  | agg vs cs hl h ih => exact fun hf => .agg vs cs hl (fun i a v ha hv => ih i a v ha hv (flatL_get hf ha))
  | tup vs cs hl h ih => exact fun hf => .tup vs cs hl (fun i a v ha hv => ih i a v ha hv (flatL_get hf ha))
  | _ => exact fun hf => absurd hf (by simp [AV.flat])
theorem allImm_after {g g1 : Ghost} {σ σ1 : Store} {w w1 : World} (R : StoreRel P g σ w) (hE : Ext (allImm w) ⟨0, []⟩ w g1 σ1 w1) : Ext g σ w g σ w1 ∧ StoreRel P g σ w1 := by
  have hh : ∀ b, b < w.heap.size → w1.heap[b]? = w.heap[b]? := fun b hb => (hE.keep b hb (fun i hi => by simp only [allImm] at hi; split at hi <;> cases hi)).2
  have hk : Keeps g w g w1 := ⟨Nat.le_refl _, fun _ _ => ⟨rfl, rfl, rfl⟩, fun b hb => ⟨hb, hh b (R.lt b (by have hb' : g.kind b = .imm := hb; rw [hb']; intro e; cases e))⟩⟩
  refine ⟨⟨Nat.le_refl _, fun _ _ => ⟨rfl, rfl, rfl⟩, fun _ _ h => h, hE.size, fun b hb _ => ⟨rfl, hh b hb⟩, hE.os, hE.tape, hE.output⟩, ⟨R.n, fun b hb => Nat.lt_of_lt_of_le (R.lt b hb) hE.size, R.owner, R.dead, fun i hi => ?_, glob_keep hk R.glob⟩⟩
  exact (R.ob i hi).mono hk hi fun b hb => ⟨hb, hh b (R.lt b (by rw [hb]; intro e; cases e))⟩
/-- A PURE FUNCTION ON WHAT IS MUTABLE: it only reads. -/
theorem PureC.borrow {f : FuncId} {args args' : List AV} {r : AV} {σ : Store} (n : Nat) (h : PureC P f args' r) (hf : r.flat = true) (hs : optL (seeV σ n) args = some args') : CallsAbs P f args σ fun r' σ' => r' = r ∧ σ' = σ := by
  obtain ⟨h1, h2⟩ := optL_get hs
  have hargs : ∀ {g : Ghost} {w : World} {vs : List Value}, StoreRel P g σ w → RepL g w args vs → RepL (allImm w) w args' vs := by
    intro g w vs R hL
    refine ⟨h1.trans hL.1, fun i a v ha hv => ?_⟩
    obtain ⟨c, hc⟩ := getElem?_of_lt (l := args) (j := i) (by rw [← h1]; exact lt_of_some ha)
    obtain ⟨y, q1, q2⟩ := h2 i c hc
    rw [ha] at q1; cases q1
    exact seeV_ok R q2 (hL.2 i c v hc hv)
  rcases h ⟨0, []⟩ with h | ⟨fn, e, k1, k2, k3, k4, k5, k6⟩
  · refine .inl ⟨h.1, fun g w vs R hL => (h.2 (allImm w) w vs (allImm_rel w fun x hx => (R.glob x hx).2) (hargs R hL)).mono fun e w1 ⟨v, g1, σ1, r1, he, hE, hR, hr, h1, h2⟩ => ?_⟩
    subst h1
    obtain ⟨q1, q2⟩ := allImm_after R hE
    exact ⟨v, g, σ, r1, he, q1, q2, flat_rep hr hf, rfl, rfl⟩
  · refine .inr ⟨fn, e, k1, k2, k3, k4, k5, fun g w vs R hL => ?_⟩
    have := k6 (allImm w) w vs (allImm_rel w fun x hx => (R.glob x hx).2) (hargs R hL)
    cases hx : (e vs.toArray).run P w with
    | ok v w1 =>
      rw [hx] at this
      obtain ⟨g1, σ1, r1, hE, hR, hr, h1, h2⟩ := this
      subst h1
      obtain ⟨q1, q2⟩ := allImm_after R hE
      exact ⟨g, σ, r1, q1, q2, flat_rep hr hf, rfl, rfl⟩
    | halt x w1 => rw [hx] at this; exact this.elim
end
end Go.Aw

namespace Go.Aw
set_option linter.unusedVariables false
set_option linter.unusedSimpArgs false
section
variable {P : Program}
abbrev grownS (T U : TypeId) : Store := ⟨2, [(0, .two T (.ref 0 0 0) (.own 1 0 0)), (1, .rows (1, U) []), (0, .bld T U [])]⟩
/-- Room is made for a builder that holds nothing. -/
theorem Grow_abs {f : FuncId} {T U : TypeId} (hc : Callable P f) (n : Nat)
    (hrow : ∀ (b : Nat) (p : Value) (w : World), (p = .pointer none ∨ p = .pointer (some ⟨b, 0, none⟩)) → w.heap[b]? = some (.cells #[p, .slice none 0 0] T (0, 0)) →
      Calls P f #[.pointer (some ⟨b, 0, none⟩), .int .i64 n] w fun e w' => e = .returned (.tuple #[]) ∧ ∃ cs : Array Value, (∀ x, w'.heap[x]? = if x = b then some (.cells #[.pointer (some ⟨b, 0, none⟩), .slice (some ⟨w.heap.size, 0, none⟩) 0 cs.size] T (0, 0)) else if x = w.heap.size then some (.cells cs U (0, 0)) else w.heap[x]?) ∧
        w'.heap.size = w.heap.size + 1 ∧ w'.os = w.os ∧ w'.tape = w.tape ∧ w'.output = w.output) :
    CallsAbs P f [.ref 0 0 0, .d (.int .i64 n)] ⟨1, [(0, .bld T U [])]⟩ fun r σ' => r = .tup [] ∧ σ' = grownS T U := by
  refine .inl ⟨hc, fun g w vs R hL => ?_⟩
  obtain ⟨v0, r0, rfl, h0, hr0⟩ := hL.uncons
  obtain ⟨v1, r1, rfl, h1, hr1⟩ := hr0.uncons
  rw [hr1.unnil]
  cases repA_int h1
  have hn : g.n = 1 := R.n.symm
  have hi : 0 < g.n := by omega
  have hv0 : v0 = .pointer (some ⟨g.blk 0, 0, none⟩) := by cases h0; simp
  subst hv0
  have hob : BldAt g w 0 T U [] := R.ob 0 hi
  obtain ⟨hk, hz, hcp, p, v, hw, hp, hv⟩ := hob
  have hv' : v = .slice none 0 0 := by
    rcases hv with ⟨_, h⟩ | ⟨b, cap, c, fr, _, _, _, _, _, _, _, h, _⟩
    · exact h
    · exact absurd rfl h
  subst hv'
  have hlt : g.blk 0 < w.heap.size := R.lt _ (by rw [hk]; intro q; cases q)
  refine (hrow (g.blk 0) p w hp hw).mono fun e w' ⟨he, cs, q1, q2, q3, q4, q5⟩ => ?_
  let w1 : World := { w with heap := w.heap.push (.cells cs U (0, 0)) }
  obtain ⟨x1, R1⟩ := newRow_ok R cs U (0, 0) [] 1 cs.size (w' := w1) rfl rfl rfl rfl (fun o _ h => by omega) (by simp) (Nat.zero_le _) (fun r row h => by simp at h)
  have hk1 : (g.grow w.heap.size 1 cs.size).blk 0 = g.blk 0 := by simp [Ghost.grow]; omega
  have hkind : (g.grow w.heap.size 1 cs.size).kind (g.blk 0) = .own 0 := by simp [Ghost.grow, Nat.ne_of_lt hlt, hk]
  have hheap : ∀ b, (g.grow w.heap.size 1 cs.size).kind b ≠ .own 0 → w'.heap[b]? = w1.heap[b]? := fun b hb => by
    have hne : b ≠ g.blk 0 := fun e => hb (e ▸ hkind)
    rw [q1 b, if_neg hne]
    show _ = (w.heap.push _)[b]?
    rw [Array.getElem?_push]
  obtain ⟨x2, R2⟩ := set_ok R1 0 (.two T (.ref 0 0 0) (.own 1 0 0)) (by simp [Ghost.grow]) (w' := w') (by intro q; cases q) hheap (by rw [q2]; show _ = (w.heap.push _).size; simp) q3 q4 q5 (by
    refine ⟨by rw [hk1]; exact hkind, by simp [Ghost.grow, hn, hz], by simp [Ghost.grow, hn, hcp], .pointer (some ⟨g.blk 0, 0, none⟩), .slice (some ⟨w.heap.size, 0, none⟩) 0 cs.size, by rw [hk1, q1, if_pos rfl], ?_, ?_, rfl, rfl⟩
    · have := RepA.ref (g := g.grow w.heap.size 1 cs.size) (w := w') 0 0 0 (by simp [Ghost.grow])
      rw [hk1] at this
      simpa using this
    · have := RepA.own (g := g.grow w.heap.size 1 cs.size) (w := w') 1 0 0 cs.size (by simp [Ghost.grow, hn]) (by simp [Ghost.grow, hn]) (Nat.zero_le _)
      simpa [Ghost.grow, hn] using this)
  exact ⟨_, _, _, .tup [], he, x1.trans R x2, R2, .tup [] #[] rfl (by simp), rfl, rfl⟩
/-- copyCheck at an open builder. -/
theorem copyCheck_two {f : FuncId} {T : TypeId} (hc : Callable P f)
    (hused : ∀ (b : Nat) (w : World), w.cell? ⟨b, 0, none⟩ = some (.pointer (some ⟨b, 0, none⟩)) → Calls P f #[.pointer (some ⟨b, 0, none⟩)] w fun e w' => e = .returned (.tuple #[]) ∧ w' = w) {σ : Store} {y : AV} (ho : σ.get 0 = .two T (.ref 0 0 0) y) :
    CallsAbs P f [.ref 0 0 0] σ fun r σ' => r = .tup [] ∧ σ' = σ := by
  refine .inl ⟨hc, fun g w vs R hL => ?_⟩
  rw [rep_ref0 hL]
  have hi : 0 < g.n := by
    rcases Nat.lt_or_ge 0 g.n with h | h
    · exact h
    · have := R.dead 0 h; rw [ho] at this; cases this
  have hob := R.ob 0 hi
  rw [ho] at hob
  obtain ⟨hk, hz, hcp, x, z, hw, hx, _⟩ := hob
  have hx' : x = .pointer (some ⟨g.blk 0, 0, none⟩) := by cases hx; simp
  subst hx'
  refine (hused (g.blk 0) w (by rw [Lib.cell_of_heap hw]; rfl)).mono fun e w' ⟨he, hw'⟩ => ?_
  subst hw'
  exact ⟨_, g, _, .tup [], he, Ext.refl _ _ _, R, .tup [] #[] rfl (by simp), rfl, rfl⟩
/-- The text of an open builder that holds something. -/
theorem String_two {f : FuncId} {T U : TypeId} (hc : Callable P f)
    (hrow : ∀ (b g cap : Nat) (p : Value) (l : List UInt8) (cur : Array Value) (fr : Nat × Nat) (w : World), l ≠ [] → l.length ≤ cap → l.length ≤ 9223372036854775807 →
      w.heap[b]? = some (.cells #[p, .slice (some ⟨g, 0, none⟩) l.length cap] T (0, 0)) → w.heap[g]? = some (.cells cur U fr) → l.length ≤ cur.size → (∀ (j : Nat) x, l[j]? = some x → cur[j]? = some (.int .u8 x.toNat)) →
      Calls P f #[.pointer (some ⟨b, 0, none⟩)] w fun e w' => e = .returned (.string ⟨l.toArray⟩) ∧ w' = w.drew.freeze ⟨g, 0, none⟩ l.length) (s : List UInt8) (hs0 : s ≠ []) (hs : s.length ≤ 9223372036854775807) :
    CallsAbs P f [.ref 0 0 0] ⟨2, [(0, .two T (.ref 0 0 0) (.own 1 0 s.length)), (1, .rows (1, U) (bytesA s))]⟩ fun r σ' => r = .d (.str s) ∧ σ' = ⟨2, []⟩ := by
  refine .inl ⟨hc, fun g w vs R hL => ?_⟩
  rw [rep_ref0 hL]
  have hn : g.n = 2 := R.n.symm
  obtain ⟨hk, hz, hcp, x, z, hw, hx, hzv, _⟩ := R.ob 0 (by omega)
  obtain ⟨s0, hs1⟩ : ∃ x, s[0]? = some x := by
    cases s with
    | nil => exact absurd rfl hs0
    | cons a r => exact ⟨a, rfl⟩
  have hob1 : ObRel g w 1 (.rows (1, U) (bytesA s)) := R.ob 1 (by omega)
  obtain ⟨jk, jz, cs, fr, jw, jf, js, jl, jr⟩ := hob1.at (bytesA_get s 0 s0 hs1)
  have hzz : ∃ cap, z = .slice (some ⟨g.blk 1, 0, none⟩) s.length cap ∧ s.length ≤ cap := by
    generalize hln : s.length = ln at hzv
    cases hzv with
    | own0 => exact absurd (List.length_eq_zero_iff.1 hln) hs0
    | own _ _ _ cap _ hcap hl => exact ⟨cap, by simp, hl⟩
  obtain ⟨cap, rfl, hcap⟩ := hzz
  have hcell : ∀ (j : Nat) x, s[j]? = some x → cs[j]? = some (.int .u8 x.toNat) := fun j x hx => by
    obtain ⟨_, q2⟩ := jr j _ (bytesA_get s j x hx)
    obtain ⟨u, hu, hru, _⟩ := q2 0 _ rfl
    have := repA_int hru
    subst this
    rw [jz] at hu
    simpa using hu
  have jz' : g.sz 1 = 1 := jz
  have hcs : s.length ≤ cs.size := by
    have h1 : s.length ≤ g.cap 1 := by have := jl; rwa [bytesA_len] at this
    rw [js, jz', Nat.mul_one]; exact h1
  refine (hrow (g.blk 0) (g.blk 1) cap x s cs fr w hs0 hcap hs hw jw hcs hcell).mono fun e w' ⟨he, hw'⟩ => ?_
  have hsize : (w.drew.freeze ⟨g.blk 1, 0, none⟩ s.length).heap.size = w.heap.size := by
    unfold World.freeze
    split
    · rfl
    · simp
  have hoth : ∀ x, x ≠ g.blk 1 → (w.drew.freeze ⟨g.blk 1, 0, none⟩ s.length).heap[x]? = w.heap[x]? := by
    intro x hx
    unfold World.freeze
    split
    · rfl
    · simp only [Array.getElem?_modify, if_neg (Ne.symm hx)]; rfl
  subst hw'
  refine ⟨_, g, ⟨2, []⟩, .d (.str s), he, ⟨Nat.le_refl _, fun _ _ => ⟨rfl, rfl, rfl⟩, fun _ _ _ => rfl, by omega, fun b hb ho => ⟨rfl, hoth b (fun e => ?_)⟩, ?_, ?_, ?_⟩, all_dead hn.symm (fun x hx => by rw [hsize]; exact R.lt x hx) R.owner (glob_same (w := w) (fun x hx => hoth x (fun e => by subst e; rw [show g.kind (g.blk 1) = .imm from hx] at jk; cases jk)) R.glob), .d (.str s), rfl, rfl⟩
  · subst e
    have := ho 1 jk
    cases this
  all_goals (unfold World.freeze; split <;> rfl)
end
end Go.Aw

namespace Go.Aw
set_option linter.unusedVariables false
set_option linter.unusedSimpArgs false
section
variable {P : Program} {N B : Nat}
/-- The same slots, or fewer. -/
def sslots : St → St → Prop
  | [], _ => True
  | (t, x) :: r, s => x = look .top s t ∧ sslots r s
theorem sslots_get : ∀ {s' s : St}, sslots s' s → ∀ t, look .top s' t = .top ∨ look .top s' t = look .top s t
  | [], s, _, t => .inl rfl
  | (u, x) :: r, s, h, t => by
    rw [look_cons]
    split
    · rename_i e; subst e; exact .inr h.1
    · exact sslots_get h.2 t
/-- A store told otherwise of which each object is the same. -/
theorem E.same {c : Code} {K : Exit → St → Store → Prop} {s s' : St} {σ σ' : Store} (hn : σ'.n = σ.n) (hg : ∀ i, σ'.get i = σ.get i) (hs : sslots s' s) (h : E P N B c K s' σ') : E P N B c K s σ := fun g a w hB hT R => by
  have hR : StoreRel P g σ' w := ⟨by rw [hn]; exact R.n, R.lt, R.owner, fun i hi => by rw [hg]; exact R.dead i hi, fun i hi => by rw [hg]; exact R.ob i hi, R.glob⟩
  have hT' : RelT N g w s' a := by
    refine ⟨hT.size, hT.defers, fun t => ?_⟩
    rcases sslots_get hs t with h | h
    · rw [h]; exact .top _
    · rw [h]; exact hT.rep t
  have hX : ExtB B g σ w g σ' w := ⟨hB, fun _ _ => ⟨rfl, rfl, rfl⟩, fun m hm hd => by rw [hg]; exact hd, Nat.le_refl _, fun _ _ _ => ⟨rfl, rfl⟩, rfl, rfl, rfl⟩
  exact wp_mono (h g a w hB hT' hR) fun e a' w' ⟨s2, σ2, g2, q1, q2, q3, q4⟩ => ⟨s2, σ2, g2, q1, q2, hX.trans q3, q4⟩
/-- The same at the end of a call. -/
theorem fin_same {σ0 σ σ' : Store} {r : AV} (hn : σ'.n = σ.n) (hg : ∀ i, σ'.get i = σ.get i) : FinMove σ0 r σ r σ' := fun P g0 g w0 w v R0 hE R hr =>
  ⟨g, ⟨hE.n, hE.place, fun i hi hd => by rw [hg]; exact hE.dead i hi hd, hE.size, hE.keep, hE.os, hE.tape, hE.output⟩,
    ⟨by rw [hn]; exact R.n, R.lt, R.owner, fun i hi => by rw [hg]; exact R.dead i hi, fun i hi => by rw [hg]; exact R.ob i hi, R.glob⟩, hr⟩
end
end Go.Aw

namespace Go.Aw
set_option linter.unusedVariables false
set_option linter.unusedSimpArgs false
section
variable {P : Program} {N B : Nat}
theorem repL_slots {N : Nat} {g : Ghost} {w : World} {s : St} {a : Act} (h : RelT N g w s a) : ∀ s' : St, RepL g w (s'.map fun p => look .top s p.1) (s'.map fun p => a.tmps.getD p.1 undef)
  | [] => RepL.nil
  | p :: r => RepL.cons (h.rep p.1) (repL_slots h r)
theorem slots_get {g : Ghost} {w : World} {f : Nat → Value} : ∀ {s' : St}, RepL g w (s'.map (·.2)) (s'.map fun p => f p.1) → ∀ t, RepA g w (look .top s' t) (f t)
  | [], _, t => .top _
  | (k, v) :: r, h, t => by
    obtain ⟨u, q, e, h1, h2⟩ := h.uncons
    cases e
    rw [look_cons]
    split
    · rename_i e; subst e; exact h1
    · exact slots_get h2 t
/-- What may be told otherwise at the end of a call may be in the middle of a walk. -/
theorem E.fm {c : Code} {K : Exit → St → Store → Prop} {s s' : St} {σ σ' : Store} (hm : FinMove σ (.tup (s'.map fun p => look .top s p.1)) σ (.tup (s'.map (·.2))) σ') (h : E P N B c K s' σ') : E P N B c K s σ := fun g a w hB hT R => by
  obtain ⟨g', q1, q2, q3⟩ := hm P g g w w (.tuple (s'.map fun p => a.tmps.getD p.1 undef).toArray) R (Ext.refl g σ w) R (repL_tup (by simpa using repL_slots hT s'))
  have hT' : RelT N g' w s' a := by
    refine ⟨hT.size, hT.defers, slots_get (f := fun t => a.tmps.getD t undef) ?_⟩
    cases q3 with
    | tup _ cs hl hx => exact ⟨hl, fun j a v ha hv => hx j a v ha (by rw [List.getElem?_toArray]; exact hv)⟩
  have hX := q1.toB hB
  exact wp_mono (h g' a w hX.n hT' q2) fun e a' w' ⟨s2, σ2, g2, p1, p2, p3, p4⟩ => ⟨s2, σ2, g2, p1, p2, hX.trans p3, p4⟩
/-- And ahead of a call. -/
theorem CallsAbs.fm {f : FuncId} {args args' : List AV} {σ σ' : Store} {K : AV → Store → Prop} (hm : FinMove σ (.tup args) σ (.tup args') σ') (h : CallsAbs P f args' σ' K) : CallsAbs P f args σ K := by
  refine h.args fun g w vs R hL => ?_
  obtain ⟨g', q1, q2, q3⟩ := hm P g g w w (.tuple vs.toArray) R (Ext.refl g σ w) R (repL_tup (by simpa using hL))
  refine ⟨g', q1, q2, ?_⟩
  cases q3 with
  | tup _ cs hl hx => exact ⟨by simpa using hl, fun j a v ha hv => hx j a v ha (by simpa using hv)⟩
/-- The place of a number in a list. -/
def pos : List Nat → Nat → Nat → Option Nat
  | [], _, _ => none
  | a :: r, k, n => match Nat.beq a k with
    | true => some n
    | false => pos r k (n + 1)
theorem pos_some : ∀ {q : List Nat} {k a i : Nat}, pos q k a = some i → ∃ j, i = a + j ∧ q[j]? = some k
  | b :: r, k, a, i, h => by
    unfold pos at h
    split at h
    · rename_i e
      cases h
      exact ⟨0, rfl, by simp [Nat.eq_of_beq_eq_true e]⟩
    · obtain ⟨j, h1, h2⟩ := pos_some h
      exact ⟨j + 1, by omega, by simpa using h2⟩
theorem pos_nodup : ∀ {q : List Nat} {j k a : Nat}, q.Nodup → q[j]? = some k → pos q k a = some (a + j)
  | b :: r, 0, k, a, hq, h => by
    simp at h; subst h
    unfold pos; rw [Nat.beq_refl]; rfl
  | b :: r, j + 1, k, a, hq, h => by
    simp at h
    have hk : k ∈ r := List.mem_of_getElem? h
    have hne : b ≠ k := fun e => (List.nodup_cons.1 hq).1 (e ▸ hk)
    have : Nat.beq b k = false := by
      cases hb : Nat.beq b k with
      | false => rfl
      | true => exact absurd (Nat.eq_of_beq_eq_true hb) hne
    unfold pos
    rw [this, show a + (j + 1) = a + 1 + j by omega]
    exact pos_nodup (List.nodup_cons.1 hq).2 h
def nthN : List Nat → Nat → Option Nat
  | [], _ => none
  | a :: _, 0 => some a
  | _ :: r, n + 1 => nthN r n
theorem nthN_eq : ∀ (q : List Nat) (n : Nat), nthN q n = q[n]?
  | [], n => by simp [nthN]
  | a :: r, 0 => by simp [nthN]
  | a :: r, n + 1 => by simp [nthN, nthN_eq r n]
/-- Where an object was before some were given new numbers. -/
def upf (n : Nat) (q : List Nat) (i : Nat) : Option VE := match Nat.ble n i with
  | false => some (.old i)
  | true => (nthN q (i - n)).map .old
def Ghost.ups (g : Ghost) (q : List Nat) : Ghost where
  n := g.n + q.length
  blk i := match upf g.n q i with | some (.old k) => g.blk k | _ => 0
  sz i := match upf g.n q i with | some (.old k) => g.sz k | _ => 0
  cap i := match upf g.n q i with | some (.old k) => g.cap k | _ => 0
  kind b := match g.kind b with
    | .own k => (match pos q k g.n with | some i => .own i | none => .own k)
    | x => x
theorem upf_lo {n i : Nat} {q : List Nat} (h : i < n) : upf n q i = some (.old i) := by
  have : Nat.ble n i = false := by
    cases hb : Nat.ble n i with
    | false => rfl
    | true => have := Nat.le_of_ble_eq_true hb; omega
  simp [upf, this]
theorem upf_hi {n i : Nat} {q : List Nat} (h : n ≤ i) : upf n q i = (q[i - n]?).map .old := by
  have : Nat.ble n i = true := Nat.ble_eq_true_of_le h
  simp [upf, this, nthN_eq]
theorem upf_lt {n i : Nat} {q : List Nat} {e : VE} (h : upf n q i = some e) : i < n + q.length := by
  rcases Nat.lt_or_ge i n with hi | hi
  · omega
  · rw [upf_hi hi] at h
    obtain ⟨k, hk, _⟩ := Option.map_eq_some_iff.1 h
    have := (List.getElem?_eq_some_iff.1 hk).1
    omega
def deads (σ : Store) : List Nat → Prop
  | [] => True
  | k :: r => σ.get k = .dead ∧ deads σ r
def lives (σ : Store) : List Nat → Prop
  | [] => True
  | k :: r => σ.get k ≠ .dead ∧ lives σ r
theorem deads_get {σ : Store} : ∀ {q : List Nat} {k : Nat}, deads σ q → k ∈ q → σ.get k = .dead
  | a :: r, k, h, hk => by
    rcases List.mem_cons.1 hk with rfl | hk
    · exact h.1
    · exact deads_get h.2 hk
theorem lives_get {σ : Store} : ∀ {q : List Nat} {k : Nat}, lives σ q → k ∈ q → σ.get k ≠ .dead
  | a :: r, k, h, hk => by
    rcases List.mem_cons.1 hk with rfl | hk
    · exact h.1
    · exact lives_get h.2 hk
theorem ob_lt {P : Program} {g : Ghost} {σ : Store} {w : World} (R : StoreRel P g σ w) {k : Nat} (h : σ.get k ≠ .dead) : k < g.n := by
  rcases Nat.lt_or_ge k g.n with hk | hk
  · exact hk
  · exact absurd (R.dead k hk) h
/-- OBJECTS ARE GIVEN NEW NUMBERS; the old ones are dead. -/
theorem fin_ups {σ0 σ σ' : Store} {r r' : AV} (q : List Nat) (hn : σ'.n = σ.n + q.length) (hq : q.Nodup) (hd : deads σ' q) (hl : lives σ q) (ho : orelS (upf σ.n q) σ σ'.objs) (hr : vrel (upf σ.n q) r' r) : FinMove σ0 r σ r' σ' := fun P g0 g w0 w v R0 hE R hrep => by
  have hsn := R.n
  rw [hsn] at hn ho hr
  have ht : Tr (upf g.n q) g (g.ups q) := by
    refine ⟨fun i k h hk => ⟨upf_lt h, by simp [Ghost.ups, h], by simp [Ghost.ups, h], by simp [Ghost.ups, h]⟩, fun i sz h => ?_, fun b h => ?_⟩
    · rcases Nat.lt_or_ge i g.n with hi | hi
      · rw [upf_lo hi] at h; cases h
      · rw [upf_hi hi] at h
        obtain ⟨k, _, hk⟩ := Option.map_eq_some_iff.1 h
        cases hk
    · have h' : g.kind b = .imm := h
      simp [Ghost.imm, Ghost.ups, h']
  have hlook : ∀ i, σ'.get i = .dead ∨ entry (upf g.n q) σ i (σ'.get i) := fun i => orelS_look ho
  have hkind : ∀ b k, g.kind b = .own k → (g.ups q).kind b = match pos q k g.n with | some i => .own i | none => .own k := fun b k h => by simp [Ghost.ups, h]
  have hR : StoreRel P (g.ups q) σ' w := by
    refine ⟨hn, fun b hb => R.lt b (fun hf => hb (by simp [Ghost.ups, hf])), fun b i hb => ?_, fun i hi => ?_, fun i hi => ?_, fun x hx => ⟨ht.imm x (R.glob x hx).1, (R.glob x hx).2⟩⟩
    · cases hk : g.kind b with
      | own k =>
        rw [hkind b k hk] at hb
        show i < g.n + q.length
        split at hb
        · rename_i j hj
          cases hb
          obtain ⟨m, rfl, hm⟩ := pos_some hj
          have := (List.getElem?_eq_some_iff.1 hm).1
          omega
        · cases hb
          have := R.owner b _ hk
          omega
      | _ => simp [Ghost.ups, hk] at hb
    · have hi' : g.n + q.length ≤ i := hi
      rcases hlook i with h | h
      · exact h
      · unfold entry at h
        rw [upf_hi (by omega), List.getElem?_eq_none (by omega)] at h
        dsimp only [Option.map_none] at h
        generalize hs : σ'.get i = o at h
        cases o <;> first | rfl | exact h.elim
    · rcases hlook i with h | h
      · rw [h]; trivial
      · by_cases hin : i < g.n
        · unfold entry at h
          rw [upf_lo hin] at h
          dsimp only at h
          by_cases hiq : i ∈ q
          · rw [deads_get hd hiq]; trivial
          · refine (R.ob i hin).tr ht (upf_lo hin) hin (fun b hb => ?_) h
            rw [hkind b i hb]
            cases hp : pos q i g.n with
            | none => rfl
            | some j =>
              obtain ⟨m, _, hm⟩ := pos_some hp
              exact absurd (List.mem_of_getElem? hm) hiq
        · have hf := upf_hi (q := q) (Nat.le_of_not_lt hin)
          have hlt : i - g.n < q.length := by
            have hi2 : i < g.n + q.length := hi
            omega
          rw [List.getElem?_eq_getElem hlt] at hf
          have hmem : q[i - g.n] ∈ q := List.getElem_mem hlt
          unfold entry at h
          rw [hf] at h
          dsimp only [Option.map_some] at h hf
          have hkn := ob_lt R (lives_get hl hmem)
          refine (R.ob _ hkn).tr ht hf hkn (fun b hb => ?_) h
          rw [hkind b _ hb, pos_nodup (a := g.n) hq (List.getElem?_eq_getElem hlt)]
          dsimp only
          rw [Nat.add_sub_cancel' (Nat.le_of_not_lt hin)]
  have hX : Ext g σ w (g.ups q) σ' w := by
    refine ⟨by simp [Ghost.ups], fun i hi => by simp [Ghost.ups, upf_lo hi], fun i hi hdi => ?_, Nat.le_refl _, fun b hb ho => ⟨?_, rfl⟩, rfl, rfl, rfl⟩
    · rcases hlook i with h | h
      · exact h
      · unfold entry at h
        rw [upf_lo hi] at h
        dsimp only at h
        rw [hdi] at h
        exact orel_dead h
    · cases hk : g.kind b with
      | own k =>
        rw [hkind b k hk]
        cases hp : pos q k g.n with
        | none => rfl
        | some j =>
          obtain ⟨m, _, hm⟩ := pos_some hp
          exact absurd (ho k hk) (lives_get hl (List.mem_of_getElem? hm))
      | _ => simp [Ghost.ups, hk]
  exact ⟨g.ups q, hE.trans R0 hX, hR, hrep.tr ht _ hr⟩
end
end Go.Aw
