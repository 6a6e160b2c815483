/- What is proved here serves the claim: the walk over the code and the plain laws, part 7 of 18. -/
import Derived.Test.YthngplknbbcecaaGreatDoorPkSnp6
import Derived.ProofKit
import Derived.OpenShut
import Derived.ShutString
import Derived.ChangeOld
import Derived.SizedLaws
import Derived.Carry
import Derived.Deep.Slices
namespace Go.Aw
set_option linter.unusedVariables false
set_option linter.unusedSimpArgs false
def tiles (P : Program) (S : List TypeId) (n : Nat) : List Field → Nat → Bool
 | [], off => Nat.beq off n
 | f :: r, off => Nat.beq f.offset off && (S.contains f.type && tiles P S n r (off + P.cellsOf f.type))
def plainT (P : Program) (S : List TypeId) (t : TypeId) : Bool := match P.underlying t with
 | some .bool | some (.int _) | some .string => Nat.beq (P.cellsOf t) 1
 | some (.slice e) => Nat.beq (P.cellsOf t) 1 && (Nat.blt 0 (P.cellsOf e) && S.contains e)
 | some (.struct fs) => tiles P S (P.cellsOf t) fs.toList 0
 | _ => false
def plainS (P : Program) (S : List TypeId) : Bool := S.all (plainT P S)
def DOk (P : Program) : Nat → TypeId → List D → Prop
 | 0, _, _ => False
 | n + 1, t, row => match P.underlying t with
  | some .bool => ∃ b, row = [.bool b]
  | some (.int k) => ∃ x, row = [.int k x] ∧ inK k x
  | some .string => ∃ s, row = [.str s] ∧ s.length ≤ 140737488351232
  | some (.slice e) => ∃ rows, row = [.sl rows] ∧ rows.length * P.bytesOf e ≤ 140737488351232 ∧ ∀ r ∈ rows, DOk P n e r
  | some (.struct fs) => row.length = P.cellsOf t ∧ ∀ f ∈ fs.toList, DOk P n f.type ((row.drop f.offset).take (P.cellsOf f.type))
  | _ => False
theorem inK_wf {k : IntKind} {n : Int} (h : (Lit.int k n).wf = true) : inK k n := by
 cases k <;> simp [Lit.wf, IntKind.min, IntKind.max, IntKind.signed, IntKind.bits] at h <;> simp [inK] <;> omega
theorem mem_weightsAll {H : Type} {P : Program} {e : TypeId} : ∀ {l : List (DataW H)} {d : DataW H} {x : Nat}, d ∈ l → x ∈ d.weights P e → x ∈ DataW.weightsAll P e l
 | a :: r, d, x, hd, hx => by
  simp only [DataW.weightsAll, List.mem_append]
  rcases List.mem_cons.1 hd with rfl | h
  ·exact .inl hx
  ·exact .inr (mem_weightsAll h hx)
section
variable {H : Type} {enc : TypeId × Value → H} {P : Program} {w : World}
theorem cells_len {base : Nat} {a : Addr} {n : Nat} {cs : List Value} (h : w.cells? base a n = some cs) : cs.length = n ∧ ∀ j, j < n → w.cell? (a.add j) = cs[j]? := by
 unfold World.cells? at h
 split at h
 ·have h1 := mapM_some_length h
  refine ⟨by simpa using h1, fun j hj => ?_⟩
  exact mapM_some_get h j j (by simp [hj])
 ·cases h
theorem cell_spot {a : Addr} {v : Value} (h : w.cell? a = some v) : a.spot = none := by
 unfold World.cell? at h
 split at h
 ·split at h
  ·cases h
  ·rename_i hs; simpa using hs
 ·cases h
theorem cell_lt {a : Addr} {v : Value} (h : w.cell? a = some v) : a.block < w.heap.size := by
 unfold World.cell? at h
 rcases Nat.lt_or_ge a.block w.heap.size with h1 | h1
 ·exact h1
 ·rw [Array.getElem?_eq_none h1] at h; cases h
theorem reads {S : List TypeId} (hS : plainS P S = true) : ∀ (n : Nat) (t : TypeId) (cs : List Value) (d : DataW H) (ps : List MemPlace), t ∈ S → DataW.trod enc P w 0 (fun _ => true) true n t cs = some (d, ps) → (∀ x ∈ d.weights P t, x ≤ reachBytes) →
  ∃ row, DOk P n t row ∧ row.length = P.cellsOf t ∧ cs.length = P.cellsOf t ∧ ∀ (j : Nat) x v, row[j]? = some x → cs[j]? = some v → RepD (· < w.heap.size) w x v
 | 0, t, cs, d, ps, _, h, _ => by simp [DataW.trod] at h
 | n + 1, t, cs, d, ps, ht, h, hwt => by
  have hp := List.all_eq_true.1 hS t ht
  unfold plainT at hp
  have one : ∀ (x : D) (v : Value), P.cellsOf t = 1 → RepD (· < w.heap.size) w x v → [x].length = P.cellsOf t ∧ [v].length = P.cellsOf t ∧ ∀ (j : Nat) y u, [x][j]? = some y → [v][j]? = some u → RepD (· < w.heap.size) w y u := by
   intro x v hc hr
   refine ⟨by simp [hc], by simp [hc], fun j y u hy hu => ?_⟩
   cases j with
   | zero => simp at hy hu; subst hy; subst hu; exact hr
   | succ j => simp at hy
  cases hu : P.underlying t with
  | none => rw [hu] at hp; cases hp
  | some U =>
   rw [hu] at hp
   cases U with
   | bool =>
    obtain ⟨b, rfl, _⟩ := DataW.trod_bool hu h
    have hc := Nat.eq_of_beq_eq_true hp
    exact ⟨[.bool b], by simp only [DOk, hu]; exact ⟨b, rfl⟩, one _ _ hc (.bool b)⟩
   | int k =>
    obtain ⟨x, rfl, _, hwf⟩ := DataW.trod_int hu h
    have hc := Nat.eq_of_beq_eq_true hp
    exact ⟨[.int k x], by simp only [DOk, hu]; exact ⟨x, rfl, inK_wf hwf⟩, one _ _ hc (.int k x)⟩
   | string =>
    obtain ⟨s, rfl, hx, _⟩ := DataW.trod_string hu h
    have hc := Nat.eq_of_beq_eq_true hp
    have hd : d = .lit (.string s.data.toList) := congrArg Prod.fst hx
    subst hd
    have hl : s.data.toList.length ≤ reachBytes := hwt _ (by simp [DataW.weights])
    exact ⟨[.str s.data.toList], by simp only [DOk, hu]; exact ⟨_, rfl, hl⟩, one _ _ hc (by simpa using RepD.str (I := (· < w.heap.size)) (w := w) s.data.toList)⟩
   | slice e =>
    simp only [Bool.and_eq_true] at hp
    obtain ⟨hc, hz, he⟩ := hp
    have hc := Nat.eq_of_beq_eq_true hc
    have hz : 0 < P.cellsOf e := by simpa [Nat.blt_eq] using hz
    have he : e ∈ S := by simpa using he
    rcases DataW.trod_slice hu h with ⟨rfl, hx⟩ | ⟨a, len, cap, elems, rest, m, hm, rfl, hx, _, hlen, hcap, hel, hget, _, _⟩
    ·exact ⟨[.sl []], by simp only [DOk, hu]; exact ⟨[], rfl, by simp, by simp⟩, one _ _ hc (.sl0 _ _)⟩
    ·obtain rfl : n = m := by omega
     have hd : d = .slice (elems.map (·.1)) (rest.map (·.1)) := congrArg Prod.fst hx
     subst hd
     have hw1 : ∀ y ∈ elems, ∀ x ∈ y.1.weights P e, x ≤ reachBytes := fun y hy x hx => hwt x (by
      simp only [DataW.weights, hu, List.mem_cons, List.mem_append]
      exact .inr (.inl (mem_weightsAll (List.mem_map.2 ⟨y, hy, rfl⟩) hx)))
     have hw0 : (elems.length + rest.length) * P.bytesOf e ≤ reachBytes := hwt _ (by simp [DataW.weights, hu])
     have key : ∀ i, i < len → ∃ row, (DOk P n e row ∧ row.length = P.cellsOf e) ∧ ∀ (j : Nat) x, row[j]? = some x → ∃ v, w.cell? ((a.add (i * P.cellsOf e)).add j) = some v ∧ RepD (· < w.heap.size) w x v := by
      intro i hi
      have hg := hget i hi
      have hi' : i < elems.length := by omega
      rw [List.getElem?_eq_getElem hi'] at hg
      obtain ⟨cs', h1, h2⟩ := Option.bind_eq_some_iff.1 hg
      obtain ⟨hl, hcell⟩ := cells_len h1
      obtain ⟨row, q1, q2, q3, q4⟩ := reads hS n e cs' _ _ he h2 (hw1 _ (List.getElem_mem hi'))
      refine ⟨row, ⟨q1, q2⟩, fun j x hj => ?_⟩
      have hjl : j < cs'.length := by
       have := (List.getElem?_eq_some_iff.1 hj).1; omega
      exact ⟨cs'[j], by rw [hcell j (by omega), List.getElem?_eq_getElem hjl], q4 j x _ hj (List.getElem?_eq_getElem hjl)⟩
     have ch : ∀ i, ∃ row : List D, i < len → (DOk P n e row ∧ row.length = P.cellsOf e) ∧ ∀ (j : Nat) x, row[j]? = some x → ∃ v, w.cell? ((a.add (i * P.cellsOf e)).add j) = some v ∧ RepD (· < w.heap.size) w x v := by
      intro i
      by_cases hi : i < len
      ·obtain ⟨row, q⟩ := key i hi; exact ⟨row, fun _ => q⟩
      ·exact ⟨[], fun q => absurd q hi⟩
     let R : Nat → List D := fun i => Classical.choose (ch i)
     have hR : ∀ i, i < len → (DOk P n e (R i) ∧ (R i).length = P.cellsOf e) ∧ ∀ (j : Nat) x, (R i)[j]? = some x → ∃ v, w.cell? ((a.add (i * P.cellsOf e)).add j) = some v ∧ RepD (· < w.heap.size) w x v := fun i hi => Classical.choose_spec (ch i) hi
     have hrows : ∀ (i : Nat) row, ((List.range len).map R)[i]? = some row → i < len ∧ row = R i := by
      intro i row hi
      rw [List.getElem?_map] at hi
      obtain ⟨k, hk, rfl⟩ := Option.map_eq_some_iff.1 hi
      have := List.getElem?_eq_some_iff.1 hk
      obtain ⟨hk1, hk2⟩ := this
      simp at hk1 hk2
      subst hk2
      exact ⟨hk1, rfl⟩
     have hbytes : len * P.bytesOf e ≤ 140737488351232 := by
      have h1 : len * P.bytesOf e ≤ (elems.length + rest.length) * P.bytesOf e := Nat.mul_le_mul_right _ (by omega)
      exact Nat.le_trans h1 hw0
     have hrep : RepD (· < w.heap.size) w (.sl ((List.range len).map R)) (.slice (some a) len cap) := by
      by_cases h0 : len = 0
      ·subst h0; exact .sl0 _ _
      ·have h00 := hR 0 (by omega)
       obtain ⟨v0, hv0, _⟩ := h00.2 0 ((R 0)[0]'(by omega)) (List.getElem?_eq_getElem (by omega))
       have hv0' : w.cell? a = some v0 := by simpa [Addr.add] using hv0
       have hsp := cell_spot hv0'
       obtain ⟨b, o, sp⟩ := a
       dsimp only at hsp
       subst hsp
       have hlt := cell_lt hv0'
       have hadd : ∀ i j, (({ block := b, off := o, spot := none } : Addr).add (i * P.cellsOf e)).add j = ⟨b, o + (i * P.cellsOf e + j), none⟩ := by
        intro i j
        by_cases hi : i * P.cellsOf e = 0 <;> by_cases hj : j = 0 <;> simp [Addr.add, hi, hj, Nat.add_assoc]
       have hz := RepD.sl (I := (· < w.heap.size)) (w := w) ((List.range len).map R) b o cap (P.cellsOf e) (fun i j => (w.cell? ⟨b, o + (i * P.cellsOf e + j), none⟩).getD undef) hlt (by simpa using hlen)
        (fun i row hi => by obtain ⟨hi', rfl⟩ := hrows i row hi; exact (hR i hi').1.2)
        (fun i j row x hi hj => by
         obtain ⟨hi', rfl⟩ := hrows i row hi
         obtain ⟨v, hv, _⟩ := (hR i hi').2 j x hj
         rw [hadd] at hv
         rw [hv]; rfl)
        (fun i j row x hi hj => by
         obtain ⟨hi', rfl⟩ := hrows i row hi
         obtain ⟨v, hv, hr⟩ := (hR i hi').2 j x hj
         rw [hadd] at hv
         rw [hv]; exact hr)
       simpa using hz
     refine ⟨[.sl ((List.range len).map R)], ?_, one _ _ hc hrep⟩
     simp only [DOk, hu]
     refine ⟨_, rfl, by simpa using hbytes, fun r hr => ?_⟩
     obtain ⟨i, hi, rfl⟩ := List.mem_map.1 hr
     exact (hR i (by simpa using hi)).1.1
   | struct fs =>
    obtain ⟨xs, m, hm, hx, hcl, hxl, hf⟩ := DataW.trod_struct hu h
    obtain rfl : n = m := by omega
    have hd : d = .agg (xs.map (·.1)) := congrArg Prod.fst hx
    subst hd
    have hwx : ∀ (i : Nat) (f : Field) (y : DataW H × List MemPlace), fs[i]? = some f → xs[i]? = some y → ∀ x ∈ y.1.weights P f.type, x ≤ reachBytes := by
     intro i f y hfi hyi x hx
     refine hwt x ?_
     simp only [DataW.weights, hu]
     exact DataW.weights_mem_each (j := i) (t := f.type) (d := y.1) (by simp [hfi]) (by simp [hyi]) x hx
    have each : ∀ (i : Nat) (f : Field), fs.toList[i]? = some f → f.type ∈ S → ∃ row, DOk P n f.type row ∧ row.length = P.cellsOf f.type ∧ ((cs.drop f.offset).take (P.cellsOf f.type)).length = P.cellsOf f.type ∧
      ∀ (j : Nat) x v, row[j]? = some x → ((cs.drop f.offset).take (P.cellsOf f.type))[j]? = some v → RepD (· < w.heap.size) w x v := by
     intro i f hfi hfS
     have hfi' : fs[i]? = some f := by simpa using hfi
     have hil : i < xs.length := by
      have := (Array.getElem?_eq_some_iff.1 hfi').1; omega
     have h2 := hf i f hfi'
     rw [List.getElem?_eq_getElem hil] at h2
     exact reads hS n f.type _ _ _ hfS h2 (hwx i f _ hfi' (List.getElem?_eq_getElem hil))
    have build : ∀ (l : List Field) (k off : Nat), (∀ j, l[j]? = fs.toList[k + j]?) → tiles P S (P.cellsOf t) l off = true → off ≤ P.cellsOf t → ∃ row : List D, off + row.length = P.cellsOf t ∧ (∀ f ∈ l, off ≤ f.offset ∧ DOk P n f.type ((row.drop (f.offset - off)).take (P.cellsOf f.type))) ∧
      ∀ (j : Nat) x v, row[j]? = some x → cs[off + j]? = some v → RepD (· < w.heap.size) w x v := by
     intro l
     induction l with
     | nil =>
      intro k off _ ht' ho
      have := Nat.eq_of_beq_eq_true ht'
      exact ⟨[], by simpa using this, by simp, by simp⟩
     | cons f r ih =>
      intro k off hl ht' ho
      simp only [tiles, Bool.and_eq_true] at ht'
      obtain ⟨h1, h2, h3⟩ := ht'
      have h1 := Nat.eq_of_beq_eq_true h1
      have h2 : f.type ∈ S := by simpa using h2
      obtain ⟨row0, q1, q2, q3, q4⟩ := each k f (by have := hl 0; simp at this; simp [← this]) h2
      rw [h1] at q3 q4
      have hle : off + P.cellsOf f.type ≤ P.cellsOf t := by
       have : ((cs.drop off).take (P.cellsOf f.type)).length ≤ cs.length - off := by rw [List.length_take, List.length_drop]; exact Nat.min_le_right _ _
       omega
      obtain ⟨row1, p1, p2, p3⟩ := ih (k + 1) (off + P.cellsOf f.type) (fun j => by rw [show k + 1 + j = k + (j + 1) by omega]; simpa using hl (j + 1)) h3 hle
      refine ⟨row0 ++ row1, by simp; omega, fun g hg => ?_, fun j x v hj hv => ?_⟩
      ·rcases List.mem_cons.1 hg with rfl | hg
       ·refine ⟨by omega, ?_⟩
        rw [h1, Nat.sub_self, List.drop_zero, List.take_append_of_le_length (by omega), List.take_of_length_le (by omega)]
        exact q1
       ·obtain ⟨s1, s2⟩ := p2 g hg
        refine ⟨by omega, ?_⟩
        rw [List.drop_append, List.drop_eq_nil_of_le (by omega), List.nil_append]
        rw [show g.offset - off - row0.length = g.offset - (off + P.cellsOf f.type) by omega]
        exact s2
      ·by_cases hjl : j < row0.length
       ·rw [List.getElem?_append_left hjl] at hj
        refine q4 j x v hj ?_
        rw [List.getElem?_take, if_pos (by omega), List.getElem?_drop]; exact hv
       ·rw [List.getElem?_append_right (by omega)] at hj
        refine p3 (j - row0.length) x v hj ?_
        rw [show off + P.cellsOf f.type + (j - row0.length) = off + j by omega]; exact hv
    obtain ⟨row, p1, p2, p3⟩ := build fs.toList 0 0 (fun j => by simp) hp (Nat.zero_le _)
    refine ⟨row, ?_, by omega, hcl, fun j x v hj hv => p3 j x v hj (by simpa using hv)⟩
    simp only [DOk, hu]
    refine ⟨by omega, fun f hf' => ?_⟩
    have := (p2 f hf').2
    simpa using this
   | _ => cases hp
def headAV : List D → AV
 | x :: _ => .d x
 | [] => .top
def argAV (P : Program) (t : TypeId) (row : List D) : AV := match isAggB P t with
 | true => .agg (row.map .d)
 | false => headAV row
theorem arg_reads {S : List TypeId} (hS : plainS P S = true) {t : TypeId} (ht : t ∈ S) {v : Value} {d : DataW H} {ps : List MemPlace} {base : Nat} (h : DataW.Trod enc P w 0 (fun _ => true) true t v d ps) (hw : ∀ x ∈ d.weights P t, x ≤ reachBytes)
  (hval : Value.okWide P w .any base t v) : ∃ n row, DOk P n t row ∧ ∀ g : Ghost, (∀ b, b < w.heap.size → g.imm b) → RepA g w (argAV P t row) v := by
 obtain ⟨n, h⟩ := h
 obtain ⟨row, h1, h2, h3, h4⟩ := reads hS n t _ d ps ht h hw
 refine ⟨n, row, h1, fun g hg => ?_⟩
 have hmono : ∀ {x : D} {u : Value}, RepD (· < w.heap.size) w x u → RepD g.imm w x u := fun hr => hr.mono fun b hb => ⟨hg b hb, rfl⟩
 have hp := List.all_eq_true.1 hS t ht
 unfold plainT at hp
 unfold argAV isAggB
 have single : P.cellsOf t = 1 → (∀ cs, v ≠ .agg cs) → RepA g w (headAV row) v := by
  intro hc hv
  have hvc : v.cells.toList = [v] := by
   cases v with
   | agg cs => exact absurd rfl (hv cs)
   | _ => rfl
  rw [hvc] at h4
  cases row with
  | nil => exact .top v
  | cons x r => exact .d (hmono (h4 0 x v rfl rfl))
 cases hu : P.underlying t with
 | none => rw [hu] at hp; cases hp
 | some U =>
  rw [hu] at hp
  cases U with
  | struct fs =>
   simp only [Value.okWide, hu] at hval
   obtain ⟨cs, rfl, hcs, _⟩ := hval
   dsimp only
   refine .agg _ _ (by simp [h2, hcs]) fun i a u ha hu' => ?_
   rw [List.getElem?_map] at ha
   obtain ⟨x, hx, rfl⟩ := Option.map_eq_some_iff.1 ha
   exact .d (hmono (h4 i x u hx (by simpa [Value.cells] using hu')))
  | bool =>
   have hc := Nat.eq_of_beq_eq_true hp
   exact single hc (fun cs hv => by subst hv; simp [Value.okWide, hu, Cell.okWide, Cell.ok] at hval)
  | int k =>
   have hc := Nat.eq_of_beq_eq_true hp
   exact single hc (fun cs hv => by subst hv; simp [Value.okWide, hu, Cell.okWide, Cell.ok] at hval)
  | string =>
   have hc := Nat.eq_of_beq_eq_true hp
   exact single hc (fun cs hv => by subst hv; simp [Value.okWide, hu, Cell.okWide, Cell.ok] at hval)
  | slice e =>
   simp only [Bool.and_eq_true] at hp
   have hc := Nat.eq_of_beq_eq_true hp.1
   exact single hc (fun cs hv => by subst hv; simp [Value.okWide, hu, Cell.okWide, Cell.ok] at hval)
  | _ => cases hp
def allImm (w : World) : Ghost := ⟨0, fun _ => 0, fun _ => 0, fun _ => 0, fun b => if b < w.heap.size then .imm else .free⟩
theorem allImm_rel (w : World) (hg : ∀ h, Gl P h → ∃ m, w.cell? ⟨h, 0, none⟩ = some (.int .i64 m)) : StoreRel P (allImm w) ⟨0, []⟩ w := by
 refine ⟨rfl, fun b hb => ?_, fun b i hb => ?_, fun _ _ => rfl, fun i hi => absurd hi (Nat.not_lt_zero i), fun h hh => ⟨?_, hg h hh⟩⟩
 rotate_right
 ·obtain ⟨m, hm⟩ := hg h hh
  simp only [Ghost.imm, allImm]
  rw [if_pos (cell_lt hm)]
 ·simp only [allImm] at hb
  split at hb
  ·assumption
  ·exact absurd rfl hb
 ·simp only [allImm] at hb
  split at hb <;> cases hb
theorem law_walk {f : FuncId} {args : List AV} {vs : List Value} (hc : PureC P f args (.d (.bool true))) (hg : ∀ h, Gl P h → ∃ m, w.cell? ⟨h, 0, none⟩ = some (.int .i64 m)) (hrep : RepL (allImm w) w args vs) (hout : Callable P f) :
  Calls P f vs.toArray w fun e w' => e = .returned (.bool true) ∧ RowKit.Below w.heap.size w w' := by
 rcases hc ⟨0, []⟩ with h | ⟨fn, e, h1, h2, h3, h4⟩
 ·refine (h.2 (allImm w) w vs (allImm_rel w hg) hrep).mono fun e w' ⟨v, g', σ', r, he, hE, hR, hr, hv, _⟩ => ?_
  subst hv
  have hv : v = .bool true := by cases hr with | d h => cases h; rfl
  subst hv
  refine ⟨he, hE.os, hE.tape, hE.output, hE.size, fun k hk => ?_⟩
  exact (hE.keep k hk (fun i hi => by simp only [allImm] at hi; split at hi <;> cases hi)).2
 ·obtain ⟨fn', q1, q2, q3⟩ := hout
  rw [h1] at q1
  cases q1
  rw [h3] at q3; cases q3
theorem one_gl {y : Nat} (h : P.globalNamed "internal/bytealg.MaxLen" = some y) {w : World} (hm : ∃ m, w.cell? ⟨y, 0, none⟩ = some (.int .i64 m)) : ∀ x, Gl P x → ∃ m, w.cell? ⟨x, 0, none⟩ = some (.int .i64 m) := fun x hx => by rw [Gl, h] at hx; cases hx; exact hm
theorem sizes_at {ts : List TypeId} {ds : List (DataW H)} (h : (DataW.weightsEach P ts ds).all (· ≤ reachBytes) = true) (j : Nat) {t : TypeId} {d : DataW H} (ht : ts[j]? = some t) (hd : ds[j]? = some d) : ∀ x ∈ d.weights P t, x ≤ reachBytes := fun x hx => by
 have := List.all_eq_true.1 h x (DataW.weights_mem_each ht hd x hx)
 simpa using this
end
end Go.Aw

