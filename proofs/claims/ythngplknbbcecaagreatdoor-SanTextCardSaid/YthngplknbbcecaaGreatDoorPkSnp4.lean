/- What is proved here serves the claim: the walk over the code and the plain laws, part 4 of 18. -/
import Derived.Test.YthngplknbbcecaaGreatDoorPkSnp3
import Derived.Laws.BytesArg
namespace Go.Aw
set_option linter.unusedVariables false
set_option linter.unusedSimpArgs false
section
variable {P : Program}
def CellsOf (g : Ghost) (w : World) (size : Nat) (rows : List (List AV)) (cells : Array Value) : Prop :=
 cells.size = rows.length * size ∧ ∀ (r : Nat) row, rows[r]? = some row → row.length = size ∧ ∀ (j : Nat) a, row[j]? = some a → ∃ v, cells[r * size + j]? = some v ∧ RepA g w a v ∧ v.oneCell' = true
theorem CellsOf.mono {g g' : Ghost} {w w' : World} (k : Keeps g w g' w') {size : Nat} {rows : List (List AV)} {cells : Array Value} (h : CellsOf g w size rows cells) : CellsOf g' w' size rows cells :=
 ⟨h.1, fun r row hr => ⟨(h.2 r row hr).1, fun j a ha => by obtain ⟨v, hv, hra, ho⟩ := (h.2 r row hr).2 j a ha; exact ⟨v, hv, hra.mono k, ho⟩⟩⟩
theorem CellsOf.append {g : Ghost} {w : World} {size : Nat} {xs ys : List (List AV)} {cx cy : Array Value} (hx : CellsOf g w size xs cx) (hy : CellsOf g w size ys cy) : CellsOf g w size (xs ++ ys) (cx ++ cy) := by
 refine ⟨by rw [Array.size_append, hx.1, hy.1, List.length_append, Nat.add_mul], fun r row hr => ?_⟩
 by_cases h : r < xs.length
 ·rw [List.getElem?_append_left h] at hr
  obtain ⟨h1, h2⟩ := hx.2 r row hr
  refine ⟨h1, fun j a ha => ?_⟩
  obtain ⟨v, hv, hra⟩ := h2 j a ha
  refine ⟨v, ?_, hra⟩
  have : r * size + j < cx.size := by
   have := lt_of_some ha
   rw [hx.1]
   have := Nat.mul_le_mul_right size (show r + 1 ≤ xs.length from h)
   rw [Nat.succ_mul] at this
   omega
  rw [Array.getElem?_append_left this]; exact hv
 ·rw [List.getElem?_append_right (by omega)] at hr
  obtain ⟨h1, h2⟩ := hy.2 _ row hr
  refine ⟨h1, fun j a ha => ?_⟩
  obtain ⟨v, hv, hra⟩ := h2 j a ha
  refine ⟨v, ?_, hra⟩
  have e : r * size + j = cx.size + ((r - xs.length) * size + j) := by
   rw [hx.1]
   have : r * size = xs.length * size + (r - xs.length) * size := by rw [← Nat.add_mul]; congr 1; omega
   omega
  rw [e, Array.getElem?_append_right (by omega)]
  rw [show cx.size + ((r - xs.length) * size + j) - cx.size = (r - xs.length) * size + j by omega]
  exact hv
theorem run_first_rows {g : Ghost} {w : World} {size len cap : Nat} {b o : Nat} {rows : List (List AV)} (hs : 1 ≤ size) (hlen : rows.length = len)
  (h : ∀ (r : Nat) row, rows[r]? = some row → row.length = size ∧ ∀ (j : Nat) a, row[j]? = some a → ∃ v, w.cell? ⟨b, o + (r * size + j), none⟩ = some v ∧ RepA g w a v ∧ v.oneCell' = true) :
  ∃ cells, (Builtin.firstCells size len (.slice (some ⟨b, o, none⟩) len cap)).run P w = .ok cells w ∧ CellsOf g w size rows cells := by
 have hk : ∀ k, k < len * size → ∃ v, w.cell? ⟨b, o + k, none⟩ = some v ∧ v.oneCell' = true := by
  intro k hk
  have hr : k / size < rows.length := by rw [hlen]; exact Nat.div_lt_of_lt_mul (by rw [Nat.mul_comm]; exact hk)
  obtain ⟨row, hrow⟩ := getElem?_of_lt hr
  obtain ⟨h1, h2⟩ := h _ row hrow
  have hj : k % size < row.length := by rw [h1]; exact Nat.mod_lt _ (by omega)
  obtain ⟨a, ha⟩ := getElem?_of_lt hj
  obtain ⟨v, hv, _, ho⟩ := h2 _ a ha
  have hdm := Nat.div_add_mod k size
  rw [Nat.mul_comm] at hdm
  exact ⟨v, by rw [← hv, hdm], ho⟩
 obtain ⟨vs, hvl, hvs⟩ := pick_list (R := fun j (_ : Nat) v => w.cell? ⟨b, o + j, none⟩ = some v ∧ v.oneCell' = true) (List.range (len * size)) (fun j a ha => hk j (by simpa using lt_of_some ha))
 have hvl' : vs.length = len * size := by simpa using hvl
 refine ⟨vs.toArray, ?_, by simp [hvl', hlen], fun r row hr => ?_⟩
 ·have := run_loadCells_list (P := P) w ⟨b, o, none⟩ vs (fun j v hj => by
   rw [Addr.add_none]
   obtain ⟨a, ha⟩ := getElem?_of_lt (l := List.range (len * size)) (j := j) (by rw [List.length_range, ← hvl']; exact lt_of_some hj)
   exact (hvs j a v ha hj).1)
  rw [hvl'] at this
  exact this
 ·obtain ⟨h1, h2⟩ := h r row hr
  refine ⟨h1, fun j a ha => ?_⟩
  obtain ⟨v, hv, hra, ho⟩ := h2 j a ha
  refine ⟨v, ?_, hra, ho⟩
  have hlt : r * size + j < len * size := by
   have := lt_of_some ha
   have hrl := lt_of_some hr
   have := Nat.mul_le_mul_right size (show r + 1 ≤ len by omega)
   rw [Nat.succ_mul] at this
   omega
  obtain ⟨u, hu⟩ := getElem?_of_lt (l := vs) (j := r * size + j) (by omega)
  obtain ⟨x, hx⟩ := getElem?_of_lt (l := List.range (len * size)) (j := r * size + j) (by simpa using hlt)
  have hcu := (hvs _ x u hx hu).1
  rw [hcu] at hv
  cases hv
  simpa using hu
theorem dt_sl {g : Ghost} {w : World} {rows : List (List D)} {v : Value} (h : RepA g w (.dt rows) v) : ∃ a, v = .slice a rows.length rows.length ∧ RepD g.imm w (.sl rows) v := by
 cases h with
 | dt _ a h => exact ⟨a, rfl, h⟩
theorem src_sl {g : Ghost} {w : World} {rows : List (List D)} {v : Value} {size : Nat} (h : RepD g.imm w (.sl rows) v) (hs : 1 ≤ size) (hr : ∀ row ∈ rows.map (fun r => r.map AV.d), row.length = size ∧ ∀ a ∈ row, a.one = true) :
  ∃ cells, (Builtin.lenOf v).run P w = .ok rows.length w ∧ (Builtin.firstCells size rows.length v).run P w = .ok cells w ∧ CellsOf g w size (rows.map fun r => r.map .d) cells := by
 cases h with
 | sl0 a cap =>
  refine ⟨#[], by simp [Builtin.lenOf], ?_, ⟨by simp, fun r row hr => by simp at hr⟩⟩
  cases a with
  | none => simp [Builtin.firstCells]
  | some a => simp [Builtin.firstCells, loadCells, loadCellsFrom]
 | sl _ b o cap sz f hI hcap hsz hc hd =>
  have hrun := run_first_rows (P := P) (g := g) (w := w) (size := size) (len := rows.length) (cap := cap) (b := b) (o := o) (rows := rows.map fun r => r.map .d) hs (by simp) (fun r row hrow => by
   rw [List.getElem?_map] at hrow
   cases hx : rows[r]? with
   | none => rw [hx] at hrow; cases hrow
   | some x =>
    rw [hx] at hrow
    cases hrow
    have hlx : x.length = size := by
     have := (hr _ (List.mem_map_of_mem (List.mem_of_getElem? hx))).1
     simpa using this
    have hsz' : sz = size := by rw [← hlx]; exact (hsz r x hx).symm
    subst hsz'
    refine ⟨by simpa using hlx, fun j a ha => ?_⟩
    rw [List.getElem?_map] at ha
    cases hy : x[j]? with
    | none => rw [hy] at ha; cases ha
    | some y =>
     rw [hy] at ha; cases ha
     have hra : RepA g w (.d y) (f r j) := .d (hd r j x y hx hy)
     exact ⟨_, hc r j x y hx hy, hra, one_ok hra rfl⟩)
  obtain ⟨cells, h1, h2⟩ := hrun
  exact ⟨cells, by simp [Builtin.lenOf], h1, h2⟩
theorem src_ok {g : Ghost} {σ : Store} {w : World} {y : AV} {vy : Value} {rows : List (List AV)} {size : Nat} (hs : srcRows σ y = some rows) (hlen : srcLen y rows.length) (R : StoreRel P g σ w) (hy : RepA g w y vy) (h1 : 1 ≤ size)
  (hr : ∀ row ∈ rows, row.length = size ∧ ∀ a ∈ row, a.one = true) :
  ∃ cells, (Builtin.lenOf vy).run P w = .ok rows.length w ∧ (Builtin.firstCells size rows.length vy).run P w = .ok cells w ∧ CellsOf g w size rows cells := by
 have own : ∀ (i lo len cap : Nat), i < g.n → (∀ sz rs, σ.get i = .rows sz rs → rows = (rs.drop lo).take len) → (∃ sz rs, σ.get i = .rows sz rs) → vy = .slice (some ⟨g.blk i, lo * g.sz i, none⟩) len cap →
   (rows.length = len) → ∃ cells, (Builtin.lenOf vy).run P w = .ok rows.length w ∧ (Builtin.firstCells size rows.length vy).run P w = .ok cells w ∧ CellsOf g w size rows cells := by
  rintro i lo len cap hi hrows ⟨sz, rs, ho⟩ rfl hlen
  have hrs := hrows sz rs ho
  have hob := R.ob i hi
  rw [ho] at hob
  rcases hob with ⟨h0, _, _⟩ | hob
  ·have hz : rows = [] := by rw [hrs, h0]; simp
   subst hz
   subst hlen
   exact ⟨#[], by simp [Builtin.lenOf], by simp [Builtin.firstCells, loadCells, loadCellsFrom], ⟨by simp, fun r row hr => by simp at hr⟩⟩
  obtain ⟨hk, hz, c, fr, hw, hf, hsz, hl, hrr⟩ := hob
  have hrun := run_first_rows (P := P) (g := g) (w := w) (size := size) (len := len) (cap := cap) (b := g.blk i) (o := lo * g.sz i) (rows := rows) h1 hlen (fun r row hrow => by
   have hmem := hr row (List.mem_of_getElem? hrow)
   have hrow' : rs[lo + r]? = some row := by
    rw [hrs, List.getElem?_take] at hrow
    split at hrow
    ·rw [List.getElem?_drop] at hrow; exact hrow
    ·cases hrow
   obtain ⟨q1, q2⟩ := hrr (lo + r) row hrow'
   have hsz' : g.sz i = size := by rw [← q1]; exact hmem.1
   refine ⟨hmem.1, fun j a ha => ?_⟩
   obtain ⟨v, hv, hra, ho1⟩ := q2 j a ha
   refine ⟨v, ?_, hra, ho1⟩
   rw [cell_at hw, ← hv]
   congr 1
   rw [hsz', Nat.add_mul]; omega)
  obtain ⟨cells, h2, h3⟩ := hrun
  exact ⟨cells, by simp [Builtin.lenOf, hlen], by rw [hlen]; exact h2, h3⟩
 cases y with
 | nil =>
  cases hs
  cases hy
  exact ⟨#[], by simp [Builtin.lenOf], by simp [Builtin.firstCells], ⟨by simp, fun r row hr => by simp at hr⟩⟩
 | d x =>
  cases x with
  | sl ds =>
   cases hs
   cases hy with
   | d hy =>
   obtain ⟨cells, q1, q2, q3⟩ := src_sl (P := P) hy h1 hr
   exact ⟨cells, by simpa using q1, by simpa using q2, q3⟩
  | str s =>
   cases hs
   cases repA_str hy
   have hsz : (⟨s.toArray⟩ : ByteArray).size = s.length := by show s.toArray.size = _; simp
   have hsize : s = [] ∨ size = 1 := by
    cases s with
    | nil => exact .inl rfl
    | cons b s => right; have := (hr [.d (.int .u8 b.toNat)] (by simp [bytesA])).1; simpa using this.symm
   refine ⟨(s.map fun b => Value.int .u8 b.toNat).toArray, by simp [Builtin.lenOf, hsz, bytesA], ?_, ?_⟩
   ·simp only [bytesA, List.length_map, Builtin.firstCells, Sem.run_pure]
    congr 1
    have : ((⟨s.toArray⟩ : ByteArray).extract 0 s.length) = ⟨s.toArray⟩ := by
     refine toArray_bytes _ _ ?_
     rw [Lib.extract_data]; simp
    rw [this]
    simp
   ·refine ⟨?_, fun r row hrow => ?_⟩
    ·rcases hsize with rfl | rfl <;> simp [bytesA]
    ·refine ⟨(hr row (List.mem_of_getElem? hrow)).1, fun j a ha => ?_⟩
     have hlr := (hr row (List.mem_of_getElem? hrow)).1
     simp only [bytesA, List.getElem?_map] at hrow
     cases hb : s[r]? with
     | none => rw [hb] at hrow; cases hrow
     | some b =>
      rw [hb] at hrow; cases hrow
      have hs1 : size = 1 := by simpa using hlr.symm
      subst hs1
      cases j with
      | zero =>
       simp at ha; subst ha
       exact ⟨.int .u8 b.toNat, by simp [hb], .d (.int _ _), rfl⟩
      | succ j => simp at ha
  | _ => cases hs
 | dt ds =>
  cases hs
  obtain ⟨a, _, hd⟩ := dt_sl hy
  obtain ⟨cells, q1, q2, q3⟩ := src_sl (P := P) hd h1 hr
  exact ⟨cells, by simpa using q1, by simpa using q2, q3⟩
 | own i lo len =>
  cases hy with
  | own0 _ _ hi =>
  have hz : rows = [] := List.length_eq_zero_iff.1 hlen
  subst hz
  exact ⟨#[], by simp [Builtin.lenOf], by simp [Builtin.firstCells], ⟨by simp, fun r row hr => by simp at hr⟩⟩
  | own _ _ _ cap hi hc hl =>
  dsimp only [srcRows] at hs
  cases ho : σ.get i with
  | rows sz rs =>
   rw [ho] at hs
   cases hs
   exact own i lo len cap hi (fun sz' rs' h => by rw [ho] at h; cases h; rfl) ⟨sz, rs, ho⟩ rfl hlen
  | _ => rw [ho] at hs; cases hs
 | tight i lo len =>
  cases hy with
  | tight0 _ _ hi =>
  have hz : rows = [] := List.length_eq_zero_iff.1 hlen
  subst hz
  exact ⟨#[], by simp [Builtin.lenOf], by simp [Builtin.firstCells], ⟨by simp, fun r row hr => by simp at hr⟩⟩
  | tight _ _ _ hi =>
  dsimp only [srcRows] at hs
  cases ho : σ.get i with
  | rows sz rs =>
   rw [ho] at hs
   cases hs
   exact own i lo len len hi (fun sz' rs' h => by rw [ho] at h; cases h; rfl) ⟨sz, rs, ho⟩ rfl hlen
  | _ => rw [ho] at hs; cases hs
 | _ => cases hs
theorem td_src {u : Nat} (h : srcTD (nth (tabOf P) u).d = true) : (∃ e, P.underlying u = some (.slice e)) ∨ P.underlying u = some .string := by
 cases hd : (nth (tabOf P) u).d with
 | slice e => exact .inl ⟨_, und_slice hd⟩
 | str => exact .inr (und_str hd)
 | _ => rw [hd] at h; cases h
theorem growBy_le (newLen : Nat) : ∀ (rounds c : Nat), c < newLen → 256 ≤ c → Builtin.growBy newLen rounds c ≤ 2 * newLen
 | 0, c, h, _ => by simp [Builtin.growBy]; omega
 | r + 1, c, h, h2 => by
  simp only [Builtin.growBy]
  split
  ·omega
  ·by_cases hlt : c + (c + 768) / 4 < newLen
   ·exact growBy_le newLen r _ hlt (by omega)
   ·cases r with
    | zero => simp [Builtin.growBy]; omega
    | succ r => simp only [Builtin.growBy]; rw [if_pos (by omega)]; omega
theorem nextcap_le {need cap : Nat} (h : cap < need) : Builtin.nextslicecap need cap ≤ 2 * need := by
 unfold Builtin.nextslicecap
 split
 ·omega
 ·split
  ·omega
  ·exact growBy_le need 4 cap h (by omega)
theorem run_append_new {w : World} {t u e ty n m cap : Nat} {base : Option Addr} {vy : Value} {old new : Array Value} {i : TypeInfo} {z : Value} (hu : P.underlying t = some (.slice e)) (huu : (∃ e, P.underlying u = some (.slice e)) ∨ P.underlying u = some .string)
  (hi : P.info? e = some i) (hz : i.zero = some z) (hby : 1 ≤ i.bytes) (hnocap : cap < n + m) (hbytes : (n + m) * i.bytes ≤ 140737488355328)
  (hlen : (Builtin.lenOf vy).run P w = .ok m w) (hold : (Builtin.firstCells i.size n (.slice base n cap)).run P w.drew = .ok old w.drew) (hnew : (Builtin.firstCells i.size m vy).run P w.drew = .ok new w.drew) :
  (Builtin.append_ #[t, u] ty #[.slice base n cap, vy]).run P w = .ok (.slice (some ⟨w.heap.size, 0, none⟩) (n + m) (grownCap w (n + m) cap e))
   (w.drew.alloc (.cells (old ++ new ++ Builtin.zeroCells z.cells (grownCap w (n + m) cap e - (n + m))) e)) := by
 have hn : ¬ (n + m ≤ cap) := by omega
 have h48' : ¬ (281474976710656 < Builtin.nextslicecap (n + m) cap * i.bytes) := by
  have h1 := nextcap_le hnocap
  have h2 := Nat.mul_le_mul_right i.bytes h1
  rw [Nat.mul_assoc] at h2
  omega
 have hb0 : i.bytes ≠ 0 := by omega
 rcases huu with ⟨e', huu⟩ | huu
 ·simp [Builtin.append_, run_underlying hu, run_underlying huu, sizeOf, typeInfo, zeroValue, hi, hz, hlen, hn, hb0, h48', Question.forced, hold, hnew, newRow, grownCap]
 ·simp [Builtin.append_, run_underlying hu, run_underlying huu, sizeOf, typeInfo, zeroValue, hi, hz, hlen, hn, hb0, h48', Question.forced, hold, hnew, newRow, grownCap]
theorem run_append_fits {w : World} {t u e ty n m cap b : Nat} {vy : Value} {new c : Array Value} {i : TypeInfo} {e' : TypeId} {fr : Nat × Nat} (hu : P.underlying t = some (.slice e)) (huu : (∃ e, P.underlying u = some (.slice e)) ∨ P.underlying u = some .string)
  (hi : P.info? e = some i) (hcap : n + m ≤ cap) (hlen : (Builtin.lenOf vy).run P w = .ok m w) (hnew : (Builtin.firstCells i.size m vy).run P w = .ok new w)
  (hw : w.heap[b]? = some (.cells c e' fr)) (hf : ∀ o, o < c.size → ¬ (fr.1 ≤ o ∧ o < fr.2)) (hfit : n * i.size + new.size ≤ c.size) (h1 : ∀ v ∈ new.toList, v.oneCell' = true) :
  (Builtin.append_ #[t, u] ty #[.slice (some ⟨b, 0, none⟩) n cap, vy]).run P w = .ok (.slice (some ⟨b, 0, none⟩) (n + m) cap) (w.setCells b (n * i.size) new.toList) := by
 have hst := run_storeCells_cells (P := P) b (n * i.size) new.toList 0 w (fun j hj => by
   rw [cell_at hw]; simp at hj ⊢; omega) (fun j hj => frozen_not hw (hf _ (by simp at hj; omega))) h1
 simp only [Nat.add_zero] at hst
 rcases huu with ⟨e', huu⟩ | huu
 ·simp [Builtin.append_, run_underlying hu, run_underlying huu, sizeOf, typeInfo, hi, hlen, hcap, hnew, Addr.add_none, hst]
 ·simp [Builtin.append_, run_underlying hu, run_underlying huu, sizeOf, typeInfo, hi, hlen, hcap, hnew, Addr.add_none, hst]
theorem zeroCells_size (z : Array Value) (n : Nat) : (Builtin.zeroCells z n).size = n * z.size := by simp [Builtin.zeroCells]
theorem append_new_ok {g : Ghost} {σ : Store} {w : World} (R : StoreRel P g σ w) {e size n m cap : Nat} {old new : List (List AV)} {co cn z : Array Value} (hco : CellsOf g w size old co) (hcn : CellsOf g w size new cn) (hz : z.size = size) (hnm : old.length + new.length = n + m) (hcap : n + m ≤ cap) :
  ∃ g' σ' w', w' = w.drew.alloc (.cells (co ++ cn ++ Builtin.zeroCells z (cap - (n + m))) e) ∧ σ' = σ.add (.rows (size, e) (old ++ new)) ∧ Ext g σ w g' σ' w' ∧ StoreRel P g' σ' w' ∧ RepA g' w' (.own σ.n 0 (n + m)) (.slice (some ⟨w.heap.size, 0, none⟩) (n + m) cap) := by
 have hcells := hco.append hcn
 have hsize : (co ++ cn ++ Builtin.zeroCells z (cap - (n + m))).size = cap * size := by
  rw [Array.size_append, hcells.1, List.length_append, hnm, zeroCells_size, hz, ← Nat.add_mul]
  congr 1; omega
 have hR := newRow_ok R (co ++ cn ++ Builtin.zeroCells z (cap - (n + m))) e (0, 0) (old ++ new) size cap (w' := w.drew.alloc (.cells (co ++ cn ++ Builtin.zeroCells z (cap - (n + m))) e)) rfl rfl rfl rfl (by intro o _; omega) hsize (by rw [List.length_append, hnm]; exact hcap)
  (fun r row hrow => by
   obtain ⟨h1, h2⟩ := hcells.2 r row hrow
   refine ⟨h1, fun j a ha => ?_⟩
   obtain ⟨v, hv, hra⟩ := h2 j a ha
   refine ⟨v, ?_, hra⟩
   have hlt : r * size + j < (co ++ cn).size := by
    rcases Nat.lt_or_ge (r * size + j) (co ++ cn).size with h | h
    ·exact h
    ·rw [Array.getElem?_eq_none h] at hv; cases hv
   rw [Array.getElem?_append_left hlt]; exact hv)
 refine ⟨_, _, _, rfl, rfl, hR.1, hR.2, ?_⟩
 have : RepA (g.grow w.heap.size size cap) (w.drew.alloc (.cells (co ++ cn ++ Builtin.zeroCells z (cap - (n + m))) e)) (.own g.n 0 (n + m)) (.slice (some ⟨(g.grow w.heap.size size cap).blk g.n, 0 * (g.grow w.heap.size size cap).sz g.n, none⟩) (n + m) cap) :=
  .own g.n 0 (n + m) cap (by simp [Ghost.grow]) (by simp [Ghost.grow]) hcap
 rw [R.n]
 simpa [Ghost.grow] using this
theorem append_sound {g : Ghost} {σ : Store} {w : World} {ts : List TypeId} {ty : Nat} {x y : AV} {vx vy : Value} {K : AV → Store → Prop} (hel : ∀ t e, P.underlying t = some (.slice e) → t ∈ ts → TOk P e) (h : aappend (tabOf P) σ ts x y K) (R : StoreRel P g σ w) (hx : RepA g w x vx) (hy : RepA g w y vy) :
  Up (P := P) g σ w K ((Builtin.append_ ts.toArray ty #[vx, vy]).run P w) := by
 unfold aappend at h
 split at h
 ·rename_i t u
  split at h
  ·rename_i e hd
   have hu := und_slice hd
   have hok := hel t e hu (by simp)
   obtain ⟨old, new, hso, hsn, hlo, hln, hbytes, h1s, h1b, hzs, hsu, hro, hrn, h⟩ := h
   simp only [addK_eq, setK_eq] at h
   obtain ⟨z, hz⟩ := Option.isSome_iff_exists.1 hzs
   obtain ⟨i, v, hi, hiz, hvs, hone, _, rfl⟩ := zero_of hok hz
   have hsi : i.size = P.cellsOf e := by simp [Program.cellsOf, hi]
   have hbi : i.bytes = P.bytesOf e := by simp [Program.bytesOf, hi]
   rw [hok.size] at h1s hro hrn h
   rw [hok.bytes] at hbytes h1b
   have huu := td_src hsu
   obtain ⟨cn, hl1, hf1, hcn⟩ := src_ok (P := P) hsn hln R hy h1s hrn
   have Kd : Keeps g w g w.drew := ⟨Nat.le_refl _, fun _ _ => ⟨rfl, rfl, rfl⟩, fun b hb => ⟨hb, rfl⟩⟩
   have Rd : StoreRel P g σ w.drew := ⟨R.n, R.lt, R.owner, R.dead, fun i hi => (R.ob i hi).mono Kd hi (fun b hb => ⟨hb, rfl⟩), glob_keep Kd R.glob⟩
   obtain ⟨cnd, _, hf1d, hcnd⟩ := src_ok (P := P) hsn hln Rd (hy.mono Kd) h1s hrn
   obtain ⟨co, _, hf0', hco⟩ := src_ok (P := P) hso hlo R hx h1s hro
   have Kb : Keeps g w.drew g w := ⟨Nat.le_refl _, fun _ _ => ⟨rfl, rfl, rfl⟩, fun b hb => ⟨hb, rfl⟩⟩
   have nothing : ∀ (base : Option Addr) (n cap : Nat), vx = .slice base n cap → n ≤ cap → new = [] → (Builtin.append_ [t, u].toArray ty #[vx, vy]).run P w = .ok (.slice base n cap) w := by
    rintro base n cap rfl hc rfl
    have hcn0 : cn = #[] := Array.eq_empty_of_size_eq_zero (by rw [hcn.1]; simp)
    subst hcn0
    rw [← hsi] at hf1
    simp only [List.length_nil] at hf1 hl1
    rcases huu with ⟨e', huu⟩ | huu
    ·cases base <;> simp [Builtin.append_, run_underlying hu, run_underlying huu, sizeOf, typeInfo, hi, hl1, hc, hf1, storeCells]
    ·cases base <;> simp [Builtin.append_, run_underlying hu, run_underlying huu, sizeOf, typeInfo, hi, hl1, hc, hf1, storeCells]
   have anew : ∀ (σ0 : Store) (R0 : StoreRel P g σ0 w) (hn : σ0.n = σ.n) (base : Option Addr) (n cap : Nat), vx = .slice base n cap → old.length = n → cap < n + new.length → K (.own σ.n 0 (old.length + new.length)) (σ0.add (.rows (P.cellsOf e, e) (old ++ new))) →
     (∀ g' σ' w', Ext g σ0 w g' σ' w' → Ext g σ w g' σ' w') → Up (P := P) g σ w K ((Builtin.append_ [t, u].toArray ty #[vx, vy]).run P w) := by
    rintro σ0 R0 hn base n cap rfl hln' hc hK hext
    obtain ⟨co, _, hf0, hco⟩ := src_ok (P := P) hso hlo Rd (hx.mono Kd) h1s hro
    have hsz0 : v.cells.size = P.cellsOf e := hvs
    rw [hln'] at hf0
    have hrun := run_append_new (P := P) (ty := ty) (base := base) hu huu hi hiz (by rw [hbi]; exact h1b) hc (by rw [hbi, ← hln']; exact hbytes) hl1 (by rw [hsi]; exact hf0) (by rw [hsi]; exact hf1d)
    rw [show [t, u].toArray = #[t, u] from rfl, hrun]
    obtain ⟨g', σ', w', rfl, rfl, hE, hS, hrep⟩ := append_new_ok R0 (e := e) (hco.mono Kb) (hcnd.mono Kb) hsz0 (by rw [hln']) (grownCap_ge w (n + new.length) cap e)
    refine ⟨g', _, _, hext _ _ _ hE, hS, ?_, hK⟩
    rw [hln', ← hn]
    exact hrep
   cases x with
   | own ix lo len =>
    cases lo with
    | succ lo => exact h.elim
    | zero =>
    obtain ⟨hrw, hK⟩ := chk_eq h
    obtain ⟨rs, ho⟩ := isRowsE_eq hrw
    have hlen : old.length = len := hlo
    have hx0 := hx
    cases hx with
    | own0 _ _ hix =>
    by_cases hn : new = []
    ·rw [nothing none 0 0 rfl (Nat.le_refl _) hn]
     have ho0 : old = [] := List.length_eq_zero_iff.1 hlen
     subst hn; subst ho0
     have hR := nowhere_ok (kill_ok R ix hix).1 (g.blk ix) (P.cellsOf e, e)
     refine ⟨_, _, _, hR.1.of_kill, hR.2, ?_, hK⟩
     exact .own0 _ 0 (by rw [R.n]; simp [Ghost.nowhere])
    ·have hpos : 0 < new.length := List.length_pos_iff.2 hn
     exact anew (σ.set ix .dead) (kill_ok R ix hix).1 rfl none 0 0 rfl hlen (by omega) hK (fun _ _ _ hE => hE.of_kill)
    | own _ _ _ cap hix hcap hlc =>
    have hob := R.ob ix hix
    rw [ho] at hob
    by_cases hn : new = []
    ·rw [nothing _ len cap rfl hlc hn]
     subst hn
     rcases hob with ⟨_, _, hc0⟩ | hob
     ·have hl0 : len = 0 := by omega
      have ho0 : old = [] := List.length_eq_zero_iff.1 (by omega)
      subst ho0
      subst hl0
      have hcap0 : cap = 0 := by omega
      subst hcap0
      have hR := nowhere_ok (kill_ok R ix hix).1 (g.blk ix) (P.cellsOf e, e)
      refine ⟨_, _, _, hR.1.of_kill, hR.2, ?_, hK⟩
      have hrep : RepA (g.nowhere (g.blk ix) (P.cellsOf e)) w (.own g.n 0 0) (.slice (some ⟨(g.nowhere (g.blk ix) (P.cellsOf e)).blk g.n, 0 * (g.nowhere (g.blk ix) (P.cellsOf e)).sz g.n, none⟩) 0 0) :=
       .own g.n 0 0 0 (by simp [Ghost.nowhere]) (by simp [Ghost.nowhere]) (Nat.le_refl _)
      rw [R.n]
      simpa [Ghost.nowhere] using hrep
     ·obtain ⟨hk, hzs', c, fr, hw, hf, hsz, hl', hrr⟩ := hob
      dsimp only at hzs'
      have hkeep : Keeps g w (g.grow (g.blk ix) (g.sz ix) (g.cap ix)) w :=
       grow_keeps R (by unfold Ghost.imm; rw [hk]; intro q; cases q) (fun b hb => rfl)
      have hR := over_ok R ix (.rows (P.cellsOf e, e) (old ++ [])) hix hk (by rw [ho]; intro q; cases q) (fun _ _ => .inr trivial) (w' := w) (fun _ _ => rfl) rfl rfl rfl rfl (by
       refine .inr ⟨by simp [Ghost.grow], by simp [Ghost.grow]; rw [hzs'], c, fr, by simp only [Ghost.grow, if_true]; exact hw, hf, by simp [Ghost.grow, hsz], by simp [Ghost.grow]; omega, fun r row hrow => ?_⟩
       rw [List.append_nil] at hrow
       have hold : rs[r]? = some row := by
        dsimp only [srcRows] at hso
        rw [ho] at hso
        cases hso
        rw [List.getElem?_take] at hrow
        split at hrow
        ·simpa using hrow
        ·cases hrow
       obtain ⟨q1, q2⟩ := hrr r row hold
       have hgs : (g.grow (g.blk ix) (g.sz ix) (g.cap ix)).sz g.n = g.sz ix := by simp [Ghost.grow]
       rw [hgs]
       refine ⟨q1, fun j a ha => ?_⟩
       obtain ⟨v', hv', hra, ho'⟩ := q2 j a ha
       exact ⟨v', hv', hra.mono hkeep, ho'⟩)
      refine ⟨_, _, _, hR.1, hR.2, ?_, hK⟩
      have hrep : RepA (g.grow (g.blk ix) (g.sz ix) (g.cap ix)) w (.own g.n 0 len) (.slice (some ⟨(g.grow (g.blk ix) (g.sz ix) (g.cap ix)).blk g.n, 0 * (g.grow (g.blk ix) (g.sz ix) (g.cap ix)).sz g.n, none⟩) len cap) :=
       .own g.n 0 _ cap (by simp [Ghost.grow]) (by simp [Ghost.grow]; omega) hlc
      rw [hlen, R.n]
      simpa [Ghost.grow] using hrep
    have hpos : 0 < new.length := List.length_pos_iff.2 hn
    rcases hob with ⟨_, _, hc0⟩ | hob
    ·exact anew (σ.set ix .dead) (kill_ok R ix hix).1 rfl _ len cap rfl hlen (by omega) hK (fun _ _ _ hE => hE.of_kill)
    obtain ⟨hk, hzs', c, fr, hw, hf, hsz, hl', hrr⟩ := hob
    dsimp only at hzs'
    by_cases hroom : len + new.length ≤ cap
    ·have hnewone : ∀ u ∈ cn.toList, u.oneCell' = true := by
      intro q hq
      obtain ⟨k, hk1, hk2⟩ := List.mem_iff_getElem.1 hq
      have hks : k < new.length * P.cellsOf e := by rw [← hcn.1]; simpa using hk1
      have hr1 : k / P.cellsOf e < new.length := Nat.div_lt_of_lt_mul (by rw [Nat.mul_comm]; exact hks)
      obtain ⟨row, hrow⟩ := getElem?_of_lt hr1
      obtain ⟨q1, q2⟩ := hcn.2 _ row hrow
      obtain ⟨a, ha⟩ := getElem?_of_lt (l := row) (j := k % P.cellsOf e) (by rw [q1]; exact Nat.mod_lt _ (by omega))
      obtain ⟨v', hv', _, ho'⟩ := q2 _ a ha
      have hdm := Nat.div_add_mod k (P.cellsOf e)
      rw [Nat.mul_comm] at hdm
      rw [hdm] at hv'
      have : cn[k]? = some q := by
       have h0 : cn.toList[k]? = some q := by rw [List.getElem?_eq_getElem hk1, hk2]
       simpa using h0
      rw [this] at hv'
      cases hv'
      exact ho'
     have hcc : c.size = cap * P.cellsOf e := by rw [hsz, ← hcap, Nat.zero_add, hzs']
     have hfit : len * i.size + cn.size ≤ c.size := by
      rw [hsi, hcn.1, hcc, ← Nat.add_mul]; exact Nat.mul_le_mul_right _ hroom
     have hrun := run_append_fits (P := P) (ty := ty) (b := g.blk ix) hu huu hi hroom hl1 (by rw [hsi]; exact hf1) hw hf hfit hnewone
     rw [show [t, u].toArray = #[t, u] from rfl, Nat.zero_mul, hrun]
     obtain ⟨s1, s2, s3, s4, _⟩ := setCells_same (g.blk ix) cn.toList (len * i.size) w
     have hheap := heap_setCells (g.blk ix) cn.toList (len * i.size) w c e fr hw (by simpa using hfit)
     have hother : ∀ b, b ≠ g.blk ix → (w.setCells (g.blk ix) (len * i.size) cn.toList).heap[b]? = w.heap[b]? := fun b hb => heap_setCells_ne _ hb _ _ _
     have hne : g.n ≠ ix := by omega
     have hkeep : Keeps g w (g.grow (g.blk ix) (g.sz ix) (g.cap ix)) (w.setCells (g.blk ix) (len * i.size) cn.toList) :=
      grow_keeps R (by unfold Ghost.imm; rw [hk]; intro q; cases q) (fun b hb => hother b (fun q => by subst q; rw [show g.kind (g.blk ix) = .imm from hb] at hk; cases hk))
     have hoc : CellsOf g w (P.cellsOf e) old co := hco
     have hR := over_ok R ix (.rows (P.cellsOf e, e) (old ++ new)) hix hk (by rw [ho]; intro q; cases q) (fun _ _ => .inr trivial) (w' := w.setCells (g.blk ix) (len * i.size) cn.toList) hother s1 s2 s3 s4 (by
      refine .inr ⟨by simp [Ghost.grow], by simp [Ghost.grow]; rw [hzs'], _, fr, by simp only [Ghost.grow, if_true]; exact hheap, ?_, ?_, ?_, fun r row hrow => ?_⟩
      ·intro o ho'
       refine hf o ?_
       simp at ho'
       omega
      ·simp [Ghost.grow, hsz]
       have := hfit
       rw [hsz] at this
       omega
      ·simp [Ghost.grow]; omega
      ·have hA : (c.toList.take (len * i.size)).length = len * i.size := by simp; omega
       have hget1 : ∀ k, k < len * i.size → ((c.toList.take (len * i.size) ++ cn.toList ++ c.toList.drop (len * i.size + cn.toList.length)).toArray)[k]? = c[k]? := by
        intro k hk'
        rw [List.getElem?_toArray, List.append_assoc, List.getElem?_append_left (by rw [hA]; exact hk'), List.getElem?_take, if_pos hk']; simp
       have hget2 : ∀ k, k < cn.size → ((c.toList.take (len * i.size) ++ cn.toList ++ c.toList.drop (len * i.size + cn.toList.length)).toArray)[len * i.size + k]? = cn[k]? := by
        intro k hk'
        rw [List.getElem?_toArray, List.append_assoc, List.getElem?_append_right (by rw [hA]; omega), hA, show len * i.size + k - len * i.size = k by omega, List.getElem?_append_left (by simpa using hk')]; simp
       have hgs : (g.grow (g.blk ix) (g.sz ix) (g.cap ix)).sz g.n = P.cellsOf e := by simp [Ghost.grow, hzs']
       rw [hgs]
       by_cases hr : r < old.length
       ·rw [List.getElem?_append_left hr] at hrow
        have hold : rs[r]? = some row := by
         dsimp only [srcRows] at hso
         rw [ho] at hso
         cases hso
         rw [List.getElem?_take] at hrow
         split at hrow
         ·simpa using hrow
         ·cases hrow
        obtain ⟨q1, q2⟩ := hrr r row hold
        refine ⟨by rw [q1, hzs'], fun j a ha => ?_⟩
        obtain ⟨v', hv', hra, ho'⟩ := q2 j a ha
        refine ⟨v', ?_, hra.mono hkeep, ho'⟩
        rw [hget1]
        ·rw [← hzs']; exact hv'
        ·have := lt_of_some ha
         rw [q1, hzs'] at this
         have h3 := Nat.mul_le_mul_right (P.cellsOf e) (show r + 1 ≤ len by omega)
         rw [Nat.succ_mul] at h3
         rw [hsi]; omega
       ·rw [List.getElem?_append_right (by omega)] at hrow
        obtain ⟨q1, q2⟩ := hcn.2 _ row hrow
        refine ⟨q1, fun j a ha => ?_⟩
        obtain ⟨v', hv', hra, ho'⟩ := q2 j a ha
        refine ⟨v', ?_, hra.mono hkeep, ho'⟩
        have e3 : r * P.cellsOf e + j = len * i.size + ((r - old.length) * P.cellsOf e + j) := by
         rw [hsi, ← hlen]
         have : r * P.cellsOf e = old.length * P.cellsOf e + (r - old.length) * P.cellsOf e := by rw [← Nat.add_mul]; congr 1; omega
         omega
        have hlt : (r - old.length) * P.cellsOf e + j < cn.size := by
         rcases Nat.lt_or_ge ((r - old.length) * P.cellsOf e + j) cn.size with h4 | h4
         ·exact h4
         ·rw [Array.getElem?_eq_none h4] at hv'; cases hv'
        rw [e3, hget2 _ hlt]
        exact hv')
     refine ⟨_, _, _, hR.1, hR.2, ?_, hK⟩
     have hrep : RepA (g.grow (g.blk ix) (g.sz ix) (g.cap ix)) (w.setCells (g.blk ix) (len * i.size) cn.toList) (.own g.n 0 (len + new.length))
       (.slice (some ⟨(g.grow (g.blk ix) (g.sz ix) (g.cap ix)).blk g.n, 0 * (g.grow (g.blk ix) (g.sz ix) (g.cap ix)).sz g.n, none⟩) (len + new.length) cap) :=
      .own g.n 0 _ cap (by simp [Ghost.grow]) (by simp [Ghost.grow]; omega) hroom
     rw [hlen, R.n]
     simpa [Ghost.grow] using hrep
    ·exact anew (σ.set ix .dead) (kill_ok R ix hix).1 rfl _ len cap rfl hlen (by omega) hK (fun _ _ _ hE => hE.of_kill)
   | nil =>
    dsimp only at h
    cases hx
    cases hso
    rcases h with ⟨hn, h⟩ | h
    ·rw [nothing none 0 0 rfl (Nat.le_refl _) hn]
     exact ⟨g, σ, .nil, Ext.refl _ _ _, R, .nil, h⟩
    by_cases hn : new = []
    ·rw [nothing none 0 0 rfl (Nat.le_refl _) hn]
     subst hn
     have hR := nowhere_ok R 0 (P.cellsOf e, e)
     refine ⟨_, _, _, hR.1, hR.2, ?_, h⟩
     exact .own0 _ 0 (by rw [R.n]; simp [Ghost.nowhere])
    ·have : 0 < new.length := List.length_pos_iff.2 hn
     exact anew σ R rfl none 0 0 rfl rfl (by omega) h (fun _ _ _ hE => hE)
   | tight ix lo len =>
    dsimp only at h
    have hx0 := hx
    cases hx with
    | tight0 _ _ hix =>
    by_cases hn : new = []
    ·rw [nothing none 0 0 rfl (Nat.le_refl _) hn]
     exact ⟨g, σ, _, Ext.refl _ _ _, R, hx0, onNil_nil h hn⟩
    ·have : 0 < new.length := List.length_pos_iff.2 hn
     exact anew σ R rfl none 0 0 rfl hlo (by omega) (onNil_cons h hn) (fun _ _ _ hE => hE)
    | tight _ _ _ hix =>
    by_cases hn : new = []
    ·rw [nothing _ len len rfl (Nat.le_refl _) hn]
     exact ⟨g, σ, _, Ext.refl _ _ _, R, hx0, onNil_nil h hn⟩
    ·have : 0 < new.length := List.length_pos_iff.2 hn
     exact anew σ R rfl _ len len rfl hlo (by omega) (onNil_cons h hn) (fun _ _ _ hE => hE)
   | dt rows =>
    dsimp only at h
    obtain ⟨a, rfl, hd'⟩ := dt_sl hx
    by_cases hn : new = []
    ·rw [nothing _ _ _ rfl (Nat.le_refl _) hn]
     exact ⟨g, σ, _, Ext.refl _ _ _, R, hx, onNil_nil h hn⟩
    ·have : 0 < new.length := List.length_pos_iff.2 hn
     have hol : old.length = rows.length := by cases hso; simp
     exact anew σ R rfl _ _ _ rfl hol (by omega) (onNil_cons h hn) (fun _ _ _ hE => hE)
   | _ => exact h.elim
  ·exact h.elim
 ·exact h.elim
theorem toDs_ok {g : Ghost} {w : World} {row : List AV} {ds : List D} {vs : List Value} (h : toDs row = some ds) (hr : RepL g w row vs) : ds.length = row.length ∧ ∀ (j : Nat) x v, ds[j]? = some x → vs[j]? = some v → RepD g.imm w x v := by
 induction row generalizing ds vs with
 | nil => cases h; exact ⟨rfl, by simp⟩
 | cons a row ih =>
  obtain ⟨v, us, rfl, ha, hr'⟩ := hr.uncons
  cases a with
  | d x =>
   simp only [toDs, Option.map_eq_some_iff] at h
   obtain ⟨ds', hd, rfl⟩ := h
   obtain ⟨q1, q2⟩ := ih hd hr'
   refine ⟨by simp [q1], fun j y u hy hu => ?_⟩
   cases j with
   | zero => simp at hy hu; subst hy; subst hu; cases ha with | d ha => exact ha
   | succ j => simp at hy hu; exact q2 j y u hy hu
  | nil =>
   simp only [toDs, Option.map_eq_some_iff] at h
   obtain ⟨ds', hd, rfl⟩ := h
   obtain ⟨q1, q2⟩ := ih hd hr'
   refine ⟨by simp [q1], fun j y u hy hu => ?_⟩
   cases j with
   | zero => simp at hy hu; subst hy; subst hu; cases ha; exact .sl0 _ _
   | succ j => simp at hy hu; exact q2 j y u hy hu
  | _ => simp [toDs] at h
theorem bytesD_get (s : List UInt8) (i : Nat) (row : List D) (h : (bytesD s)[i]? = some row) : ∃ b, s[i]? = some b ∧ row = [.int .u8 b.toNat] := by
 unfold bytesD at h
 rw [List.getElem?_map] at h
 cases hb : s[i]? with
 | none => rw [hb] at h; cases h
 | some b => rw [hb] at h; cases h; exact ⟨b, rfl, rfl⟩
theorem run_bytes_text {w : World} {src dst e : TypeId} {b o len cap : Nat} {s : List UInt8} (hs : P.underlying src = some (.slice e)) (he : P.underlying e = some (.int .u8)) (hd : P.underlying dst = some .string) (hl : s.length = len)
  (h : ∀ (j : Nat) x, s[j]? = some x → w.cell? ⟨b, o + j, none⟩ = some (.int .u8 x.toNat)) :
  (convert src dst (.slice (some ⟨b, o, none⟩) len cap)).run P w = .ok (.string ⟨s.toArray⟩) w := by
 have := run_convert_bytes_arg (P := P) (w := w) (src := src) (e := e) hs he b o len cap (s.map fun x => (x.toNat : Int)) (by simpa using hl) (fun i hi => by
  obtain ⟨x, hx⟩ := getElem?_of_lt (l := s) (j := i) (by omega)
  rw [h i x hx]
  simp [List.getD, hx]) dst hd
 rw [this]
 congr 2
 refine toArray_bytes _ _ ?_
 rw [strOfNums_data, List.map_map]
 conv => rhs; rw [← List.map_id s]
 refine List.map_congr_left (fun x _ => ?_)
 simp
theorem conv_sound {g : Ghost} {σ : Store} {w : World} {src dst : Nat} {x : AV} {v : Value} {K : AV → Store → Prop} (h : aconv (tabOf P) σ src dst x K) (R : StoreRel P g σ w) (hx : RepA g w x v) (hok : ∀ e, P.underlying dst = some (.slice e) → TOk P e) :
  Up (P := P) g σ w K ((convert src dst v).run P w) := by
 unfold aconv at h
 split at h
 ·rename_i k1 k2 k3 n hs hd
  cases repA_int hx
  obtain ⟨r, hr, hK⟩ := num_sound (g := g) (w := w) h
  exact Up.quiet R ⟨_, r, by simp [convert, run_underlying (und_int hs), run_underlying (und_int hd), Conv.intToInt], hr, hK⟩
 ·rename_i k1 k2 n hs hd
  cases repA_int hx
  refine Up.quiet R ⟨.string (Utf8.encode n), _, by simp [convert, run_underlying (und_int hs), run_underlying (und_str hd), Conv.intToString], ?_, h⟩
  have : RepA g w (.d (.str (Utf8.encode n).data.toList)) (.string ⟨(Utf8.encode n).data.toList.toArray⟩) := .d (.str _)
  simpa using this
 ·rename_i s hs hd
  cases repA_str hx
  exact Up.quiet R ⟨_, _, by simp [convert, run_underlying (und_str hs), run_underlying (und_str hd)], .d (.str _), h⟩
 ·rename_i e s hs hd
  cases repA_str hx
  obtain ⟨he, hsl, hK⟩ := chk_eq h
  simp only [addK_eq] at hK
  have hue := und_int (isU8TD_eq he)
  have hud := und_slice hd
  rw [Lib.run_convert_string_bytes w src dst e _ (und_str hs) hud hue]
  have hsz : (⟨s.toArray⟩ : ByteArray).size = s.length := by show s.toArray.size = _; simp
  have hcap := grownCap_ge w s.length 0 e
  have hcs : (Lib.bytesCells w e ⟨s.toArray⟩).size = grownCap w s.length 0 e := by
   simp only [Lib.bytesCells, hsz]
   simp
   omega
  have hw' : (Lib.bytesWorld w e ⟨s.toArray⟩).heap = w.heap.push (.cells (Lib.bytesCells w e ⟨s.toArray⟩) e ((Lib.bytesCells w e ⟨s.toArray⟩).size, (Lib.bytesCells w e ⟨s.toArray⟩).size + 1)) := by
   apply Array.ext_getElem?
   intro k
   rcases Nat.lt_trichotomy k w.heap.size with hk | hk | hk
   ·rw [Lib.bytesWorld_at_old w e _ k hk, Array.getElem?_push, if_neg (by omega)]
   ·subst hk; rw [Lib.bytesWorld_at_new, Array.getElem?_push, if_pos rfl]
   ·rw [Array.getElem?_eq_none (by rw [Lib.bytesWorld_size]; omega), Array.getElem?_eq_none (by simp; omega)]
  have hR := newRow_ok R (Lib.bytesCells w e ⟨s.toArray⟩) e ((Lib.bytesCells w e ⟨s.toArray⟩).size, (Lib.bytesCells w e ⟨s.toArray⟩).size + 1) (bytesA s) 1 (grownCap w s.length 0 e) (w' := Lib.bytesWorld w e ⟨s.toArray⟩) hw'
   (by simp [Lib.bytesWorld, World.freeze]; rfl) (by simp [Lib.bytesWorld, World.freeze]) (by simp [Lib.bytesWorld, World.freeze]; rfl) (by intro o ho; dsimp only; omega) (by rw [hcs]; omega) (by simp [bytesA]; exact hcap) (fun r row hrow => by
    simp only [bytesA, List.getElem?_map] at hrow
    cases hb : s[r]? with
    | none => rw [hb] at hrow; cases hrow
    | some b =>
     rw [hb] at hrow; cases hrow
     refine ⟨rfl, fun j a ha => ?_⟩
     cases j with
     | zero =>
      simp at ha; subst ha
      refine ⟨.int .u8 b.toNat, ?_, .d (.int _ _), rfl⟩
      have hlt := lt_of_some hb
      simp only [Lib.bytesCells]
      rw [Array.getElem?_append_left (by simp; omega)]
      simp [hb]
     | succ j => simp at ha)
  refine ⟨_, _, .own σ.n 0 s.length, hR.1, hR.2, ?_, hK⟩
  have hrep : RepA (g.grow w.heap.size 1 (grownCap w s.length 0 e)) (Lib.bytesWorld w e ⟨s.toArray⟩) (.own g.n 0 s.length)
    (.slice (some ⟨(g.grow w.heap.size 1 (grownCap w s.length 0 e)).blk g.n, 0 * (g.grow w.heap.size 1 (grownCap w s.length 0 e)).sz g.n, none⟩) s.length (grownCap w s.length 0 e)) :=
   .own g.n 0 _ _ (by simp [Ghost.grow]) (by simp [Ghost.grow]) hcap
  rw [R.n, hsz]
  simpa [Ghost.grow] using hrep
 ·rename_i e rows hs hd
  obtain ⟨he, s, rfl, hK⟩ := chk_eq h
  have hue := und_int (isU8TD_eq he)
  have hus := und_slice hs
  refine Up.quiet R ⟨.string ⟨s.toArray⟩, _, ?_, .d (.str _), hK⟩
  cases hx with
  | d hx =>
  generalize hrows : bytesD s = rows at hx
  cases hx with
  | sl0 a cap =>
   have hs0 : s = [] := by cases s <;> first | rfl | simp [bytesD] at hrows
   subst hs0
   cases a with
   | none => simp [convert, run_underlying hus, run_underlying hue, run_underlying (und_str hd), Conv.bytesToString]; rfl
   | some a => simp [convert, run_underlying hus, run_underlying hue, run_underlying (und_str hd), Conv.bytesToString, loadCells, loadCellsFrom]; rfl
  | sl _ b o cap sz f hI hcap hsz hc hr =>
   have hlen : rows.length = s.length := by rw [← hrows]; simp [bytesD]
   rw [hlen]
   refine run_bytes_text hus hue (und_str hd) rfl (fun j x hj => ?_)
   have hrow : rows[j]? = some [.int .u8 x.toNat] := by rw [← hrows]; simp [bytesD, hj]
   have h1 := hc j 0 _ (.int .u8 x.toNat) hrow rfl
   have h2 := repD_int (hr j 0 _ (.int .u8 x.toNat) hrow rfl)
   have hsz1 : sz = 1 := by simpa using (hsz j _ hrow).symm
   subst hsz1
   rw [h2] at h1
   simpa using h1
 ·rename_i e hs hd
  obtain ⟨he, hK⟩ := chk_eq h
  replace he := isU8TD_eq he
  cases hx
  refine Up.quiet R ⟨.string ⟨([] : List UInt8).toArray⟩, _, ?_, .d (.str _), hK⟩
  simp [convert, run_underlying (und_slice hs), run_underlying (und_int he), run_underlying (und_str hd), Conv.bytesToString]; rfl
 ·rename_i e i lo len hs hd
  obtain ⟨he, h⟩ := chk_eq h
  unfold ownText at h
  split at h
  case h_2 => exact h.elim
  rename_i sz rs ho
  obtain ⟨hs1, s, hrows, hl, hK⟩ := chk_eq h
  have hsz1 := Nat.eq_of_beq_eq_true hs1
  replace he := isU8TD_eq he
  have nul : s = [] → ∀ (a : Option Addr) (c : Nat), v = .slice a 0 c → Up (P := P) g σ w K ((convert src dst v).run P w) := by
   rintro rfl a c rfl
   refine Up.quiet R ⟨.string ⟨([] : List UInt8).toArray⟩, _, ?_, .d (.str _), hK⟩
   cases a with
   | none => simp [convert, run_underlying (und_slice hs), run_underlying (und_int he), run_underlying (und_str hd), Conv.bytesToString]; rfl
   | some a => simp [convert, run_underlying (und_slice hs), run_underlying (und_int he), run_underlying (und_str hd), Conv.bytesToString, loadCells, loadCellsFrom]; rfl
  cases hx with
  | own0 _ _ hi => exact nul (List.length_eq_zero_iff.1 hl) none 0 rfl
  | own _ _ _ cap hi hc hlc =>
  have hob := R.ob i hi
  rw [ho] at hob
  rcases hob with ⟨h0, _, _⟩ | hob
  ·have hs0 : s = [] := by
    have := congrArg List.length hrows
    rw [h0] at this
    simp [bytesA] at this
    exact List.length_eq_zero_iff.1 this.symm
   subst hs0
   subst hl
   exact nul rfl _ _ rfl
  obtain ⟨hk, hz, c, fr, hw, hf, hsz, hl', hrr⟩ := hob
  rw [hsz1] at hz
  refine Up.quiet R ⟨.string ⟨s.toArray⟩, _, ?_, .d (.str _), hK⟩
  refine run_bytes_text (und_slice hs) (und_int he) (und_str hd) hl (fun j x hj => ?_)
  have hrow : rs[lo + j]? = some [.d (.int .u8 x.toNat)] := by
   have h1 : ((rs.drop lo).take len)[j]? = some [.d (.int .u8 x.toNat)] := by rw [hrows]; simp [bytesA, hj]
   rw [List.getElem?_take] at h1
   split at h1
   ·rw [List.getElem?_drop] at h1; exact h1
   ·cases h1
  obtain ⟨_, q2⟩ := hrr _ _ hrow
  obtain ⟨v, hv, hra, _⟩ := q2 0 _ rfl
  have := repA_int hra
  subst this
  rw [cell_at hw, hz, ← hv, hz]
  congr 1
  omega
 ·rename_i e e' i lo len hs hd
  have h2 := (chk_eq h).2
  have he := (chk_eq h).1
  clear h
  rw [Bool.and_eq_true] at he
  obtain ⟨hsd, he⟩ := he
  replace hsd := Nat.eq_of_beq_eq_true hsd
  subst hsd
  replace he := isU8TD_eq he
  unfold ownWhole at h2
  split at h2
  case h_2 => exact h2.elim
  rename_i sz rs ho
  have hc1 := (chk_eq h2).1
  obtain ⟨s, hrows, hl, hK⟩ := (chk_eq h2).2
  clear h2
  rw [Bool.and_eq_true, Bool.and_eq_true] at hc1
  obtain ⟨hs1, hlo, hlen⟩ := hc1
  have hsz1 := Nat.eq_of_beq_eq_true hs1
  have hlo0 := Nat.eq_of_beq_eq_true hlo
  have hlen1 := Nat.le_of_ble_eq_true hlen
  subst hlo0
  simp only [setK_eq] at hK
  cases hx with
  | own0 _ _ hi => omega
  | own _ _ _ cap hi hc hlc =>
  have hob := R.ob i hi
  rw [ho] at hob
  rcases hob with ⟨h0, _, hcap0⟩ | hob
  ·omega
  obtain ⟨hk, hz, c, fr, hw, hf, hsz, hl', hrr⟩ := hob
  rw [hsz1] at hz
  have hsh : w.shape? (g.blk i) = some (sz.2, c.size) := by unfold World.shape?; rw [hw]
  have hrun : (convert src src (.slice (some ⟨g.blk i, 0 * g.sz i, none⟩) len cap)).run P w = .ok (.slice (some ⟨g.blk i, 0 * g.sz i, none⟩) len cap) (w.freeze ⟨g.blk i, c.size, none⟩ 1) := by
   simp [convert, run_underlying (und_slice hs), run_underlying (und_slice hd), run_underlying (und_int he), markStringish, hsh]
  have hue : e = e' := by
   have h1 := und_slice hs
   have h2 := und_slice hd
   rw [h1] at h2; cases h2; rfl
  rw [hrun]
  have hsize : (w.freeze ⟨g.blk i, c.size, none⟩ 1).heap.size = w.heap.size := by
   unfold World.freeze
   split
   ·rfl
   ·simp
  have hoth : ∀ x, x ≠ g.blk i → (w.freeze ⟨g.blk i, c.size, none⟩ 1).heap[x]? = w.heap[x]? := by
   intro x hx
   unfold World.freeze
   split
   ·rfl
   ·simp only [Array.getElem?_modify, if_neg (Ne.symm hx)]
  have hme : ∃ fr', (w.freeze ⟨g.blk i, c.size, none⟩ 1).heap[g.blk i]? = some (.cells c sz.2 fr') := by
   obtain ⟨f1, f2⟩ := fr
   unfold World.freeze
   rw [if_neg (by decide)]
   simp only [Array.getElem?_modify, if_true, hw, Option.map_some]
   exact ⟨_, rfl⟩
  obtain ⟨fr', hw'⟩ := hme
  have hR := freezeW_ok R i hi hk (by rw [ho]; intro q; cases q) hoth hsize (by unfold World.freeze; split <;> rfl) (by unfold World.freeze; split <;> rfl) (by unfold World.freeze; split <;> rfl)
  refine ⟨_, _, _, hR.1, hR.2, ?_, hK⟩
  have hlb : (bytesD s).length = len := by simp [bytesD, hl]
  rw [Nat.zero_mul, ← hlb]
  refine .d (.sl _ (g.blk i) 0 cap 1 (fun r _ => .int .u8 (s.getD r 0).toNat) (by simp [Ghost.imm]) (by omega) (fun r row hr => ?_) (fun r j row x hr hx => ?_) (fun r j row x hr hx => ?_))
  ·simp only [bytesD, List.getElem?_map] at hr
   cases hb : s[r]? with
   | none => rw [hb] at hr; cases hr
   | some b => rw [hb] at hr; cases hr; rfl
  ·simp only [bytesD, List.getElem?_map] at hr
   cases hb : s[r]? with
   | none => rw [hb] at hr; cases hr
   | some b =>
    rw [hb] at hr; cases hr
    have hj : j = 0 := by have := lt_of_some hx; simpa using this
    subst hj
    have hrow : rs[r]? = some [.d (.int .u8 b.toNat)] := by rw [hrows]; simp [bytesA, hb]
    obtain ⟨_, q2⟩ := hrr _ _ hrow
    obtain ⟨u, hv, hra, _⟩ := q2 0 _ rfl
    have := repA_int hra
    subst this
    rw [hz] at hv
    rw [cell_at hw', Nat.zero_add, hv]
    simp [List.getD, hb]
  ·simp only [bytesD, List.getElem?_map] at hr
   cases hb : s[r]? with
   | none => rw [hb] at hr; cases hr
   | some b =>
    rw [hb] at hr; cases hr
    have hj : j = 0 := by have := lt_of_some hx; simpa using this
    subst hj
    simp at hx
    subst hx
    simp only [List.getD, hb, Option.getD_some]
    exact .int _ _
 ·exact h.elim
end
end Go.Aw

namespace Go.Aw
set_option linter.unusedVariables false
set_option linter.unusedSimpArgs false
section
variable {P : Program}
theorem alloc_old (w : World) (o : Obj) (b : Nat) (h : b < w.heap.size) : (w.alloc o).heap[b]? = w.heap[b]? := by
 show (w.heap.push o)[b]? = _
 rw [Array.getElem?_push, if_neg (by omega)]
theorem makeMap_sound {g : Ghost} {σ : Store} {w : World} {t : Nat} {K : AV → Store → Prop} (h : K (.mp σ.n) (σ.add (.map []))) (R : StoreRel P g σ w) : Up (P := P) g σ w K ((Instr.makeMap t none).run P w) := by
 have hrun : (Instr.makeMap t none).run P w = .ok (.map (some w.heap.size)) (w.alloc (.map #[] 0)) := by simp [Instr.makeMap]
 rw [hrun]
 have hR := add_ok R (.map []) 0 0 (w' := w.alloc (.map #[] 0)) (fun b hb => alloc_old w _ b hb) (by simp) rfl rfl rfl
  ⟨by simp [Ghost.grow], #[], 0, by simpa [Ghost.grow] using heap_alloc_new w (.map #[] 0), rfl, by simp⟩
 refine ⟨_, _, _, hR.1, hR.2, ?_, h⟩
 have : RepA (g.grow w.heap.size 0 0) (w.alloc (.map #[] 0)) (.mp g.n) (.map (some ((g.grow w.heap.size 0 0).blk g.n))) := .mp g.n (by simp [Ghost.grow])
 rw [R.n]
 simpa [Ghost.grow] using this
theorem mput_none (s : List UInt8) (v : AV) : ∀ es, strKeys es → mlook s es = none → mput s v es = es ++ [(.d (.str s), v)]
 | [], _, _ => rfl
 | (k, u) :: es, hk, h => by
  obtain ⟨s', hs'⟩ := hk _ (List.mem_cons_self ..)
  dsimp only at hs'
  subst hs'
  simp only [mlook] at h
  simp only [mput]
  by_cases hss : s = s'
  ·rw [if_pos hss] at h; cases h
  ·rw [if_neg hss] at h ⊢
   rw [mput_none s v es (fun y hy => hk y (by simp [hy])) h]
   rfl
theorem findNow_at (s : List UInt8) (v : AV) : ∀ (es : List (AV × AV)) (entries : List MapEntry) (k : Nat) (g : Ghost) (w : World), es.length = entries.length → (∀ (j : Nat) x e, es[j]? = some x → entries[j]? = some e → RepA g w x.1 e.key ∧ RepA g w x.2 e.val) → strKeys es →
  (mlook s es = none ∧ Instr.findNow .string (.string ⟨s.toArray⟩) entries k = some none) ∨
  ∃ i e, Instr.findNow .string (.string ⟨s.toArray⟩) entries k = some (some (k + i, e.val)) ∧ entries[i]? = some e ∧ e.key = .string ⟨s.toArray⟩ ∧ mput s v es = es.set i (.d (.str s), v) ∧ i < es.length
 | [], entries, k, g, w, hl, hr, hk => by
  cases entries with
  | nil => exact .inl ⟨rfl, rfl⟩
  | cons e r => simp at hl
 | x :: es, entries, k, g, w, hl, hr, hk => by
  cases entries with
  | nil => simp at hl
  | cons e entries =>
   obtain ⟨s', hs'⟩ := hk x (by simp)
   obtain ⟨hke, hve⟩ := hr 0 x e (by simp) (by simp)
   obtain ⟨xk, xv⟩ := x
   dsimp only at hs' hke hve
   subst hs'
   have hke' := repA_str hke
   have hbeq : ((⟨s.toArray⟩ : ByteArray) == ⟨s'.toArray⟩) = decide (s = s') := by
    rw [beq_toListBytes, ByteArray.toList_mk, ByteArray.toList_mk, Bool.eq_iff_iff]; simp
   simp only [Instr.findNow, hke', Instr.sameNow, hbeq, mlook, mput]
   by_cases hss : s = s'
   ·subst hss
    right
    simp only [decide_true, if_true]
    exact ⟨0, e, rfl, by simp, hke', by simp, by simp⟩
   ·simp only [hss, decide_false, if_false]
    rcases findNow_at s v es entries (k + 1) g w (by simpa using hl) (fun j x e hx he => hr (j + 1) x e (by simpa using hx) (by simpa using he)) (fun y hy => hk y (by simp [hy])) with ⟨h1, h2⟩ | ⟨i, e', h1, h2, h3, h4, h5⟩
    ·exact .inl ⟨h1, h2⟩
    ·refine .inr ⟨i + 1, e', ?_, by simpa using h2, h3, by simp [h4], by simp; omega⟩
     rw [h1, show k + 1 + i = k + (i + 1) by omega]
theorem run_setMap {b : Nat} {entries entries' : Array MapEntry} {clock clock' : Nat} {w : World} (h : w.heap[b]? = some (.map entries clock)) : (setObj b (.map entries' clock')).run P w = .ok () { w with heap := w.heap.setIfInBounds b (.map entries' clock') } := by
 simp [setObj, Sem.run, h]
theorem mapUpdate_sound {g : Ghost} {σ : Store} {w : World} {t : Nat} {m k x : AV} {vm vk vx : Value} {K : Store → Prop} (h : amapUpdate (tabOf P) σ t m k x K) (R : StoreRel P g σ w) (hm : RepA g w m vm) (hk : RepA g w k vk) (hx : RepA g w x vx) :
  UpU (P := P) g σ w K ((Instr.mapUpdate t vm vk vx).run P w) := by
 unfold amapUpdate at h
 split at h
 ·rename_i kt e i s hd
  have hu := und_map hd
  obtain ⟨hkt, es, ho, hkeys, hK⟩ := h
  simp only [setK_eq] at hK
  have hukt := und_str hkt
  cases repA_str hk
  cases hm with
  | mp _ hi =>
  have hob := R.ob i hi
  rw [ho] at hob
  obtain ⟨hown, entries, clock, hw, hs, hrel⟩ := hob
  have hrun0 := run_getMap (P := P) hw
  have hlt : g.blk i < w.heap.size := by
   rcases Nat.lt_or_ge (g.blk i) w.heap.size with h | h
   ·exact h
   ·rw [Array.getElem?_eq_none h] at hw; cases hw
  have fin : ∀ (entries' : Array MapEntry) (clock' : Nat) (es' : List (AV × AV)), entries'.size = es'.length → (∀ (j : Nat) y e, es'[j]? = some y → entries'[j]? = some e → RepA g w y.1 e.key ∧ RepA g w y.2 e.val) →
    K (σ.set i (.map es')) → (Instr.mapUpdate t (.map (some (g.blk i))) (.string ⟨s.toArray⟩) vx).run P w = .ok () { w with heap := w.heap.setIfInBounds (g.blk i) (.map entries' clock') } →
    UpU (P := P) g σ w K ((Instr.mapUpdate t (.map (some (g.blk i))) (.string ⟨s.toArray⟩) vx).run P w) := by
   intro entries' clock' es' hs' hrel' hK' hrun
   rw [hrun]
   have hother : ∀ b, b ≠ g.blk i → ({ w with heap := w.heap.setIfInBounds (g.blk i) (.map entries' clock') } : World).heap[b]? = w.heap[b]? := by
    intro b hb
    simp only [Array.getElem?_setIfInBounds]
    rw [if_neg (fun e => hb e.symm)]
   have hkeep : Keeps g w g { w with heap := w.heap.setIfInBounds (g.blk i) (.map entries' clock') } := ⟨Nat.le_refl _, fun _ _ => ⟨rfl, rfl, rfl⟩, fun b hb => ⟨hb, hother b (fun q => by subst q; rw [show g.kind (g.blk i) = .imm from hb] at hown; cases hown)⟩⟩
   have hR := set_ok R i (.map es') hi (by rw [ho]; intro q; cases q) (w' := { w with heap := w.heap.setIfInBounds (g.blk i) (.map entries' clock') }) (fun b hb => hother b (fun q => hb (q ▸ hown))) (by simp) rfl rfl rfl
    ⟨hown, entries', clock', by simp [hlt], hs', fun j y e hy he => ⟨(hrel' j y e hy he).1.mono hkeep, (hrel' j y e hy he).2.mono hkeep⟩⟩
   exact ⟨g, _, hR.1, hR.2, hK'⟩
  rcases findNow_at s x es entries.toList 0 g w (by simp [hs]) (fun j y e hy he => hrel j y e hy (by simpa using he)) hkeys with ⟨hml, hf⟩ | ⟨j, e', hf, he', hkey, hput, hjl⟩
  ·have hfind : (Instr.findKey kt (.string ⟨s.toArray⟩) entries.toList).run P w = .ok none w := by
    simp only [Instr.findKey, Sem.run_bind, run_underlying hukt, Result.andThen, hf]
    rfl
   refine fin (entries.push { key := .string ⟨s.toArray⟩, val := vx, born := clock }) (clock + 1) (mput s x es) (by rw [mput_none s x es hkeys hml]; simp [hs]) (fun j y e hy he => ?_) hK ?_
   ·rw [mput_none s x es hkeys hml] at hy
    by_cases hj : j < es.length
    ·rw [List.getElem?_append_left hj] at hy
     rw [Array.getElem?_push, if_neg (by omega)] at he
     exact hrel j y e hy he
    ·rw [List.getElem?_append_right (by omega)] at hy
     have hj0 : j = entries.size := by have := lt_of_some hy; simp at this; omega
     rw [hj0, Array.getElem?_push, if_pos rfl] at he
     have : j - es.length = 0 := by omega
     rw [this] at hy
     cases hy
     cases he
     exact ⟨.d (.str s), hx⟩
   ·simp only [Instr.mapUpdate, Sem.run_bind, run_underlying hu, Result.andThen, hrun0, run_checkKey_str hukt, hfind]
    exact run_setMap hw
  ·have hfind : (Instr.findKey kt (.string ⟨s.toArray⟩) entries.toList).run P w = .ok (some (j, e'.val)) w := by
    simp only [Instr.findKey, Sem.run_bind, run_underlying hukt, Result.andThen, hf, Nat.zero_add]
    rfl
   have heq : ((entries[j]?).map (·.key)).getD (.string ⟨s.toArray⟩) = .string ⟨s.toArray⟩ := by
    have : entries[j]? = some e' := by simpa using he'
    rw [this]; simpa using hkey
   have hstays : (Instr.keyThatStays (.string ⟨s.toArray⟩) (.string ⟨s.toArray⟩)).run P w = .ok (.string ⟨s.toArray⟩) w := by
    have : Instr.sameBits 10000 (.string ⟨s.toArray⟩) (.string ⟨s.toArray⟩) = true := by
     show Instr.sameBits (9999 + 1) _ _ = true
     simp [Instr.sameBits, beq_toListBytes]
    simp [Instr.keyThatStays, this]
   refine fin (entries.modify j fun e => { e with key := .string ⟨s.toArray⟩, val := vx }) clock (mput s x es) (by rw [hput]; simp [hs]) (fun q y e hy he => ?_) hK ?_
   ·rw [hput] at hy
    rw [Array.getElem?_modify] at he
    by_cases hq : j = q
    ·subst hq
     rw [List.getElem?_set_self hjl] at hy
     rw [if_pos rfl] at he
     cases hy
     have : entries[j]? = some e' := by simpa using he'
     rw [this] at he
     cases he
     exact ⟨.d (.str s), hx⟩
    ·rw [List.getElem?_set_ne hq] at hy
     rw [if_neg hq] at he
     exact hrel q y e hy he
   ·simp only [Instr.mapUpdate, Sem.run_bind, run_underlying hu, Result.andThen, hrun0, run_checkKey_str hukt, hfind]
    rw [heq]
    simp only [Sem.run_bind, hstays, Result.andThen]
    exact run_setMap hw
 ·exact h.elim
theorem range_sound {g : Ghost} {σ : Store} {w : World} {t : Nat} {x : AV} {v : Value} {K : AV → Store → Prop} (h : arange (tabOf P) σ t x K) (R : StoreRel P g σ w) (hx : RepA g w x v) : Up (P := P) g σ w K ((Instr.range t v).run P w) := by
 unfold arange at h
 split at h
 ·rename_i s hd
  simp only [addK_eq] at h
  cases repA_str hx
  have hrun : (Instr.range t (.string ⟨s.toArray⟩)).run P w = .ok (.pointer (some ⟨w.heap.size, 0, none⟩)) (w.alloc (.stringIter ⟨s.toArray⟩ 0)) := by
   simp [Instr.range, run_underlying (und_str hd)]
  rw [hrun]
  have hR := add_ok R (.iter s 0) 0 0 (w' := w.alloc (.stringIter ⟨s.toArray⟩ 0)) (fun b hb => alloc_old w _ b hb) (by simp) rfl rfl rfl
   ⟨by simp [Ghost.grow], by simpa [Ghost.grow] using heap_alloc_new w (.stringIter ⟨s.toArray⟩ 0)⟩
  refine ⟨_, _, _, hR.1, hR.2, ?_, h⟩
  have : RepA (g.grow w.heap.size 0 0) (w.alloc (.stringIter ⟨s.toArray⟩ 0)) (.ref g.n 0 0) (.pointer (some ⟨(g.grow w.heap.size 0 0).blk g.n, 0 * (g.grow w.heap.size 0 0).sz g.n + 0, none⟩)) := .ref g.n 0 0 (by simp [Ghost.grow])
  rw [R.n]
  simpa [Ghost.grow] using this
 ·exact h.elim
theorem next_sound {g : Ghost} {σ : Store} {w : World} {it : AV} {v : Value} {ty : TypeId} {K : AV → Store → Prop} (h : anext σ it K) (R : StoreRel P g σ w) (hx : RepA g w it v) : Up (P := P) g σ w K ((Instr.next v true ty).run P w) := by
  unfold anext at h
  split at h
  · rename_i i
    split at h
    · rename_i s pos ho
      simp only [setK_eq] at h
      cases hx with
      | ref _ _ _ hi =>
      have hob := R.ob i hi
      rw [ho] at hob
      obtain ⟨hown, hw⟩ := hob
      have hlt : g.blk i < w.heap.size := by
        rcases Nat.lt_or_ge (g.blk i) w.heap.size with h | h
        · exact h
        · rw [Array.getElem?_eq_none h] at hw; cases hw
      have hsz : (⟨s.toArray⟩ : ByteArray).size = s.length := by show s.toArray.size = _; simp
      simp only [Nat.zero_mul, Nat.add_zero]
      by_cases hp : pos < s.length
      · have hrun : (Instr.next (.pointer (some ⟨g.blk i, 0, none⟩)) true ty).run P w = .ok (.tuple #[.bool true, .int .i64 pos, .int .i32 (Utf8.decode ⟨s.toArray⟩ pos).1])
            { w with heap := w.heap.setIfInBounds (g.blk i) (.stringIter ⟨s.toArray⟩ (pos + (Utf8.decode ⟨s.toArray⟩ pos).2)) } := by
          simp [Instr.next, getObj, setObj, Sem.run, hw, hsz, hp, goInt]
        rw [hrun]
        have hother : ∀ b, b ≠ g.blk i → ({ w with heap := w.heap.setIfInBounds (g.blk i) (.stringIter ⟨s.toArray⟩ (pos + (Utf8.decode ⟨s.toArray⟩ pos).2)) } : World).heap[b]? = w.heap[b]? := by
          intro b hb
          simp only [Array.getElem?_setIfInBounds]
          rw [if_neg (fun e => hb e.symm)]
        have hR := set_ok R i (.iter s (pos + (Utf8.decode ⟨s.toArray⟩ pos).2)) hi (by rw [ho]; intro q; cases q) (w' := { w with heap := w.heap.setIfInBounds (g.blk i) (.stringIter ⟨s.toArray⟩ (pos + (Utf8.decode ⟨s.toArray⟩ pos).2)) })
          (fun b hb => hother b (fun q => hb (q ▸ hown))) (by simp) rfl rfl rfl ⟨hown, by simp [hlt]⟩
        exact ⟨g, _, _, hR.1, hR.2, repL_tup (RepL.cons (.d (.bool _)) (RepL.cons (.d (.int _ _)) (RepL.cons (.d (.int _ _)) .nil))), h.1 hp⟩
      · have hrun : (Instr.next (.pointer (some ⟨g.blk i, 0, none⟩)) true ty).run P w = .ok (.tuple #[.bool false]) w := by
          simp [Instr.next, getObj, Sem.run, hw, hsz, hp]
        rw [hrun]
        exact ⟨g, σ, _, Ext.refl _ _ _, R, repL_tup (RepL.cons (.d (.bool _)) .nil), h.2 (by omega)⟩
    · exact h.elim
  · exact h.elim
theorem sliceArr_sound {g : Ghost} {σ : Store} {w : World} {t n e : Nat} {x : AV} {v : Value} {lo hi mx : Option AV} {lo' hi' mx' : Option Value} {K : AV → Store → Prop} (hu : P.underlying t = some (.array n e)) (h : asliceArr (tabOf P) σ n e x lo hi mx K) (R : StoreRel P g σ w)
  (hx : RepA g w x v) (hlo : RepO g w lo lo') (hhi : RepO g w hi hi') (hmx : RepO g w mx mx') : Up (P := P) g σ w K ((Instr.sliceAt t v lo' hi' mx').run P w) := by
 unfold asliceArr at h
 split at h
 ·rename_i i
  obtain rfl := repO_none hlo
  obtain rfl := repO_none hhi
  obtain rfl := repO_none hmx
  obtain ⟨hse, hkn, row, ds, e', ho, hrl, hn, hds, hK⟩ := h
  simp only [setK_eq] at hK
  obtain ⟨ti, hie, _⟩ := known_info hkn
  cases hx with
  | ref _ _ _ hi =>
  have hob := R.ob i hi
  rw [ho] at hob
  obtain ⟨hown, hz, c, fr, hw, hf, hsz, hl', hrr⟩ := hob.at (r := 0) (row := row) rfl
  have hrun : (Instr.sliceAt t (.pointer (some ⟨g.blk i, 0 * g.sz i + 0, none⟩)) none none none).run P w = .ok (.slice (some ⟨g.blk i, 0, none⟩) n n) w := by
   simp only [Instr.sliceAt, Sem.run_bind, run_underlying hu, Result.andThen, Instr.sureAddr, Sem.run_pure]
   rw [run_bounds (l := 0) (h := (n : Int)) (.inl ⟨rfl, rfl⟩) (.inl ⟨rfl, rfl⟩) (by omega)]
   simp only [Result.andThen, run_sizeOf hie, Sem.run_pure]
   simp [Addr.add_none]
  rw [hrun]
  have hR := freeze_ok R i hi hown (by rw [ho]; intro q; cases q)
  obtain ⟨q1, q2⟩ := hrr 0 row rfl
  obtain ⟨vs, hvl, hvs⟩ := pick_list (R := fun j a v => c[j]? = some v ∧ RepA g w a v) row (fun j a ha => by
   obtain ⟨u, hu', hra, _⟩ := q2 j a ha
   exact ⟨u, by simpa using hu', hra⟩)
  obtain ⟨hdl, hdr⟩ := toDs_ok hds (g := g) (w := w) (vs := vs) ⟨hvl.symm, fun j a u ha hu' => (hvs j a u ha hu').2⟩
  refine ⟨_, _, _, hR.1, hR.2, ?_, hK⟩
  have hlen : (ds.map fun x => [x]).length = n := by simp [hdl, hrl]
  have hmono : ∀ {x : D} {u : Value}, RepD g.imm w x u → RepD (Ghost.imm { g with kind := fun x => if x = g.blk i then Kind.imm else g.kind x }) w x u :=
   fun hd => hd.mono (fun b hb => ⟨by show (if b = g.blk i then Kind.imm else g.kind b) = .imm; split <;> first | rfl | exact hb, rfl⟩)
  have hrep : RepD (Ghost.imm { g with kind := fun x => if x = g.blk i then Kind.imm else g.kind x }) w (.sl (ds.map fun x => [x])) (.slice (some ⟨g.blk i, 0, none⟩) (ds.map fun x => [x]).length n) := by
   refine .sl _ (g.blk i) 0 n 1 (fun r j => vs.getD r undef) (by simp [Ghost.imm]) (by omega) (fun r row' hr' => ?_) (fun r j row' x hr' hx => ?_) (fun r j row' x hr' hx => ?_)
   ·rw [List.getElem?_map] at hr'
    cases hd : ds[r]? with
    | none => rw [hd] at hr'; cases hr'
    | some d => rw [hd] at hr'; cases hr'; rfl
   ·rw [List.getElem?_map] at hr'
    cases hd : ds[r]? with
    | none => rw [hd] at hr'; cases hr'
    | some d =>
     rw [hd] at hr'; cases hr'
     have hj : j = 0 := by have := lt_of_some hx; simpa using this
     subst hj
     obtain ⟨a, ha⟩ := getElem?_of_lt (l := row) (j := r) (by rw [← hdl]; exact lt_of_some hd)
     obtain ⟨u, hu'⟩ := getElem?_of_lt (l := vs) (j := r) (by rw [hvl]; exact lt_of_some ha)
     rw [cell_at hw, Nat.zero_add, Nat.mul_one, Nat.add_zero, (hvs r a u ha hu').1]
     simp [List.getD, hu']
   ·rw [List.getElem?_map] at hr'
    cases hd : ds[r]? with
    | none => rw [hd] at hr'; cases hr'
    | some d =>
     rw [hd] at hr'; cases hr'
     have hj : j = 0 := by have := lt_of_some hx; simpa using this
     subst hj
     simp at hx; subst hx
     obtain ⟨u, hu'⟩ := getElem?_of_lt (l := vs) (j := r) (by rw [hvl, ← hdl]; exact lt_of_some hd)
     simp only [List.getD, hu', Option.getD_some]
     exact hmono (hdr r d u hd hu')
  rw [hlen] at hrep
  exact .d hrep
 ·exact h.elim
end
end Go.Aw

