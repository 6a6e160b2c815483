/- The abstract walk, seventh part: maps, going through a text, an array as a slice; all operations together. -/
import Derived.Test.YtcmkiancbgmmhaaAw6
namespace Go.Aw
set_option linter.unusedVariables false
set_option linter.unusedSimpArgs false

section
variable {P : Program}

theorem alloc_old (w : World) (o : Obj) (b : Nat) (h : b < w.heap.size) : (w.alloc o).heap[b]? = w.heap[b]? := by
  show (w.heap.push o)[b]? = _
  rw [Array.getElem?_push, if_neg (by omega)]

theorem makeMap_sound {g : Ghost} {σ : Store} {w : World} {t : Nat} {K : AV → Store → Prop} (h : K (.mp σ.n) (σ.add (.map []))) (R : StoreRel P g σ w) : Up (P := P) g σ w K ((Instr.makeMap t none).run P w) := by
  have hrun : (Instr.makeMap t none).run P w = .ok (.map (some w.heap.size)) (w.alloc (.map #[] 0)) := by simp [Instr.makeMap]
  rw [hrun]
  have hR := add_ok R (.map []) 0 0 (w' := w.alloc (.map #[] 0)) (fun b hb => alloc_old w _ b hb) (by simp) rfl rfl rfl
    ⟨by simp [Ghost.grow], #[], 0, by simpa [Ghost.grow] using heap_alloc_new w (.map #[] 0), rfl, by simp⟩
  refine ⟨_, _, _, hR.1, hR.2, ?_, h⟩
  have : RepA (g.grow w.heap.size 0 0) (w.alloc (.map #[] 0)) (.mp g.n) (.map (some ((g.grow w.heap.size 0 0).blk g.n))) := .mp g.n (by simp [Ghost.grow])
  rw [R.n]
  simpa [Ghost.grow] using this

theorem mput_none (s : List UInt8) (v : AV) : ∀ es, strKeys es → mlook s es = none → mput s v es = es ++ [(.d (.str s), v)]
  | [], _, _ => rfl
  | (k, u) :: es, hk, h => by
    obtain ⟨s', hs'⟩ := hk _ (List.mem_cons_self ..)
    dsimp only at hs'
    subst hs'
    simp only [mlook] at h
    simp only [mput]
    by_cases hss : s = s'
    · rw [if_pos hss] at h; cases h
    · rw [if_neg hss] at h ⊢
      rw [mput_none s v es (fun y hy => hk y (by simp [hy])) h]
      rfl

/-- Where a text stands among a map's keys. -/
theorem findNow_at (s : List UInt8) (v : AV) : ∀ (es : List (AV × AV)) (entries : List MapEntry) (k : Nat) (g : Ghost) (w : World), es.length = entries.length → (∀ (j : Nat) x e, es[j]? = some x → entries[j]? = some e → RepA g w x.1 e.key ∧ RepA g w x.2 e.val) → strKeys es →
    (mlook s es = none ∧ Instr.findNow .string (.string ⟨s.toArray⟩) entries k = some none) ∨
    ∃ i e, Instr.findNow .string (.string ⟨s.toArray⟩) entries k = some (some (k + i, e.val)) ∧ entries[i]? = some e ∧ e.key = .string ⟨s.toArray⟩ ∧ mput s v es = es.set i (.d (.str s), v) ∧ i < es.length
  | [], entries, k, g, w, hl, hr, hk => by
    cases entries with
    | nil => exact .inl ⟨rfl, rfl⟩
    | cons e r => simp at hl
  | x :: es, entries, k, g, w, hl, hr, hk => by
    cases entries with
    | nil => simp at hl
    | cons e entries =>
      obtain ⟨s', hs'⟩ := hk x (by simp)
      obtain ⟨hke, hve⟩ := hr 0 x e (by simp) (by simp)
      obtain ⟨xk, xv⟩ := x
      dsimp only at hs' hke hve
      subst hs'
      have hke' := repA_str hke
      have hbeq : ((⟨s.toArray⟩ : ByteArray) == ⟨s'.toArray⟩) = decide (s = s') := by
        rw [beq_toListBytes, ByteArray.toList_mk, ByteArray.toList_mk, Bool.eq_iff_iff]; simp
      simp only [Instr.findNow, hke', Instr.sameNow, hbeq, mlook, mput]
      by_cases hss : s = s'
      · subst hss
        right
        simp only [decide_true, if_true]
        exact ⟨0, e, rfl, by simp, hke', by simp, by simp⟩
      · simp only [hss, decide_false, if_false]
        rcases findNow_at s v es entries (k + 1) g w (by simpa using hl) (fun j x e hx he => hr (j + 1) x e (by simpa using hx) (by simpa using he)) (fun y hy => hk y (by simp [hy])) with ⟨h1, h2⟩ | ⟨i, e', h1, h2, h3, h4, h5⟩
        · exact .inl ⟨h1, h2⟩
        · refine .inr ⟨i + 1, e', ?_, by simpa using h2, h3, by simp [h4], by simp; omega⟩
          rw [h1, show k + 1 + i = k + (i + 1) by omega]

theorem run_setMap {b : Nat} {entries entries' : Array MapEntry} {clock clock' : Nat} {w : World} (h : w.heap[b]? = some (.map entries clock)) : (setObj b (.map entries' clock')).run P w = .ok () { w with heap := w.heap.setIfInBounds b (.map entries' clock') } := by
  simp [setObj, Sem.run, h]

theorem mapUpdate_sound {g : Ghost} {σ : Store} {w : World} {t : Nat} {m k x : AV} {vm vk vx : Value} {K : Store → Prop} (h : amapUpdate (tabOf P) σ t m k x K) (R : StoreRel P g σ w) (hm : RepA g w m vm) (hk : RepA g w k vk) (hx : RepA g w x vx) :
    UpU (P := P) g σ w K ((Instr.mapUpdate t vm vk vx).run P w) := by
  unfold amapUpdate at h
  split at h
  · rename_i kt e i s hd
    have hu := und_map hd
    obtain ⟨hkt, es, ho, hkeys, hK⟩ := h
    simp only [setK_eq] at hK
    have hukt := und_str hkt
    cases repA_str hk
    cases hm with
    | mp _ hi =>
    have hob := R.ob i hi
    rw [ho] at hob
    obtain ⟨hown, entries, clock, hw, hs, hrel⟩ := hob
    have hrun0 := run_getMap (P := P) hw
    have hlt : g.blk i < w.heap.size := by
      rcases Nat.lt_or_ge (g.blk i) w.heap.size with h | h
      · exact h
      · rw [Array.getElem?_eq_none h] at hw; cases hw
    have fin : ∀ (entries' : Array MapEntry) (clock' : Nat) (es' : List (AV × AV)), entries'.size = es'.length → (∀ (j : Nat) y e, es'[j]? = some y → entries'[j]? = some e → RepA g w y.1 e.key ∧ RepA g w y.2 e.val) →
        K (σ.set i (.map es')) → (Instr.mapUpdate t (.map (some (g.blk i))) (.string ⟨s.toArray⟩) vx).run P w = .ok () { w with heap := w.heap.setIfInBounds (g.blk i) (.map entries' clock') } →
        UpU (P := P) g σ w K ((Instr.mapUpdate t (.map (some (g.blk i))) (.string ⟨s.toArray⟩) vx).run P w) := by
      intro entries' clock' es' hs' hrel' hK' hrun
      rw [hrun]
      have hother : ∀ b, b ≠ g.blk i → ({ w with heap := w.heap.setIfInBounds (g.blk i) (.map entries' clock') } : World).heap[b]? = w.heap[b]? := by
        intro b hb
        simp only [Array.getElem?_setIfInBounds]
        rw [if_neg (fun e => hb e.symm)]
      have hkeep : Keeps g w g { w with heap := w.heap.setIfInBounds (g.blk i) (.map entries' clock') } := ⟨Nat.le_refl _, fun _ _ => ⟨rfl, rfl, rfl⟩, fun b hb => ⟨hb, hother b (fun q => by subst q; rw [show g.kind (g.blk i) = .imm from hb] at hown; cases hown)⟩⟩
      have hR := set_ok R i (.map es') hi (by rw [ho]; intro q; cases q) (w' := { w with heap := w.heap.setIfInBounds (g.blk i) (.map entries' clock') }) (fun b hb => hother b (fun q => hb (q ▸ hown))) (by simp) rfl rfl rfl
        ⟨hown, entries', clock', by simp [hlt], hs', fun j y e hy he => ⟨(hrel' j y e hy he).1.mono hkeep, (hrel' j y e hy he).2.mono hkeep⟩⟩
      exact ⟨g, _, hR.1, hR.2, hK'⟩
    rcases findNow_at s x es entries.toList 0 g w (by simp [hs]) (fun j y e hy he => hrel j y e hy (by simpa using he)) hkeys with ⟨hml, hf⟩ | ⟨j, e', hf, he', hkey, hput, hjl⟩
    · have hfind : (Instr.findKey kt (.string ⟨s.toArray⟩) entries.toList).run P w = .ok none w := by
        simp only [Instr.findKey, Sem.run_bind, run_underlying hukt, Result.andThen, hf]
        rfl
      refine fin (entries.push { key := .string ⟨s.toArray⟩, val := vx, born := clock }) (clock + 1) (mput s x es) (by rw [mput_none s x es hkeys hml]; simp [hs]) (fun j y e hy he => ?_) hK ?_
      · rw [mput_none s x es hkeys hml] at hy
        by_cases hj : j < es.length
        · rw [List.getElem?_append_left hj] at hy
          rw [Array.getElem?_push, if_neg (by omega)] at he
          exact hrel j y e hy he
        · rw [List.getElem?_append_right (by omega)] at hy
          have hj0 : j = entries.size := by have := lt_of_some hy; simp at this; omega
          rw [hj0, Array.getElem?_push, if_pos rfl] at he
          have : j - es.length = 0 := by omega
          rw [this] at hy
          cases hy
          cases he
          exact ⟨.d (.str s), hx⟩
      · simp only [Instr.mapUpdate, Sem.run_bind, run_underlying hu, Result.andThen, hrun0, run_checkKey_str hukt, hfind]
        exact run_setMap hw
    · have hfind : (Instr.findKey kt (.string ⟨s.toArray⟩) entries.toList).run P w = .ok (some (j, e'.val)) w := by
        simp only [Instr.findKey, Sem.run_bind, run_underlying hukt, Result.andThen, hf, Nat.zero_add]
        rfl
      have heq : ((entries[j]?).map (·.key)).getD (.string ⟨s.toArray⟩) = .string ⟨s.toArray⟩ := by
        have : entries[j]? = some e' := by simpa using he'
        rw [this]; simpa using hkey
      have hstays : (Instr.keyThatStays (.string ⟨s.toArray⟩) (.string ⟨s.toArray⟩)).run P w = .ok (.string ⟨s.toArray⟩) w := by
        have : Instr.sameBits 10000 (.string ⟨s.toArray⟩) (.string ⟨s.toArray⟩) = true := by
          show Instr.sameBits (9999 + 1) _ _ = true
          simp [Instr.sameBits, beq_toListBytes]
        simp [Instr.keyThatStays, this]
      refine fin (entries.modify j fun e => { e with key := .string ⟨s.toArray⟩, val := vx }) clock (mput s x es) (by rw [hput]; simp [hs]) (fun q y e hy he => ?_) hK ?_
      · rw [hput] at hy
        rw [Array.getElem?_modify] at he
        by_cases hq : j = q
        · subst hq
          rw [List.getElem?_set_self hjl] at hy
          rw [if_pos rfl] at he
          cases hy
          have : entries[j]? = some e' := by simpa using he'
          rw [this] at he
          cases he
          exact ⟨.d (.str s), hx⟩
        · rw [List.getElem?_set_ne hq] at hy
          rw [if_neg hq] at he
          exact hrel q y e hy he
      · simp only [Instr.mapUpdate, Sem.run_bind, run_underlying hu, Result.andThen, hrun0, run_checkKey_str hukt, hfind]
        rw [heq]
        simp only [Sem.run_bind, hstays, Result.andThen]
        exact run_setMap hw
  · exact h.elim

theorem range_sound {g : Ghost} {σ : Store} {w : World} {t : Nat} {x : AV} {v : Value} {K : AV → Store → Prop} (h : arange (tabOf P) σ t x K) (R : StoreRel P g σ w) (hx : RepA g w x v) : Up (P := P) g σ w K ((Instr.range t v).run P w) := by
  unfold arange at h
  split at h
  · rename_i s hd
    simp only [addK_eq] at h
    cases repA_str hx
    have hrun : (Instr.range t (.string ⟨s.toArray⟩)).run P w = .ok (.pointer (some ⟨w.heap.size, 0, none⟩)) (w.alloc (.stringIter ⟨s.toArray⟩ 0)) := by
      simp [Instr.range, run_underlying (und_str hd)]
    rw [hrun]
    have hR := add_ok R (.iter s 0) 0 0 (w' := w.alloc (.stringIter ⟨s.toArray⟩ 0)) (fun b hb => alloc_old w _ b hb) (by simp) rfl rfl rfl
      ⟨by simp [Ghost.grow], by simpa [Ghost.grow] using heap_alloc_new w (.stringIter ⟨s.toArray⟩ 0)⟩
    refine ⟨_, _, _, hR.1, hR.2, ?_, h⟩
    have : RepA (g.grow w.heap.size 0 0) (w.alloc (.stringIter ⟨s.toArray⟩ 0)) (.ref g.n 0 0) (.pointer (some ⟨(g.grow w.heap.size 0 0).blk g.n, 0 * (g.grow w.heap.size 0 0).sz g.n + 0, none⟩)) := .ref g.n 0 0 (by simp [Ghost.grow])
    rw [R.n]
    simpa [Ghost.grow] using this
  · exact h.elim

theorem next_sound {g : Ghost} {σ : Store} {w : World} {it : AV} {v : Value} {ty : TypeId} {K : AV → Store → Prop} (h : anext σ it K) (R : StoreRel P g σ w) (hx : RepA g w it v) : Up (P := P) g σ w K ((Instr.next v true ty).run P w) := by
  unfold anext at h
  split at h
  · rename_i i
    split at h
    · rename_i s pos ho
      simp only [setK_eq] at h
      cases hx with
      | ref _ _ _ hi =>
      have hob := R.ob i hi
      rw [ho] at hob
      obtain ⟨hown, hw⟩ := hob
      have hlt : g.blk i < w.heap.size := by
        rcases Nat.lt_or_ge (g.blk i) w.heap.size with h | h
        · exact h
        · rw [Array.getElem?_eq_none h] at hw; cases hw
      have hsz : (⟨s.toArray⟩ : ByteArray).size = s.length := by show s.toArray.size = _; simp
      simp only [Nat.zero_mul, Nat.add_zero]
      by_cases hp : pos < s.length
      · have hrun : (Instr.next (.pointer (some ⟨g.blk i, 0, none⟩)) true ty).run P w = .ok (.tuple #[.bool true, .int .i64 pos, .int .i32 (Utf8.decode ⟨s.toArray⟩ pos).1])
            { w with heap := w.heap.setIfInBounds (g.blk i) (.stringIter ⟨s.toArray⟩ (pos + (Utf8.decode ⟨s.toArray⟩ pos).2)) } := by
          simp [Instr.next, getObj, setObj, Sem.run, hw, hsz, hp, goInt]
        rw [hrun]
        have hother : ∀ b, b ≠ g.blk i → ({ w with heap := w.heap.setIfInBounds (g.blk i) (.stringIter ⟨s.toArray⟩ (pos + (Utf8.decode ⟨s.toArray⟩ pos).2)) } : World).heap[b]? = w.heap[b]? := by
          intro b hb
          simp only [Array.getElem?_setIfInBounds]
          rw [if_neg (fun e => hb e.symm)]
        have hR := set_ok R i (.iter s (pos + (Utf8.decode ⟨s.toArray⟩ pos).2)) hi (by rw [ho]; intro q; cases q) (w' := { w with heap := w.heap.setIfInBounds (g.blk i) (.stringIter ⟨s.toArray⟩ (pos + (Utf8.decode ⟨s.toArray⟩ pos).2)) })
          (fun b hb => hother b (fun q => hb (q ▸ hown))) (by simp) rfl rfl rfl ⟨hown, by simp [hlt]⟩
        exact ⟨g, _, _, hR.1, hR.2, repL_tup (RepL.cons (.d (.bool _)) (RepL.cons (.d (.int _ _)) (RepL.cons (.d (.int _ _)) .nil))), h.1 hp⟩
      · have hrun : (Instr.next (.pointer (some ⟨g.blk i, 0, none⟩)) true ty).run P w = .ok (.tuple #[.bool false]) w := by
          simp [Instr.next, getObj, Sem.run, hw, hsz, hp]
        rw [hrun]
        exact ⟨g, σ, _, Ext.refl _ _ _, R, repL_tup (RepL.cons (.d (.bool _)) .nil), h.2 (by omega)⟩
    · exact h.elim
  · exact h.elim

theorem sliceArr_sound {g : Ghost} {σ : Store} {w : World} {t n e : Nat} {x : AV} {v : Value} {lo hi mx : Option AV} {lo' hi' mx' : Option Value} {K : AV → Store → Prop} (hu : P.underlying t = some (.array n e)) (h : asliceArr (tabOf P) σ n e x lo hi mx K) (R : StoreRel P g σ w)
    (hx : RepA g w x v) (hlo : RepO g w lo lo') (hhi : RepO g w hi hi') (hmx : RepO g w mx mx') : Up (P := P) g σ w K ((Instr.sliceAt t v lo' hi' mx').run P w) := by
  unfold asliceArr at h
  split at h
  · rename_i i
    obtain rfl := repO_none hlo
    obtain rfl := repO_none hhi
    obtain rfl := repO_none hmx
    obtain ⟨hse, hkn, row, ds, e', ho, hrl, hn, hds, hK⟩ := h
    simp only [setK_eq] at hK
    obtain ⟨ti, hie, _⟩ := known_info hkn
    cases hx with
    | ref _ _ _ hi =>
    have hob := R.ob i hi
    rw [ho] at hob
    obtain ⟨hown, hz, c, fr, hw, hf, hsz, hl', hrr⟩ := hob.at (r := 0) (row := row) rfl
    have hrun : (Instr.sliceAt t (.pointer (some ⟨g.blk i, 0 * g.sz i + 0, none⟩)) none none none).run P w = .ok (.slice (some ⟨g.blk i, 0, none⟩) n n) w := by
      simp only [Instr.sliceAt, Sem.run_bind, run_underlying hu, Result.andThen, Instr.sureAddr, Sem.run_pure]
      rw [run_bounds (l := 0) (h := (n : Int)) (.inl ⟨rfl, rfl⟩) (.inl ⟨rfl, rfl⟩) (by omega)]
      simp only [Result.andThen, run_sizeOf hie, Sem.run_pure]
      simp [Addr.add_none]
    rw [hrun]
    have hR := freeze_ok R i hi hown (by rw [ho]; intro q; cases q)
    obtain ⟨q1, q2⟩ := hrr 0 row rfl
    obtain ⟨vs, hvl, hvs⟩ := pick_list (R := fun j a v => c[j]? = some v ∧ RepA g w a v) row (fun j a ha => by
      obtain ⟨u, hu', hra, _⟩ := q2 j a ha
      exact ⟨u, by simpa using hu', hra⟩)
    obtain ⟨hdl, hdr⟩ := toDs_ok hds (g := g) (w := w) (vs := vs) ⟨hvl.symm, fun j a u ha hu' => (hvs j a u ha hu').2⟩
    refine ⟨_, _, _, hR.1, hR.2, ?_, hK⟩
    have hlen : (ds.map fun x => [x]).length = n := by simp [hdl, hrl]
    have hmono : ∀ {x : D} {u : Value}, RepD g.imm w x u → RepD (Ghost.imm { g with kind := fun x => if x = g.blk i then Kind.imm else g.kind x }) w x u :=
      fun hd => hd.mono (fun b hb => ⟨by show (if b = g.blk i then Kind.imm else g.kind b) = .imm; split <;> first | rfl | exact hb, rfl⟩)
    have hrep : RepD (Ghost.imm { g with kind := fun x => if x = g.blk i then Kind.imm else g.kind x }) w (.sl (ds.map fun x => [x])) (.slice (some ⟨g.blk i, 0, none⟩) (ds.map fun x => [x]).length n) := by
      refine .sl _ (g.blk i) 0 n 1 (fun r j => vs.getD r undef) (by simp [Ghost.imm]) (by omega) (fun r row' hr' => ?_) (fun r j row' x hr' hx => ?_) (fun r j row' x hr' hx => ?_)
      · rw [List.getElem?_map] at hr'
        cases hd : ds[r]? with
        | none => rw [hd] at hr'; cases hr'
        | some d => rw [hd] at hr'; cases hr'; rfl
      · rw [List.getElem?_map] at hr'
        cases hd : ds[r]? with
        | none => rw [hd] at hr'; cases hr'
        | some d =>
          rw [hd] at hr'; cases hr'
          have hj : j = 0 := by have := lt_of_some hx; simpa using this
          subst hj
          obtain ⟨a, ha⟩ := getElem?_of_lt (l := row) (j := r) (by rw [← hdl]; exact lt_of_some hd)
          obtain ⟨u, hu'⟩ := getElem?_of_lt (l := vs) (j := r) (by rw [hvl]; exact lt_of_some ha)
          rw [cell_at hw, Nat.zero_add, Nat.mul_one, Nat.add_zero, (hvs r a u ha hu').1]
          simp [List.getD, hu']
      · rw [List.getElem?_map] at hr'
        cases hd : ds[r]? with
        | none => rw [hd] at hr'; cases hr'
        | some d =>
          rw [hd] at hr'; cases hr'
          have hj : j = 0 := by have := lt_of_some hx; simpa using this
          subst hj
          simp at hx; subst hx
          obtain ⟨u, hu'⟩ := getElem?_of_lt (l := vs) (j := r) (by rw [hvl, ← hdl]; exact lt_of_some hd)
          simp only [List.getD, hu', Option.getD_some]
          exact hmono (hdr r d u hd hu')
    rw [hlen] at hrep
    exact .d hrep
  · exact h.elim

end
end Go.Aw
