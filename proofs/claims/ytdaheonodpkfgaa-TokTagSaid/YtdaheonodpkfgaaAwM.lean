/- The abstract walk: an array of texts that a law is handed. -/
import Derived.Test.YtdaheonodpkfgaaAwG
namespace Go.Aw
set_option linter.unusedVariables false
set_option linter.unusedSimpArgs false
section
variable {H : Type} {enc : TypeId × Value → H} {P : Program} {w : World}

def strOf : Value → List UInt8
  | .string s => s.data.toList
  | _ => []
theorem arr_reads {t e : TypeId} {n : Nat} (hu : P.underlying t = some (.array n e)) (he : P.underlying e = some .string) (hce : P.cellsOf e = 1) (hct : P.cellsOf t = n) {v : Value} {d : DataW H} {ps : List MemPlace} {base : Nat}
    (h : DataW.Trod enc P w 0 (fun _ => true) true t v d ps) (hw : ∀ x ∈ d.weights P t, x ≤ reachBytes) (hval : Value.okWide P w .any base t v) :
    ∃ l : List (List UInt8), l.length = n ∧ (∀ s ∈ l, s.length ≤ 140737488351232) ∧ ∀ g : Ghost, (∀ b, b < w.heap.size → g.imm b) → RepA g w (.agg (l.map fun s => .d (.str s))) v := by
  obtain ⟨m0, h⟩ := h
  obtain ⟨xs, m, rfl, hx, hcl, hxl, hf⟩ := DataW.trod_array hu h
  have hd : d = .agg (xs.map (·.1)) := congrArg Prod.fst hx
  subst hd
  simp only [Value.okWide, hu] at hval
  obtain ⟨cs, rfl, hcs, _⟩ := hval
  have hlen : cs.toList.length = n := by simp [hcs, hct]
  have key : ∀ i, i < n → ∃ s : ByteArray, cs.toList[i]? = some (.string s) ∧ s.data.toList.length ≤ reachBytes := by
    intro i hi
    have h1 := hf i hi
    rw [hce, Nat.mul_one, List.getElem?_eq_getElem (by omega : i < xs.length)] at h1
    obtain ⟨s, q1, q2, _⟩ := DataW.trod_string he h1
    refine ⟨s, ?_, ?_⟩
    · have : (((Value.agg cs).cells.toList.drop i).take 1)[0]? = some (.string s) := by rw [q1]; rfl
      rw [List.getElem?_take, if_pos (by omega), List.getElem?_drop, Nat.add_zero] at this
      simpa [Value.cells] using this
    · refine hw _ ?_
      simp only [DataW.weights, hu]
      refine mem_weightsAll (d := xs[i].1) (List.mem_map.2 ⟨xs[i], List.getElem_mem _, rfl⟩) ?_
      rw [q2]
      simp [DataW.weights]
  refine ⟨cs.toList.map strOf, by rw [List.length_map]; exact hlen, ?_, fun g hg => ?_⟩
  · intro s hs
    obtain ⟨u, hu1, rfl⟩ := List.mem_map.1 hs
    obtain ⟨i, hi, rfl⟩ := List.mem_iff_getElem.1 hu1
    obtain ⟨s, q1, q2⟩ := key i (by omega)
    rw [List.getElem?_eq_getElem hi] at q1
    rw [Option.some.inj q1]
    exact q2
  · refine .agg _ _ (by simp) fun i a u ha hu' => ?_
    rw [List.map_map, List.getElem?_map] at ha
    obtain ⟨x, hx1, rfl⟩ := Option.map_eq_some_iff.1 ha
    have hi : i < n := by have := (List.getElem?_eq_some_iff.1 hx1).1; omega
    obtain ⟨s, q1, _⟩ := key i hi
    rw [q1] at hx1
    cases hx1
    have : u = .string s := by
      have h2 : cs.toList[i]? = some u := by simpa [Value.cells] using hu'
      rw [q1] at h2; exact (Option.some.inj h2).symm
    subst this
    exact .d (by simpa [strOf] using RepD.str (I := g.imm) (w := w) s.data.toList)
end
end Go.Aw
