import Derived.Test.YtofnkpglgdfaeaaPolH
import Derived.Test.YtofnkpglgdfaeaaDok
namespace Go.Proofs.Ytofnkpglgdfaeaa
open Go.Aw
set_option maxHeartbeats 1600000
set_option linter.unusedSimpArgs false
set_option linter.unusedVariables false

theorem agg_pol : isAggB Try.prog 33 = true := by kernel_rfl
theorem arg_pol (p : Pol) : argAV Try.prog 33 (polD p) = polA p := by rw [argAV, agg_pol]; rfl
theorem cells_str0 : Try.prog.cellsOf 9 = 1 := by kernel_rfl
theorem cells_int0 : Try.prog.cellsOf 3 = 1 := by kernel_rfl
theorem cells_strs0 : Try.prog.cellsOf 30 = 1 := by kernel_rfl
theorem cells_pol : Try.prog.cellsOf 33 = 9 := by kernel_rfl
theorem len9 {α : Type} {l : List α} (h : l.length = 9) : ∃ a b c d e f g h i, l = [a, b, c, d, e, f, g, h, i] := by
  match l, h with
  | [a, b, c, d, e, f, g, h, i], _ => exact ⟨a, b, c, d, e, f, g, h, i, rfl⟩
theorem dok_pol {n : Nat} {row : List D} (h : DOk Try.prog n 33 row) : ∃ p : Pol, row = polD p := by
  cases n with
  | zero => exact h.elim
  | succ n =>
    simp only [DOk, Try.underlying33] at h
    obtain ⟨hl, hf⟩ := h
    rw [cells_pol] at hl
    obtain ⟨a, b, c, d, e, f, g, h, i, rfl⟩ := len9 hl
    have f1 := hf _ (List.mem_cons_self ..)
    have f2 := hf _ (List.mem_cons_of_mem _ (List.mem_cons_self ..))
    have f3 := hf _ (List.mem_cons_of_mem _ (List.mem_cons_of_mem _ (List.mem_cons_self ..)))
    have f4 := hf _ (List.mem_cons_of_mem _ (List.mem_cons_of_mem _ (List.mem_cons_of_mem _ (List.mem_cons_self ..))))
    have f5 := hf _ (List.mem_cons_of_mem _ (List.mem_cons_of_mem _ (List.mem_cons_of_mem _ (List.mem_cons_of_mem _ (List.mem_cons_self ..)))))
    have f6 := hf _ (List.mem_cons_of_mem _ (List.mem_cons_of_mem _ (List.mem_cons_of_mem _ (List.mem_cons_of_mem _ (List.mem_cons_of_mem _ (List.mem_cons_self ..))))))
    have f7 := hf _ (List.mem_cons_of_mem _ (List.mem_cons_of_mem _ (List.mem_cons_of_mem _ (List.mem_cons_of_mem _ (List.mem_cons_of_mem _ (List.mem_cons_of_mem _ (List.mem_cons_self ..)))))))
    have f8 := hf _ (List.mem_cons_of_mem _ (List.mem_cons_of_mem _ (List.mem_cons_of_mem _ (List.mem_cons_of_mem _ (List.mem_cons_of_mem _ (List.mem_cons_of_mem _ (List.mem_cons_of_mem _ (List.mem_cons_self ..))))))))
    have f9 := hf _ (List.mem_cons_of_mem _ (List.mem_cons_of_mem _ (List.mem_cons_of_mem _ (List.mem_cons_of_mem _ (List.mem_cons_of_mem _ (List.mem_cons_of_mem _ (List.mem_cons_of_mem _ (List.mem_cons_of_mem _ (List.mem_cons_self ..)))))))))
    simp only [cells_int0, cells_strs0] at f1 f2 f3 f4 f5 f6 f7 f8 f9
    obtain ⟨x1, e1, _⟩ := dok_int f1
    obtain ⟨x2, e2, _⟩ := dok_strs f2
    obtain ⟨x3, e3, _⟩ := dok_strs f3
    obtain ⟨x4, e4, _⟩ := dok_strs f4
    obtain ⟨x5, e5, _⟩ := dok_strs f5
    obtain ⟨x6, e6, _⟩ := dok_strs f6
    obtain ⟨x7, e7, _⟩ := dok_int f7
    obtain ⟨x8, e8, _⟩ := dok_int f8
    obtain ⟨x9, e9, _⟩ := dok_int f9
    simp at e1 e2 e3 e4 e5 e6 e7 e8 e9
    subst e1; subst e2; subst e3; subst e4; subst e5; subst e6; subst e7; subst e8; subst e9
    exact ⟨⟨x1, x2, x3, x4, x5, x6, x7, x8, x9⟩, rfl⟩
theorem bytes_pol : Try.prog.bytesOf 33 = 152 := by kernel_rfl
end Go.Proofs.Ytofnkpglgdfaeaa
