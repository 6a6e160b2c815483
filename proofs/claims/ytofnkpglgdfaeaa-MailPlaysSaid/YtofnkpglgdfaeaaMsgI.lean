import Derived.Test.YtofnkpglgdfaeaaMsgP
import Derived.Test.YtofnkpglgdfaeaaPolI
namespace Go.Proofs.Ytofnkpglgdfaeaa
open Go.Aw
set_option maxHeartbeats 1600000
set_option linter.unusedSimpArgs false
set_option linter.unusedVariables false

theorem agg_msg : isAggB Try.prog 35 = true := by kernel_rfl
theorem agg_msgs : isAggB Try.prog 27 = false := by kernel_rfl
theorem arg_msg (m : Msg) : argAV Try.prog 35 (msgD m) = msgA m := by rw [argAV, agg_msg]; rfl
theorem arg_msgs (r : List (List D)) : argAV Try.prog 27 [.sl r] = .d (.sl r) := by rw [argAV, agg_msgs]; rfl
theorem cells_posts0 : Try.prog.cellsOf 31 = 1 := by kernel_rfl
theorem cells_post : Try.prog.cellsOf 57 = 2 := by kernel_rfl
theorem cells_msg : Try.prog.cellsOf 35 = 15 := by kernel_rfl
theorem len2 {α : Type} {l : List α} (h : l.length = 2) : ∃ a b, l = [a, b] := by
  match l, h with
  | [a, b], _ => exact ⟨a, b, rfl⟩
theorem len15 {α : Type} {l : List α} (h : l.length = 15) : ∃ y1 y2 y3 y4 y5 y6 y7 y8 y9 y10 y11 y12 y13 y14 y15, l = [y1, y2, y3, y4, y5, y6, y7, y8, y9, y10, y11, y12, y13, y14, y15] := by
  match l, h with
  | [y1, y2, y3, y4, y5, y6, y7, y8, y9, y10, y11, y12, y13, y14, y15], _ => exact ⟨y1, y2, y3, y4, y5, y6, y7, y8, y9, y10, y11, y12, y13, y14, y15, rfl⟩
theorem dok_post {n : Nat} {row : List D} (h : DOk Try.prog n 57 row) : ∃ p : List UInt8 × List UInt8, row = postD p := by
  cases n with
  | zero => exact h.elim
  | succ n =>
    simp only [DOk, Try.underlying57] at h
    obtain ⟨hl, hf⟩ := h
    rw [cells_post] at hl
    obtain ⟨a, b, rfl⟩ := len2 hl
    have f1 := hf _ (List.mem_cons_self ..)
    have f2 := hf _ (List.mem_cons_of_mem _ (List.mem_cons_self ..))
    simp only [cells_str0] at f1 f2
    obtain ⟨x1, e1, _⟩ := dok_str f1
    obtain ⟨x2, e2, _⟩ := dok_str f2
    simp at e1 e2
    subst e1; subst e2
    exact ⟨(x1, x2), rfl⟩
theorem dok_posts {n : Nat} {row : List D} (h : DOk Try.prog n 31 row) : ∃ l : List (List UInt8 × List UInt8), row = [.sl (postsD l)] := by
  cases n with
  | zero => exact h.elim
  | succ n =>
    simp only [DOk, Try.underlying31] at h
    obtain ⟨rows, rfl, hbb, h2⟩ := h
    have : ∃ l : List (List UInt8 × List UInt8), rows = postsD l := by
      clear hbb
      induction rows with
      | nil => exact ⟨[], rfl⟩
      | cons r rs ih =>
        obtain ⟨a, rfl⟩ := dok_post (h2 r (by simp))
        obtain ⟨l, rfl⟩ := ih (fun q hq => h2 q (by simp [hq]))
        exact ⟨a :: l, rfl⟩
    obtain ⟨l, rfl⟩ := this
    exact ⟨l, rfl⟩
theorem dok_msg {n : Nat} {row : List D} (h : DOk Try.prog n 35 row) : ∃ m : Msg, row = msgD m := by
  cases n with
  | zero => exact h.elim
  | succ n =>
    simp only [DOk, Try.underlying35] at h
    obtain ⟨hl, hf⟩ := h
    rw [cells_msg] at hl
    obtain ⟨y1, y2, y3, y4, y5, y6, y7, y8, y9, y10, y11, y12, y13, y14, y15, rfl⟩ := len15 hl
    have f1 := hf _ (List.mem_cons_self ..)
    have f2 := hf _ (List.mem_cons_of_mem _ (List.mem_cons_self ..))
    have f3 := hf _ (List.mem_cons_of_mem _ (List.mem_cons_of_mem _ (List.mem_cons_self ..)))
    have f4 := hf _ (List.mem_cons_of_mem _ (List.mem_cons_of_mem _ (List.mem_cons_of_mem _ (List.mem_cons_self ..))))
    have f5 := hf _ (List.mem_cons_of_mem _ (List.mem_cons_of_mem _ (List.mem_cons_of_mem _ (List.mem_cons_of_mem _ (List.mem_cons_self ..)))))
    have f6 := hf _ (List.mem_cons_of_mem _ (List.mem_cons_of_mem _ (List.mem_cons_of_mem _ (List.mem_cons_of_mem _ (List.mem_cons_of_mem _ (List.mem_cons_self ..))))))
    have f7 := hf _ (List.mem_cons_of_mem _ (List.mem_cons_of_mem _ (List.mem_cons_of_mem _ (List.mem_cons_of_mem _ (List.mem_cons_of_mem _ (List.mem_cons_of_mem _ (List.mem_cons_self ..)))))))
    simp only [cells_int0, cells_strs0, cells_posts0, cells_pol] at f1 f2 f3 f4 f5 f6 f7
    obtain ⟨x1, e1, _⟩ := dok_int f1
    obtain ⟨x2, e2, _⟩ := dok_int f2
    obtain ⟨x3, e3, _⟩ := dok_int f3
    obtain ⟨x4, e4, _⟩ := dok_int f4
    obtain ⟨x5, e5, _⟩ := dok_strs f5
    obtain ⟨x6, e6⟩ := dok_posts f6
    obtain ⟨x7, e7⟩ := dok_pol f7
    simp at e1 e2 e3 e4 e5 e6 e7
    subst e1; subst e2; subst e3; subst e4; subst e5; subst e6
    exact ⟨⟨x1, x2, x3, x4, x5, x6, x7⟩, by unfold msgD; rw [← e7]⟩
theorem bytes_msg : Try.prog.bytesOf 35 = 232 := by kernel_rfl
theorem dok_msgs {n : Nat} {row : List D} (h : DOk Try.prog n 27 row) : ∃ l : List Msg, row = [.sl (msgsD l)] ∧ l.length * 232 ≤ 140737488351232 := by
  cases n with
  | zero => exact h.elim
  | succ n =>
    simp only [DOk, Try.underlying27] at h
    obtain ⟨rows, rfl, hbb, h2⟩ := h
    rw [bytes_msg] at hbb
    have : ∃ l : List Msg, rows = msgsD l := by
      clear hbb
      induction rows with
      | nil => exact ⟨[], rfl⟩
      | cons r rs ih =>
        obtain ⟨a, rfl⟩ := dok_msg (h2 r (by simp))
        obtain ⟨l, rfl⟩ := ih (fun q hq => h2 q (by simp [hq]))
        exact ⟨a :: l, rfl⟩
    obtain ⟨l, rfl⟩ := this
    rw [msgsD_len] at hbb
    exact ⟨l, rfl, hbb⟩

end Go.Proofs.Ytofnkpglgdfaeaa
