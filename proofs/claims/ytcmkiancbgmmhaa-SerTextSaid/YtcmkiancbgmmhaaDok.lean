import Derived.Test.YtcmkiancbgmmhaaStr
import Derived.Test.YtcmkiancbgmmhaaAwG
namespace Go.Proofs.Ytcmkiancbgmmhaa
open Go.Aw
set_option maxHeartbeats 1600000
set_option linter.unusedSimpArgs false
set_option linter.unusedVariables false

theorem agg_str : isAggB Try.prog 9 = false := by kernel_rfl
theorem agg_int : isAggB Try.prog 3 = false := by kernel_rfl
theorem agg_u8 : isAggB Try.prog 5 = false := by kernel_rfl
theorem agg_bool : isAggB Try.prog 4 = false := by kernel_rfl
theorem agg_strs : isAggB Try.prog 76 = false := by kernel_rfl
theorem arg_str (s : List UInt8) : argAV Try.prog 9 [.str s] = .d (.str s) := by rw [argAV, agg_str]; rfl
theorem arg_int (n : Int) : argAV Try.prog 3 [.int .i64 n] = .d (.int .i64 n) := by rw [argAV, agg_int]; rfl
theorem arg_u8 (n : Int) : argAV Try.prog 5 [.int .u8 n] = .d (.int .u8 n) := by rw [argAV, agg_u8]; rfl
theorem arg_bool (b : Bool) : argAV Try.prog 4 [.bool b] = .d (.bool b) := by rw [argAV, agg_bool]; rfl
theorem arg_strs (r : List (List D)) : argAV Try.prog 76 [.sl r] = .d (.sl r) := by rw [argAV, agg_strs]; rfl
theorem dok_str {n : Nat} {row : List D} (h : DOk Try.prog n 9 row) : ∃ s, row = [.str s] ∧ s.length ≤ 140737488351232 := by
  cases n with
  | zero => exact h.elim
  | succ n => simp only [DOk, Try.underlying9] at h; exact h
theorem dok_int {n : Nat} {row : List D} (h : DOk Try.prog n 3 row) : ∃ x, row = [.int .i64 x] ∧ -9223372036854775808 ≤ x ∧ x ≤ 9223372036854775807 := by
  cases n with
  | zero => exact h.elim
  | succ n => simp only [DOk, Try.underlying3] at h; exact h
theorem dok_u8 {n : Nat} {row : List D} (h : DOk Try.prog n 5 row) : ∃ c : UInt8, row = [.int .u8 c.toNat] := by
  cases n with
  | zero => exact h.elim
  | succ n =>
    simp only [DOk, Try.underlying5] at h
    obtain ⟨x, rfl, h0, h1⟩ := h
    refine ⟨UInt8.ofNat x.toNat, ?_⟩
    have : (UInt8.ofNat x.toNat).toNat = x.toNat := UInt8.toNat_ofNat_of_lt' (by show _ < 256; omega)
    rw [this]
    congr 2
    omega
theorem dok_bool {n : Nat} {row : List D} (h : DOk Try.prog n 4 row) : ∃ b, row = [.bool b] := by
  cases n with
  | zero => exact h.elim
  | succ n => simp only [DOk, Try.underlying4] at h; exact h
theorem bytes_str : Try.prog.bytesOf 9 = 16 := by kernel_rfl
theorem dok_strs {n : Nat} {row : List D} (h : DOk Try.prog n 76 row) : ∃ l : List (List UInt8), row = [.sl (strsD l)] ∧ l.length * 16 ≤ 140737488351232 ∧ ∀ s ∈ l, s.length ≤ 140737488351232 := by
  cases n with
  | zero => exact h.elim
  | succ n =>
    simp only [DOk, Try.underlying76] at h
    obtain ⟨rows, rfl, h1, h2⟩ := h
    rw [bytes_str] at h1
    have : ∃ l : List (List UInt8), rows = strsD l ∧ ∀ s ∈ l, s.length ≤ 140737488351232 := by
      clear h1
      induction rows with
      | nil => exact ⟨[], rfl, by simp⟩
      | cons r rs ih =>
        obtain ⟨s, rfl, hs⟩ := dok_str (h2 r (by simp))
        obtain ⟨l, rfl, hl⟩ := ih (fun q hq => h2 q (by simp [hq]))
        exact ⟨s :: l, rfl, by simpa using ⟨hs, hl⟩⟩
    obtain ⟨l, rfl, hl⟩ := this
    exact ⟨l, rfl, by simpa [strsD] using h1, hl⟩

end Go.Proofs.Ytcmkiancbgmmhaa
