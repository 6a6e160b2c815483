import Derived.Test.YtdaheonodpkfgaaDomA
namespace Go.Proofs.Ytdaheonodpkfgaa
open Go.Aw
set_option maxHeartbeats 1600000
set_option linter.unusedSimpArgs false
set_option linter.unusedVariables false

def letB (c : UInt8) : Bool := decide (97 ≤ c.toNat) && decide (c.toNat ≤ 122)
def digB (c : UInt8) : Bool := decide (48 ≤ c.toNat) && decide (c.toNat ≤ 57)
/-- A small letter, and such, digits and others behind it. -/
def smallT (o : List UInt8) (s : List UInt8) : Bool := s.all fun c => letB c || (digB c || decide (c ∈ o))
def small (s o : List UInt8) : Bool := match s with
  | [] => false
  | c :: r => letB c && smallT o r
theorem idx_mem (c : UInt8) (o : List UInt8) (h : o.length ≤ 9223372036854775807) : (decide (0 ≤ idxB c o)) = decide (c ∈ o) := by
  by_cases hm : c ∈ o
  · obtain ⟨a, b, rfl, ha⟩ := split_first hm
    rw [idxB_some ha, decide_eq_true hm, decide_eq_true (by omega)]
  · rw [idxB_none hm, decide_eq_false hm]; rfl
/-- What holds of a text up to a place. -/
def upto (s o : List UInt8) (k : Nat) : Bool := decide (k = 0) || small (s.take k) o
theorem upto_step (s o : List UInt8) (k : Nat) (h : k < s.length) : upto s o (k + 1) = (upto s o k && (letB s[k] || decide (0 < k) && (digB s[k] || decide (s[k] ∈ o)))) := by
  cases k with
  | zero =>
    have e : s.take (0 + 1) = [s[0]] := by rw [List.take_succ_eq_append_getElem h]; rfl
    unfold upto
    rw [e]
    simp [small, smallT]
  | succ j =>
    cases s with
    | nil => simp at h
    | cons c r =>
      simp only [List.length_cons] at h
      have hj : j < r.length := by omega
      unfold upto
      simp only [List.take_succ_cons, List.getElem_cons_succ, small]
      rw [List.take_succ_eq_append_getElem hj]
      simp only [smallT, List.all_append, List.all_cons, List.all_nil, Bool.and_true]
      simp [Bool.and_assoc]
theorem upto_end (s o : List UInt8) : (upto s o s.length && !decide (s = [])) = small s o := by
  unfold upto
  cases s with
  | nil => rfl
  | cons c r => simp
theorem upto_bad : ∀ (s o : List UInt8) (k : Nat), k ≤ s.length → upto s o k = false → small s o = false := by
  intro s o k hk h
  unfold upto at h
  rw [Bool.or_eq_false_iff] at h
  have hk0 : k ≠ 0 := by simpa using h.1
  cases s with
  | nil => simp at hk; omega
  | cons c r =>
    obtain ⟨j, rfl⟩ : ∃ j, k = j + 1 := ⟨k - 1, by omega⟩
    have h2 := h.2
    simp only [List.take_succ_cons, small] at h2 ⊢
    rw [Bool.and_eq_false_iff] at h2 ⊢
    rcases h2 with h2 | h2
    · exact .inl h2
    · refine .inr ?_
      unfold smallT at h2 ⊢
      rw [← List.take_append_drop j r, List.all_append, h2]; rfl

end Go.Proofs.Ytdaheonodpkfgaa
