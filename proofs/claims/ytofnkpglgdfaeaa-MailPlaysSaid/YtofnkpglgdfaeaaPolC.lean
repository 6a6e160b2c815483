import Derived.Test.YtofnkpglgdfaeaaPolB
namespace Go.Proofs.Ytofnkpglgdfaeaa
open Go.Aw
set_option maxHeartbeats 1600000
set_option linter.unusedSimpArgs false
set_option linter.unusedVariables false

theorem any_expr (s : List UInt8) : ∀ (n : Int), (46 ∈ s → n = idxB 46 s) → (46 ∉ s → n = s.length) → ([42] : List UInt8) ++ ((s.take ((s.length : Nat) : Int).toNat).drop n.toNat) = anyOf s := by
  intro n h1 h2
  rw [Int.toNat_natCast, List.take_length]
  unfold anyOf
  by_cases hm : (46 : UInt8) ∈ s
  · rw [h1 hm]
    obtain ⟨a, b, rfl, ha⟩ := split_first hm
    rw [idxB_some ha, cutDot_some ha, Int.toNat_natCast]
    simp
  · rw [h2 hm, cutDot_none hm, Int.toNat_natCast, List.drop_length]
    rfl

end Go.Proofs.Ytofnkpglgdfaeaa
