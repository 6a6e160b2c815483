import Derived.Test.YtcmkiancbgmmhaaRefsE
namespace Go.Proofs.Ytcmkiancbgmmhaa
open Go.Aw

theorem ints_get (l : List Int) (k : Nat) (h : k < l.length) : (intsD l)[((k : Nat) : Int).toNat]? = some [.int .i64 l[k]] := by simp [intsD, h]
theorem tab_pos : ∀ e ∈ nameTab, 0 ≤ e.2 ∧ e.2 ≤ 65535 ∧ fixN e.2 = e.2 := by decide

def digV (c : UInt8) (b : Nat) : Int := match hexv c with
  | some d => if d < b then d else 99
  | none => 99
end Go.Proofs.Ytcmkiancbgmmhaa
