import Derived.Test.YtcmkiancbgmmhaaRefsF
namespace Go.Proofs.Ytcmkiancbgmmhaa
open Go.Aw

theorem digs_next {b : Nat} {e : List UInt8} {k n : Nat} (h : k < e.length) : digs b (e.drop k) n = match hexv e[k] with
    | some d => if d < b then digs b (e.drop (k + 1)) (n * b + d) else none
    | none => none := by
  rw [List.drop_eq_getElem_cons h]; rfl
theorem p16 {k : Nat} (h : k ≤ 7) : 16 ^ k ≤ 268435456 := Nat.pow_le_pow_right (by decide) h

end Go.Proofs.Ytcmkiancbgmmhaa
