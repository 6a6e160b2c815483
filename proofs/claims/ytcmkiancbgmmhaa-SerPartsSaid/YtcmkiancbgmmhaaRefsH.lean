import Derived.Test.YtcmkiancbgmmhaaRefsG
namespace Go.Proofs.Ytcmkiancbgmmhaa
open Go.Aw

def oneV (r : List UInt8) : AV := match oneR r with
  | some (t, r') => .tup [.d (.str t), .d (.int .i64 ((r.length - r'.length + 1 : Nat)))]
  | none => .tup [.d (.str []), .d (.int .i64 0)]
theorem oneV_pure (r : List UInt8) : (oneV r).pure = true := by unfold oneV; split <;> rfl
theorem oneV_none {r : List UInt8} (h : oneR r = none) : oneV r = .tup [.d (.str []), .d (.int .i64 0)] := by unfold oneV; rw [h]
theorem oneV_some {r t r' : List UInt8} (h : oneR r = some (t, r')) : oneV r = .tup [.d (.str t), .d (.int .i64 ((r.length - r'.length + 1 : Nat)))] := by unfold oneV; rw [h]

theorem mid_of (s : List UInt8) (a b : Nat) (h : b ≤ s.length) : ((s.take ((b : Nat) : Int).toNat).drop ((a : Nat) : Int).toNat) = (s.drop a).take (b - a) := by
  rw [Int.toNat_natCast, Int.toNat_natCast, List.drop_take]

end Go.Proofs.Ytcmkiancbgmmhaa
