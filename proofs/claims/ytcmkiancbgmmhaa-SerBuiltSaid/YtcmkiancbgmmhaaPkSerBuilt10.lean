/- What is proved here serves the claim: the walk over the code and the plain laws, part 10 of 14. -/
import Derived.Test.YtcmkiancbgmmhaaPkSerBuilt9
import Derived.Test.YtcmkiancbgmmhaaProg
namespace Go.Proofs.Ytcmkiancbgmmhaa
open Go.Aw
def Try.tab : List TI := [⟨.tuple, 1, 0, none, none, none⟩,
  ⟨.func, 1, 8, some [.nilf], none, none⟩,
  ⟨.int .i64, 1, 8, some [.d (.int .i64 0)], none, none⟩,
  ⟨.int .i64, 1, 8, some [.d (.int .i64 0)], none, none⟩,
  ⟨.bool, 1, 1, some [.d (.bool false)], none, none⟩,
  ⟨.int .u8, 1, 1, some [.d (.int .u8 0)], none, none⟩,
  ⟨.int .u8, 1, 1, some [.d (.int .u8 0)], none, none⟩,
  ⟨.struct [(0, 1, false, true), (1, 1, false, true), (2, 1, false, true), (3, 1, false, true)], 4, 24, some [.d (.int .i64 0), .d (.int .i64 0), .d (.bool false), .d (.int .u8 0)], none, some [1, 1, 0, 1]⟩,
  ⟨.struct [(0, 1, false, true), (1, 1, false, true), (2, 1, false, true), (3, 1, false, true)], 4, 24, some [.d (.int .i64 0), .d (.int .i64 0), .d (.bool false), .d (.int .u8 0)], none, some [1, 1, 0, 1]⟩,
  ⟨.str, 1, 16, some [.d (.str [])], none, none⟩,
  ⟨.str, 1, 16, some [.d (.str [])], none, none⟩,
  ⟨.str, 1, 16, some [.d (.str [])], none, none⟩,
  ⟨.int .u64, 1, 8, some [.d (.int .u64 0)], none, none⟩,
  ⟨.struct [(0, 1, false, true), (1, 1, false, true)], 2, 24, some [.d (.str []), .d (.int .u64 0)], none, none⟩,
  ⟨.struct [(0, 1, false, true), (1, 1, false, true)], 2, 24, some [.d (.str []), .d (.int .u64 0)], none, none⟩,
  ⟨.ptr 121, 1, 8, some [.nilp], none, none⟩,
  ⟨.ptr 124, 1, 8, some [.nilp], none, none⟩,
  ⟨.ptr 132, 1, 8, some [.nilp], none, none⟩,
  ⟨.struct [(0, 1, false, true)], 1, 8, some [.nilp], none, none⟩,
  ⟨.struct [(0, 1, false, true)], 1, 8, some [.nilp], none, none⟩,
  ⟨.iface, 1, 16, some [.nili], none, none⟩,
  ⟨.int .i32, 1, 4, some [.d (.int .i32 0)], none, none⟩,
  ⟨.slice 29, 1, 24, some [.nil], none, none⟩,
  ⟨.func, 1, 8, some [.nilf], none, none⟩,
  ⟨.func, 1, 8, some [.nilf], none, none⟩,
  ⟨.func, 1, 8, some [.nilf], none, none⟩,
  ⟨.func, 1, 8, some [.nilf], none, none⟩,
  ⟨.slice 42, 1, 24, some [.nil], none, none⟩,
  ⟨.struct [(0, 1, false, true), (1, 1, false, true), (2, 1, false, true), (3, 1, false, true)], 4, 80, some [.d (.str []), .nil, .d (.str []), .nil], none, none⟩,
  ⟨.struct [(0, 1, false, true), (1, 1, false, true), (2, 1, false, true), (3, 1, false, true)], 4, 80, some [.d (.str []), .nil, .d (.str []), .nil], none, none⟩,
  ⟨.func, 1, 8, some [.nilf], none, none⟩,
  ⟨.func, 1, 8, some [.nilf], none, none⟩,
  ⟨.func, 1, 8, some [.nilf], none, none⟩,
  ⟨.func, 1, 8, some [.nilf], none, none⟩,
  ⟨.slice 37, 1, 24, some [.nil], none, none⟩,
  ⟨.func, 1, 8, some [.nilf], none, none⟩,
  ⟨.struct [(0, 1, false, true), (1, 1, false, true), (2, 1, false, true), (3, 1, false, true), (4, 1, false, true)], 5, 72, some [.d (.int .i64 0), .d (.str []), .nil, .d (.bool false), .d (.str [])], none, none⟩,
  ⟨.struct [(0, 1, false, true), (1, 1, false, true), (2, 1, false, true), (3, 1, false, true), (4, 1, false, true)], 5, 72, some [.d (.int .i64 0), .d (.str []), .nil, .d (.bool false), .d (.str [])], none, none⟩,
  ⟨.int .i64, 1, 8, some [.d (.int .i64 0)], none, none⟩,
  ⟨.tuple, 1, 0, none, none, none⟩,
  ⟨.func, 1, 8, some [.nilf], none, none⟩,
  ⟨.struct [(0, 1, false, true), (1, 1, false, true)], 2, 32, some [.d (.str []), .d (.str [])], none, some [2, 2]⟩,
  ⟨.struct [(0, 1, false, true), (1, 1, false, true)], 2, 32, some [.d (.str []), .d (.str [])], none, some [2, 2]⟩,
  ⟨.tuple, 1, 0, none, none, none⟩,
  ⟨.func, 1, 8, some [.nilf], none, none⟩,
  ⟨.func, 1, 8, some [.nilf], none, none⟩,
  ⟨.func, 1, 8, some [.nilf], none, none⟩,
  ⟨.ptr 50, 1, 8, some [.nilp], none, none⟩,
  ⟨.slice 5, 1, 24, some [.nil], none, none⟩,
  ⟨.struct [(0, 1, false, true), (1, 1, false, true)], 2, 32, some [.nilp, .nil], none, none⟩,
  ⟨.struct [(0, 1, false, true), (1, 1, false, true)], 2, 32, some [.nilp, .nil], some 5, none⟩,
  ⟨.iface, 1, 16, some [.nili], none, none⟩,
  ⟨.iface, 1, 16, some [.nili], none, none⟩,
  ⟨.func, 1, 8, some [.nilf], none, none⟩,
  ⟨.func, 1, 8, some [.nilf], none, none⟩,
  ⟨.func, 1, 8, some [.nilf], none, none⟩,
  ⟨.func, 1, 8, some [.nilf], none, none⟩,
  ⟨.func, 1, 8, some [.nilf], none, none⟩,
  ⟨.func, 1, 8, some [.nilf], none, none⟩,
  ⟨.func, 1, 8, some [.nilf], none, none⟩,
  ⟨.tuple, 1, 0, none, none, none⟩,
  ⟨.func, 1, 8, some [.nilf], none, none⟩,
  ⟨.ptr 64, 1, 8, some [.nilp], none, none⟩,
  ⟨.struct [(0, 1, false, true), (1, 1, false, true), (2, 1, false, true)], 3, 48, some [.d (.str []), .d (.int .i64 0), .nil], none, none⟩,
  ⟨.struct [(0, 1, false, true), (1, 1, false, true), (2, 1, false, true)], 3, 48, some [.d (.str []), .d (.int .i64 0), .nil], none, none⟩,
  ⟨.ptr 70, 1, 8, some [.nilp], none, none⟩,
  ⟨.struct [(0, 4, true, true), (4, 1, false, true)], 5, 96, some [.d (.str []), .nil, .d (.str []), .nil, .d (.str [])], none, none⟩,
  ⟨.struct [(0, 4, true, true), (4, 1, false, true)], 5, 96, some [.d (.str []), .nil, .d (.str []), .nil, .d (.str [])], none, none⟩,
  ⟨.slice 67, 1, 24, some [.nil], none, none⟩,
  ⟨.struct [(0, 1, false, true), (1, 1, false, true), (2, 1, false, true)], 3, 40, some [.nil, .d (.int .i64 0), .d (.bool false)], none, none⟩,
  ⟨.struct [(0, 1, false, true), (1, 1, false, true), (2, 1, false, true)], 3, 40, some [.nil, .d (.int .i64 0), .d (.bool false)], none, none⟩,
  ⟨.func, 1, 8, some [.nilf], none, none⟩,
  ⟨.func, 1, 8, some [.nilf], none, none⟩,
  ⟨.str, 1, 16, some [.d (.str [])], none, none⟩,
  ⟨.struct [(0, 1, false, true), (1, 1, false, true), (2, 1, false, true), (3, 1, false, true)], 4, 80, some [.d (.str []), .nil, .d (.str []), .nil], none, none⟩,
  ⟨.ptr 5, 1, 8, some [.nilp], none, none⟩,
  ⟨.slice 9, 1, 24, some [.nil], none, none⟩,
  ⟨.func, 1, 8, some [.nilf], none, none⟩,
  ⟨.func, 1, 8, some [.nilf], none, none⟩,
  ⟨.func, 1, 8, some [.nilf], none, none⟩,
  ⟨.func, 1, 8, some [.nilf], none, none⟩,
  ⟨.func, 1, 8, some [.nilf], none, none⟩,
  ⟨.func, 1, 8, some [.nilf], none, none⟩,
  ⟨.func, 1, 8, some [.nilf], none, none⟩,
  ⟨.tuple, 1, 0, none, none, none⟩,
  ⟨.func, 1, 8, some [.nilf], none, none⟩,
  ⟨.func, 1, 8, some [.nilf], none, none⟩,
  ⟨.ptr 67, 1, 8, some [.nilp], none, none⟩,
  ⟨.func, 1, 8, some [.nilf], none, none⟩,
  ⟨.func, 1, 8, some [.nilf], none, none⟩,
  ⟨.func, 1, 8, some [.nilf], none, none⟩,
  ⟨.func, 1, 8, some [.nilf], none, none⟩,
  ⟨.func, 1, 8, some [.nilf], none, none⟩,
  ⟨.map 9 4, 1, 8, none, none, none⟩,
  ⟨.func, 1, 8, some [.nilf], none, none⟩,
  ⟨.func, 1, 8, some [.nilf], none, none⟩,
  ⟨.func, 1, 8, some [.nilf], none, none⟩,
  ⟨.struct [(0, 1, false, true), (1, 1, false, true)], 2, 16, some [.d (.int .i64 0), .d (.int .i64 0)], none, some [1, 1]⟩,
  ⟨.struct [(0, 1, false, true), (1, 1, false, true)], 2, 16, some [.d (.int .i64 0), .d (.int .i64 0)], none, some [1, 1]⟩,
  ⟨.iface, 1, 16, some [.nili], none, none⟩,
  ⟨.iface, 1, 16, some [.nili], none, none⟩,
  ⟨.tuple, 1, 0, none, none, none⟩,
  ⟨.func, 1, 8, some [.nilf], none, none⟩,
  ⟨.tuple, 1, 0, none, none, none⟩,
  ⟨.func, 1, 8, some [.nilf], none, none⟩,
  ⟨.func, 1, 8, some [.nilf], none, none⟩,
  ⟨.func, 1, 8, some [.nilf], none, none⟩,
  ⟨.func, 1, 8, some [.nilf], none, none⟩,
  ⟨.tuple, 1, 0, none, none, none⟩,
  ⟨.func, 1, 8, some [.nilf], none, none⟩,
  ⟨.func, 1, 8, some [.nilf], none, none⟩,
  ⟨.int .u64, 1, 8, some [.d (.int .u64 0)], none, none⟩,
  ⟨.uptr, 1, 8, some [.nilp], none, none⟩,
  ⟨.func, 1, 8, some [.nilf], none, none⟩,
  ⟨.struct [(0, 1, false, true), (1, 1, false, true)], 2, 24, some [.d (.str []), .d (.int .i32 0)], none, some [2, 1]⟩,
  ⟨.struct [(0, 1, false, true), (1, 1, false, true)], 2, 24, some [.d (.str []), .d (.int .i32 0)], none, some [2, 1]⟩,
  ⟨.arr 22 115, 44, 528, some [.d (.str []), .d (.int .i32 0), .d (.str []), .d (.int .i32 0), .d (.str []), .d (.int .i32 0), .d (.str []), .d (.int .i32 0), .d (.str []), .d (.int .i32 0), .d (.str []), .d (.int .i32 0), .d (.str []), .d (.int .i32 0), .d (.str []), .d (.int .i32 0), .d (.str []), .d (.int .i32 0), .d (.str []), .d (.int .i32 0), .d (.str []), .d (.int .i32 0), .d (.str []), .d (.int .i32 0), .d (.str []), .d (.int .i32 0), .d (.str []), .d (.int .i32 0), .d (.str []), .d (.int .i32 0), .d (.str []), .d (.int .i32 0), .d (.str []), .d (.int .i32 0), .d (.str []), .d (.int .i32 0), .d (.str []), .d (.int .i32 0), .d (.str []), .d (.int .i32 0), .d (.str []), .d (.int .i32 0), .d (.str []), .d (.int .i32 0)], none, none⟩,
  ⟨.int .u32, 1, 4, some [.d (.int .u32 0)], none, none⟩,
  ⟨.tuple, 1, 0, none, none, none⟩,
  ⟨.func, 1, 8, some [.nilf], none, none⟩,
  ⟨.struct [(0, 1, false, true), (1, 1, false, true), (2, 1, false, true), (3, 1, false, true)], 4, 40, some [.nilp, .nilp, .nilp, .d (.str [])], none, none⟩,
  ⟨.struct [(0, 1, false, true), (1, 1, false, true), (2, 1, false, true), (3, 1, false, true)], 4, 40, some [.nilp, .nilp, .nilp, .d (.str [])], none, none⟩,
  ⟨.arr 0 16, 0, 0, some [], none, none⟩,
  ⟨.struct [(0, 0, true, false)], 0, 0, some [], none, none⟩,
  ⟨.struct [(0, 0, true, false)], 0, 0, some [], none, none⟩,
  ⟨.func, 1, 8, some [.nilf], none, none⟩,
  ⟨.int .u8, 1, 1, some [.d (.int .u8 0)], none, none⟩,
  ⟨.int .u8, 1, 1, some [.d (.int .u8 0)], none, none⟩,
  ⟨.func, 1, 8, some [.nilf], none, none⟩,
  ⟨.int .i32, 1, 4, some [.d (.int .i32 0)], none, none⟩,
  ⟨.int .i32, 1, 4, some [.d (.int .i32 0)], none, none⟩,
  ⟨.struct [(0, 1, false, true), (1, 1, false, true), (2, 1, false, true), (3, 1, false, true), (4, 1, false, true), (5, 1, false, true), (6, 1, false, true), (7, 1, false, true), (8, 1, false, true), (9, 1, false, true), (10, 1, false, true)], 11, 48, some [.d (.int .u64 0), .d (.int .u64 0), .d (.int .u32 0), .d (.int .u8 0), .d (.int .u8 0), .d (.int .u8 0), .d (.int .u8 0), .nilf, .nilp, .d (.int .i32 0), .d (.int .i32 0)], none, none⟩,
  ⟨.struct [(0, 1, false, true), (1, 1, false, true), (2, 1, false, true), (3, 1, false, true), (4, 1, false, true), (5, 1, false, true), (6, 1, false, true), (7, 1, false, true), (8, 1, false, true), (9, 1, false, true), (10, 1, false, true)], 11, 48, some [.d (.int .u64 0), .d (.int .u64 0), .d (.int .u32 0), .d (.int .u8 0), .d (.int .u8 0), .d (.int .u8 0), .d (.int .u8 0), .nilf, .nilp, .d (.int .i32 0), .d (.int .i32 0)], none, none⟩]
theorem Try.tab_ok : tabOf Try.prog = Try.tab := by kernel_rfl
theorem Try.wf : wfP Try.prog = true := by kernel_rfl
theorem Try.mixed : Try.prog.follows .mixedOrders = true := by kernel_rfl
theorem lenS {α : Type} : (∀ a b : List α, (a ++ b).length = a.length + b.length) ∧ (∀ (x : α) (l : List α), (x :: l).length = l.length + 1) ∧ ([] : List α).length = 0 ∧ (∀ (n : Nat) (l : List α), (l.drop n).length = l.length - n) ∧ (∀ (n : Nat) (l : List α), (l.take n).length = min n l.length) := ⟨fun _ _ => List.length_append, fun _ _ => List.length_cons, List.length_nil, fun _ _ => List.length_drop, fun _ _ => List.length_take⟩
end Go.Proofs.Ytcmkiancbgmmhaa

namespace Go.Proofs.Ytcmkiancbgmmhaa
open Go.Aw
set_option maxHeartbeats 1600000
set_option linter.unusedSimpArgs false
set_option linter.unusedVariables false
def lowB (c : UInt8) : UInt8 := if 65 ≤ c.toNat ∧ c.toNat ≤ 90 then c + 32 else c
def lower (s : List UInt8) : List UInt8 := s.map lowB
theorem lower_step (s : List UInt8) (k : Nat) (h : k < s.length) : lower (s.take (k + 1)) ++ s.drop (k + 1) = (lower (s.take k) ++ s.drop k).set k (lowB s[k]) := by
  have hl : (lower (s.take k)).length = k := by simp [lower]; omega
  rw [List.set_append_right _ _ (by omega), hl, Nat.sub_self]
  simp only [lower]
  rw [List.take_succ_eq_append_getElem h]
  have : (s.drop k).set 0 (lowB s[k]) = lowB s[k] :: s.drop (k + 1) := by rw [List.drop_eq_getElem_cons h]; rfl
  rw [this, List.map_append, List.append_assoc]; rfl
theorem bytesA_get (s : List UInt8) (i : Nat) (h : i < s.length) : (bytesA s)[i]? = some [.d (.int .u8 s[i].toNat)] := by simp [bytesA, h]
theorem bytesA_set (s : List UInt8) (i : Nat) (b : UInt8) : (bytesA s).set i [.d (.int .u8 b.toNat)] = bytesA (s.set i b) := by
  unfold bytesA
  exact (List.map_set (f := fun b : UInt8 => [AV.d (.int .u8 b.toNat)])).symm
theorem lowB_lo (c : UInt8) (h : ¬ (65 ≤ c.toNat ∧ c.toNat ≤ 90)) : lowB c = c := if_neg h
theorem lowB_hi (c : UInt8) (h : 65 ≤ c.toNat ∧ c.toNat ≤ 90) : ((lowB c).toNat : Int) = c.toNat + 97 - 65 := by
  unfold lowB
  rw [if_pos h, UInt8.toNat_add]
  have : (32 : UInt8).toNat = 32 := rfl
  rw [this, Nat.mod_eq_of_lt (by omega)]
  omega
theorem upd (s : List UInt8) (k : Nat) (hlt : k < s.length) (v : Int) (hv : v = ((lowB s[k]).toNat : Int)) :
    (bytesA (lower (s.take k) ++ s.drop k)).set k [.d (.int .u8 v)] = bytesA (lower (s.take (k + 1)) ++ s.drop (k + 1)) := by
  subst hv
  rw [bytesA_set, lower_step s k hlt]
theorem same (s : List UInt8) (k : Nat) (hlt : k < s.length) (hn : ¬ (65 ≤ s[k].toNat ∧ s[k].toNat ≤ 90)) : bytesA (lower (s.take (k + 1)) ++ s.drop (k + 1)) = bytesA (lower (s.take k) ++ s.drop k) := by
  have hl : (lower (s.take k)).length = k := by simp [lower]; omega
  rw [lower_step s k hlt, lowB_lo _ hn, List.set_append_right _ _ (by omega), hl, Nat.sub_self, List.drop_eq_getElem_cons hlt]; rfl
theorem at_k (s : List UInt8) (k : Nat) (hlt : k < s.length) : (bytesA (lower (s.take k) ++ s.drop k))[k]? = some [.d (.int .u8 s[k].toNat)] := by
  have hl : (lower (s.take k)).length = k := by simp [lower]; omega
  rw [bytesA_get _ _ (by simp [hl]; omega)]; simp [List.getElem_append_right, hl]
theorem at_end (s : List UInt8) : (((bytesA (lower (s.take s.length) ++ s.drop s.length)).drop 0).take s.length) = bytesA (lower s) := by
  simp only [List.take_length, List.drop_length, List.append_nil, List.drop_zero]
  exact List.take_of_length_le (by simp [bytesA, lower])
set_option maxRecDepth 10000 in
theorem Lower_ok (s : List UInt8) (hs : s.length ≤ 9223372036854775807) : PureC Try.prog 68 [.d (.str s)] (.d (.str (lower s))) := by
  refine pure_okT Try.wf Try.tab_ok Try.func68 (by decide +kernel) rfl rfl rfl rfl ?_
  refine ⟨hs, ?_⟩
  refine loopT Try.wf Try.tab_ok (fun n s' σ => ∃ k : Nat, k ≤ s.length ∧ n = s.length - k ∧ s' = [(3, .own 0 0 s.length), (8, .own 0 0 s.length), (9, .d (.int .i64 s.length)), (10, .d (.int .i64 k))] ∧ σ = ⟨1, [(0, .rows (1, 5) (bytesA (lower (s.take k) ++ s.drop k)))]⟩)
    ⟨0, Nat.zero_le _, rfl, rfl, rfl⟩ (Mv.of [.old 0] rfl rfl rfl ⟨⟨rfl, .inl ⟨rfl, bytesA_pure _⟩⟩, trivial⟩ ⟨⟨rfl, rfl, rfl⟩, ⟨rfl, rfl, rfl⟩, rfl, rfl, trivial⟩) ?_
  rintro n _ _ ⟨k, hk, rfl, rfl, rfl⟩
  refine ⟨fun h => ?_, fun h => ?_⟩
  · have hlt : k < s.length := by have := of_decide_eq_true h; omega
    have hu := s[k].toNat_lt
    have stay : ¬ (65 ≤ s[k].toNat ∧ s[k].toNat ≤ 90) → (Ob.rows (1, 5) (bytesA (lower (s.take (k + 1)) ++ s.drop (k + 1)))) = Ob.rows (1, 5) (bytesA (lower (s.take k) ++ s.drop k)) := fun hn => by rw [same s k hlt hn]
    refine ⟨⟨by omega, by omega⟩, _, at_k s k hlt, _, rfl, ?_⟩
    refine ⟨fun h1 => ?_, fun h1 => ?_⟩
    · have h1' := of_decide_eq_true h1
      refine ⟨fun h2 => ?_, fun h2 => ?_⟩
      · have h2' := of_decide_eq_true h2
        refine .inl ⟨⟨by omega, by omega⟩, .inl ⟨⟨by omega, by omega⟩, ⟨by omega, by omega⟩, _, at_k s k hlt, rfl, Nat.le_refl _, .inl ⟨⟨by omega, by omega⟩, ?_⟩⟩⟩
        exact ⟨_, _, _, ⟨k + 1, hlt, rfl, rfl, rfl⟩, by omega, Mv.of [.old 0] rfl rfl rfl ⟨⟨rfl, .inl ⟨(upd s k hlt _ (lowB_hi _ ⟨by omega, by omega⟩).symm).symm, bytesA_pure _⟩⟩, trivial⟩ ⟨⟨rfl, rfl, rfl⟩, ⟨rfl, rfl, rfl⟩, rfl, rfl, trivial⟩⟩
      · have h2' := of_decide_eq_false h2
        refine .inl ⟨⟨by omega, by omega⟩, ?_⟩
        exact ⟨_, _, _, ⟨k + 1, hlt, rfl, rfl, rfl⟩, by omega, Mv.of [.old 0] rfl rfl rfl ⟨⟨rfl, .inl ⟨same s k hlt (by omega), bytesA_pure _⟩⟩, trivial⟩ ⟨⟨rfl, rfl, rfl⟩, ⟨rfl, rfl, rfl⟩, rfl, rfl, trivial⟩⟩
    · have h1' := of_decide_eq_false h1
      refine .inl ⟨⟨by omega, by omega⟩, ?_⟩
      exact ⟨_, _, _, ⟨k + 1, hlt, rfl, rfl, rfl⟩, by omega, Mv.of [.old 0] rfl rfl rfl ⟨⟨rfl, .inl ⟨same s k hlt (by omega), bytesA_pure _⟩⟩, trivial⟩ ⟨⟨rfl, rfl, rfl⟩, ⟨rfl, rfl, rfl⟩, rfl, rfl, trivial⟩⟩
  · have hk' : k = s.length := by have := of_decide_eq_false h; omega
    subst hk'
    exact ⟨_, at_end s, by simp [lower], _, _, FinMove.refl _ _ _, rfl⟩
end Go.Proofs.Ytcmkiancbgmmhaa

namespace Go.Proofs.Ytcmkiancbgmmhaa
open Go.Aw
set_option maxHeartbeats 1600000
set_option linter.unusedSimpArgs false
set_option linter.unusedVariables false
def strsD (l : List (List UInt8)) : List (List D) := l.map fun s => [.str s]
theorem strsD_len (l : List (List UInt8)) : (strsD l).length = l.length := by simp [strsD]
theorem strsD_get (l : List (List UInt8)) (k : Nat) (h : k < l.length) : (strsD l)[((k : Nat) : Int).toNat]? = some [.str l[k]] := by simp [strsD, h]
def seek (l : List (List UInt8)) (v : List UInt8) : Int := if v ∈ l then ((l.findIdx fun x => decide (v = x) : Nat) : Int) else -1
set_option maxRecDepth 10000 in
theorem Index_ok (l : List (List UInt8)) (v : List UInt8) (hl : l.length ≤ 4611686018427387903) : PureC Try.prog 85 [.d (.sl (strsD l)), .d (.str v)] (.d (.int .i64 (seek l v))) := by
  refine pure_okT Try.wf Try.tab_ok Try.func85 (by decide +kernel) rfl rfl rfl rfl ?_
  have hn := strsD_len l
  refine loopT Try.wf Try.tab_ok (fun n s' σ => ∃ k : Nat, n = l.length - k ∧ k ≤ l.length ∧ (∀ j (h : j < k) (h2 : j < l.length), l[j] ≠ v) ∧ s' = [(0, .d (.sl (strsD l))), (1, .d (.str v)), (7, .d (.int .i64 l.length)), (8, .d (.int .i64 k))] ∧ σ = ⟨0, []⟩)
    ⟨0, rfl, Nat.zero_le _, fun j h => absurd h (by omega), rfl, rfl⟩ (Mv.of [] rfl rfl rfl trivial ⟨rfl, rfl, congrArg (fun n : Nat => D.int .i64 n) hn.symm, rfl, trivial⟩) ?_
  rintro _ _ _ ⟨k, rfl, hk, hI, rfl, rfl⟩
  refine ⟨fun h => ?_, fun h => ?_⟩
  · have hlt : k < l.length := by have := of_decide_eq_true h; omega
    refine ⟨⟨by omega, by rw [hn]; omega⟩, _, strsD_get l k hlt, rfl, _, rfl, ⟨fun h1 => ?_, fun h1 => ?_⟩⟩
    · have h1' := of_decide_eq_true h1
      refine ⟨_, _, FinMove.refl _ _ _, congrArg (fun x : Int => AV.d (.int .i64 x)) ?_⟩
      have hm : v ∈ l := by rw [h1']; exact List.getElem_mem hlt
      have : l.findIdx (fun x => decide (v = x)) = k := by
        rw [List.findIdx_eq hlt]
        exact ⟨by simpa using h1', fun j hj => by have := hI j hj (by omega); simp; exact fun e => this e.symm⟩
      rw [seek, if_pos hm, this]
    · have h1' := of_decide_eq_false h1
      exact .inl ⟨⟨by omega, by omega⟩, _, _, _, ⟨k + 1, rfl, hlt, fun j hj h2 => by
        by_cases e : j = k
        · subst e; exact fun e => h1' e.symm
        · exact hI j (by omega) h2, rfl, rfl⟩, by omega, Mv.of [] rfl rfl rfl trivial ⟨rfl, rfl, rfl, rfl, trivial⟩⟩
  · have hk' : k = l.length := by have := of_decide_eq_false h; omega
    subst hk'
    refine ⟨_, _, FinMove.refl _ _ _, congrArg (fun x : Int => AV.d (.int .i64 x)) ?_⟩
    rw [seek, if_neg]
    intro hm
    obtain ⟨j, hj, e⟩ := List.mem_iff_getElem.1 hm
    exact hI j hj hj e
set_option maxRecDepth 10000 in
theorem Contains_ok (l : List (List UInt8)) (v : List UInt8) (hl : l.length ≤ 4611686018427387903) : PureC Try.prog 78 [.d (.sl (strsD l)), .d (.str v)] (.d (.bool (decide (v ∈ l)))) := by
  refine pure_okT Try.wf Try.tab_ok Try.func78 (by decide +kernel) rfl rfl rfl rfl ?_
  refine PureC.use (Index_ok l v hl) ⟨_, _, FinMove.refl _ _ _, congrArg (fun b => AV.d (.bool b)) ?_⟩
  unfold seek
  by_cases h : v ∈ l
  · simp [h]
  · simp [h]
def hasPre (s p : List UInt8) : Bool := decide (p.length ≤ s.length) && decide (s.take p.length = p)
set_option maxRecDepth 10000 in
theorem lHasPrefix_ok (s p : List UInt8) : PureC Try.prog 66 [.d (.str s), .d (.str p)] (.d (.bool (hasPre s p))) := by
  refine pure_okT Try.wf Try.tab_ok Try.func66 (by decide +kernel) rfl rfl rfl rfl ?_
  refine ⟨fun h => ?_, fun h => ?_⟩
  · have h' : p.length ≤ s.length := by have := of_decide_eq_true h; omega
    refine ⟨⟨by omega, by omega, by omega⟩, _, _, FinMove.refl _ _ _, congrArg (fun b => AV.d (.bool b)) ?_⟩
    simp [hasPre, h']
  · have h' : ¬ p.length ≤ s.length := by have := of_decide_eq_false h; omega
    refine ⟨_, _, FinMove.refl _ _ _, congrArg (fun b => AV.d (.bool b)) ?_⟩
    simp [hasPre, h']
theorem HasPrefix_ok (s p : List UInt8) : PureC Try.prog 51 [.d (.str s), .d (.str p)] (.d (.bool (hasPre s p))) := by
  refine pure_okT Try.wf Try.tab_ok Try.func51 (by decide +kernel) rfl rfl rfl rfl ?_
  exact PureC.use (lHasPrefix_ok s p) ⟨_, _, FinMove.refl _ _ _, rfl⟩
theorem IndexByteString_ok (s : List UInt8) (c : UInt8) : PureC Try.prog 93 [.d (.str s), .d (.int .u8 c.toNat)] (.d (.int .i64 (idxB c s))) :=
  indexByte_abs Try.func93 (by decide +kernel) rfl (by kernel_rfl) (by kernel_rfl) s c
set_option maxRecDepth 10000 in
theorem lIndexByte_ok (s : List UInt8) (c : UInt8) : PureC Try.prog 84 [.d (.str s), .d (.int .u8 c.toNat)] (.d (.int .i64 (idxB c s))) := by
  refine pure_okT Try.wf Try.tab_ok Try.func84 (by decide +kernel) rfl rfl rfl rfl ?_
  exact PureC.use (IndexByteString_ok s c) ⟨_, _, FinMove.refl _ _ _, rfl⟩
set_option maxRecDepth 10000 in
theorem IndexByte_ok (s : List UInt8) (c : UInt8) : PureC Try.prog 76 [.d (.str s), .d (.int .u8 c.toNat)] (.d (.int .i64 (idxB c s))) := by
  refine pure_okT Try.wf Try.tab_ok Try.func76 (by decide +kernel) rfl rfl rfl rfl ?_
  exact PureC.use (lIndexByte_ok s c) ⟨_, _, FinMove.refl _ _ _, rfl⟩
def cutPre (s p : List UInt8) : AV := if hasPre s p then .tup [.d (.str (s.drop p.length)), .d (.bool true)] else .tup [.d (.str s), .d (.bool false)]
theorem cutPre_pure (s p : List UInt8) : (cutPre s p).pure = true := by unfold cutPre; split <;> rfl
set_option maxRecDepth 10000 in
theorem lCutPrefix_ok (s p : List UInt8) : PureC Try.prog 95 [.d (.str s), .d (.str p)] (cutPre s p) := by
  refine pure_okT Try.wf Try.tab_ok Try.func95 (by decide +kernel) rfl rfl rfl (cutPre_pure s p) ?_
  refine PureC.use (lHasPrefix_ok s p) ⟨fun h => ?_, fun h => ?_⟩
  · have h : hasPre s p = false := by simpa using h
    exact ⟨_, _, FinMove.refl _ _ _, by rw [cutPre, h]; rfl⟩
  · have h : hasPre s p = true := by simpa using h
    have hl : p.length ≤ s.length := by unfold hasPre at h; simp at h; exact h.1
    exact ⟨⟨by omega, by omega, by omega⟩, _, _, FinMove.refl _ _ _, by rw [cutPre, if_pos h]; exact congrArg (fun x => AV.tup [.d (.str x), .d (.bool true)]) (by simp)⟩
set_option maxRecDepth 10000 in
theorem CutPrefix_ok (s p : List UInt8) : PureC Try.prog 87 [.d (.str s), .d (.str p)] (cutPre s p) := by
  have c := lCutPrefix_ok s p
  refine pure_okT Try.wf Try.tab_ok Try.func87 (by decide +kernel) rfl rfl rfl (cutPre_pure s p) ?_
  unfold cutPre at c ⊢
  split at c
  · rename_i h; rw [if_pos h]; exact PureC.use c ⟨_, _, FinMove.refl _ _ _, rfl⟩
  · rename_i h; rw [if_neg h]; exact PureC.use c ⟨_, _, FinMove.refl _ _ _, rfl⟩
theorem getD_at (s : List UInt8) (k : Nat) (h : k < s.length) : s.getD ((k : Nat) : Int).toNat 0 = s[k] := by
  rw [Int.toNat_natCast, List.getD_eq_getElem?_getD, List.getElem?_eq_getElem h, Option.getD_some]
end Go.Proofs.Ytcmkiancbgmmhaa

namespace Go.Proofs.Ytcmkiancbgmmhaa
open Go.Aw
set_option maxHeartbeats 1600000
set_option linter.unusedSimpArgs false
set_option linter.unusedVariables false
/-- A tree, as plain data. -/
inductive Node where
  | mk (name : List UInt8) (attrs : List (List UInt8 × List UInt8)) (text : List UInt8) (kids : List Node)
def Node.name : Node → List UInt8
  | .mk n _ _ _ => n
def Node.attrs : Node → List (List UInt8 × List UInt8)
  | .mk _ a _ _ => a
def Node.text : Node → List UInt8
  | .mk _ _ t _ => t
def Node.kids : Node → List Node
  | .mk _ _ _ k => k
def attrD (a : List UInt8 × List UInt8) : List D := [.str a.1, .str a.2]
def attrsD (l : List (List UInt8 × List UInt8)) : List (List D) := l.map attrD
mutual
def nodeD : Node → List D
  | .mk n a t k => [.str n, .sl (attrsD a), .str t, .sl (nodesD k)]
def nodesD : List Node → List (List D)
  | [] => []
  | n :: r => nodeD n :: nodesD r
end
theorem nodesD_map : ∀ l : List Node, nodesD l = l.map nodeD
  | [] => by unfold nodesD; rfl
  | n :: r => by unfold nodesD; rw [nodesD_map r]; rfl
theorem nodeD_eq (n : Node) : nodeD n = [.str n.name, .sl (attrsD n.attrs), .str n.text, .sl (nodesD n.kids)] := by
  cases n; unfold nodeD; rfl
theorem nodesD_len (l : List Node) : (nodesD l).length = l.length := by rw [nodesD_map]; simp
theorem attrsD_len (l : List (List UInt8 × List UInt8)) : (attrsD l).length = l.length := by simp [attrsD]
theorem nodesD_get (l : List Node) (k : Nat) (h : k < l.length) : (nodesD l)[((k : Nat) : Int).toNat]? = some [.str l[k].name, .sl (attrsD l[k].attrs), .str l[k].text, .sl (nodesD l[k].kids)] := by
  rw [nodesD_map, Int.toNat_natCast]; simp [h, nodeD_eq]
theorem attrsD_get (l : List (List UInt8 × List UInt8)) (k : Nat) (h : k < l.length) : (attrsD l)[((k : Nat) : Int).toNat]? = some [.str l[k].1, .str l[k].2] := by
  rw [Int.toNat_natCast]; simp [attrsD, attrD, h]
mutual
def szN : Node → Nat
  | .mk _ _ _ k => 1 + szL k
def szL : List Node → Nat
  | [] => 0
  | n :: r => szN n + szL r
end
theorem szN_eq (n : Node) : szN n = 1 + szL n.kids := by cases n; unfold szN; rfl
theorem szL_cons (n : Node) (r : List Node) : szL (n :: r) = szN n + szL r := by rw [szL]
theorem sz_mem {l : List Node} {n : Node} (h : n ∈ l) : szN n ≤ szL l := by
  induction l with
  | nil => simp at h
  | cons m r ih =>
    rw [szL_cons]
    rcases List.mem_cons.1 h with rfl | h
    · omega
    · have := ih h; omega
theorem kids_lt {l : List Node} {n : Node} (h : n ∈ l) : szL n.kids < szL l := by
  have := sz_mem h
  rw [szN_eq] at this; omega
def voids : List (List UInt8) := [[97, 114, 101, 97], [98, 97, 115, 101], [98, 114], [99, 111, 108], [101, 109, 98, 101, 100], [104, 114], [105, 109, 103], [105, 110, 112, 117, 116], [108, 105, 110, 107], [109, 101, 116, 97], [112, 97, 114, 97, 109], [115, 111, 117, 114, 99, 101], [116, 114, 97, 99, 107], [119, 98, 114]]
def blocks : List (List UInt8) := [[97, 100, 100, 114, 101, 115, 115], [97, 114, 116, 105, 99, 108, 101], [97, 115, 105, 100, 101], [98, 108, 111, 99, 107, 113, 117, 111, 116, 101], [100, 105, 118], [100, 108], [102, 105, 101, 108, 100, 115, 101, 116], [102, 105, 103, 117, 114, 101], [102, 111, 111, 116, 101, 114], [102, 111, 114, 109], [104, 49], [104, 50], [104, 51], [104, 52], [104, 53], [104, 54], [104, 101, 97, 100, 101, 114], [104, 114], [108, 105], [109, 97, 105, 110], [110, 97, 118], [111, 108], [112], [112, 114, 101], [115, 101, 99, 116, 105, 111, 110], [116, 97, 98, 108, 101], [117, 108]]
def raws : List (List UInt8) := [[115, 99, 114, 105, 112, 116], [115, 116, 121, 108, 101], [120, 109, 112], [105, 102, 114, 97, 109, 101], [110, 111, 101, 109, 98, 101, 100], [110, 111, 102, 114, 97, 109, 101, 115], [112, 108, 97, 105, 110, 116, 101, 120, 116]]
def softs : List (List UInt8) := [[116, 101, 120, 116, 97, 114, 101, 97], [116, 105, 116, 108, 101]]
def rawV (s : List UInt8) : AV := .tup [.d (.bool (decide (s ∈ raws) || decide (s ∈ softs))), .d (.bool (decide (s ∉ raws) && decide (s ∈ softs)))]
theorem rawV_pure (s : List UInt8) : (rawV s).pure = true := rfl
set_option maxRecDepth 100000 in
theorem Void_ok (s : List UInt8) : PureC Try.prog 17 [.d (.str s)] (.d (.bool (decide (s ∈ voids)))) := by
  refine pure_okT Try.wf Try.tab_ok Try.func17 (by decide +kernel) rfl rfl rfl rfl ?_
  have yes : ∀ σ : Store, s ∈ voids → ∃ r2 σ2, FinMove ⟨0, []⟩ (AV.d (.bool true)) σ r2 σ2 ∧ r2 = AV.d (.bool (decide (s ∈ voids))) := fun σ h => ⟨_, _, fin_out rfl, by rw [decide_eq_true h]⟩
  iterate 14 (refine ⟨fun h => yes _ (by rw [of_decide_eq_true h]; decide), fun h => ?_⟩; replace h := of_decide_eq_false h)
  refine ⟨_, _, fin_out rfl, congrArg (fun b => AV.d (.bool b)) (decide_eq_false ?_).symm⟩
  simp_all [voids]
set_option maxRecDepth 100000 in
theorem Block_ok (s : List UInt8) : PureC Try.prog 20 [.d (.str s)] (.d (.bool (decide (s ∈ blocks)))) := by
  refine pure_okT Try.wf Try.tab_ok Try.func20 (by decide +kernel) rfl rfl rfl rfl ?_
  have yes : ∀ σ : Store, s ∈ blocks → ∃ r2 σ2, FinMove ⟨0, []⟩ (AV.d (.bool true)) σ r2 σ2 ∧ r2 = AV.d (.bool (decide (s ∈ blocks))) := fun σ h => ⟨_, _, fin_out rfl, by rw [decide_eq_true h]⟩
  iterate 27 (refine ⟨fun h => yes _ (by rw [of_decide_eq_true h]; decide), fun h => ?_⟩; replace h := of_decide_eq_false h)
  refine ⟨_, _, fin_out rfl, congrArg (fun b => AV.d (.bool b)) (decide_eq_false ?_).symm⟩
  simp_all [blocks]
set_option maxRecDepth 100000 in
theorem tRaw_ok (s : List UInt8) : PureC Try.prog 55 [.d (.str s)] (rawV s) := by
  refine pure_okT Try.wf Try.tab_ok Try.func55 (by decide +kernel) rfl rfl rfl (rawV_pure s) ?_
  have yes : ∀ σ : Store, s ∈ raws → ∃ r2 σ2, FinMove ⟨0, []⟩ (AV.tup [.d (.bool true), .d (.bool false)]) σ r2 σ2 ∧ r2 = rawV s := fun σ h => ⟨_, _, fin_out rfl, by simp [rawV, h]⟩
  iterate 7 (refine ⟨fun h => yes _ (by rw [of_decide_eq_true h]; decide), fun h => ?_⟩; replace h := of_decide_eq_false h)
  have hno : s ∉ raws := by simp_all [raws]
  have yes2 : ∀ σ : Store, s ∈ softs → ∃ r2 σ2, FinMove ⟨0, []⟩ (AV.tup [.d (.bool true), .d (.bool true)]) σ r2 σ2 ∧ r2 = rawV s := fun σ h => ⟨_, _, fin_out rfl, by simp [rawV, h, hno]⟩
  iterate 2 (refine ⟨fun h => yes2 _ (by rw [of_decide_eq_true h]; decide), fun h => ?_⟩; replace h := of_decide_eq_false h)
  have hno2 : s ∉ softs := by simp_all [softs]
  have e : rawV s = .tup [.d (.bool false), .d (.bool false)] := by simp [rawV, hno, hno2]
  exact ⟨_, _, fin_out rfl, e.symm⟩
end Go.Proofs.Ytcmkiancbgmmhaa

namespace Go.Proofs.Ytcmkiancbgmmhaa
open Go.Aw
set_option maxHeartbeats 1600000
set_option linter.unusedSimpArgs false
set_option linter.unusedVariables false
def letB (c : UInt8) : Bool := decide (97 ≤ c.toNat) && decide (c.toNat ≤ 122)
def digB (c : UInt8) : Bool := decide (48 ≤ c.toNat) && decide (c.toNat ≤ 57)
/-- A small letter, and such, digits and others behind it. -/
def smallT (o : List UInt8) (s : List UInt8) : Bool := s.all fun c => letB c || (digB c || decide (c ∈ o))
def small (s o : List UInt8) : Bool := match s with
  | [] => false
  | c :: r => letB c && smallT o r
theorem idx_mem (c : UInt8) (o : List UInt8) (h : o.length ≤ 9223372036854775807) : (decide (0 ≤ idxB c o)) = decide (c ∈ o) := by
  by_cases hm : c ∈ o
  · obtain ⟨a, b, rfl, ha⟩ := split_first hm
    rw [idxB_some ha, decide_eq_true hm, decide_eq_true (by omega)]
  · rw [idxB_none hm, decide_eq_false hm]; rfl
/-- What holds of a text up to a place. -/
def upto (s o : List UInt8) (k : Nat) : Bool := decide (k = 0) || small (s.take k) o
theorem upto_step (s o : List UInt8) (k : Nat) (h : k < s.length) : upto s o (k + 1) = (upto s o k && (letB s[k] || decide (0 < k) && (digB s[k] || decide (s[k] ∈ o)))) := by
  cases k with
  | zero =>
    have e : s.take (0 + 1) = [s[0]] := by rw [List.take_succ_eq_append_getElem h]; rfl
    unfold upto
    rw [e]
    simp [small, smallT]
  | succ j =>
    cases s with
    | nil => simp at h
    | cons c r =>
      simp only [List.length_cons] at h
      have hj : j < r.length := by omega
      unfold upto
      simp only [List.take_succ_cons, List.getElem_cons_succ, small]
      rw [List.take_succ_eq_append_getElem hj]
      simp only [smallT, List.all_append, List.all_cons, List.all_nil, Bool.and_true]
      simp [Bool.and_assoc]
theorem upto_end (s o : List UInt8) : (upto s o s.length && !decide (s = [])) = small s o := by
  unfold upto
  cases s with
  | nil => rfl
  | cons c r => simp
theorem upto_bad : ∀ (s o : List UInt8) (k : Nat), k ≤ s.length → upto s o k = false → small s o = false := by
  intro s o k hk h
  unfold upto at h
  rw [Bool.or_eq_false_iff] at h
  have hk0 : k ≠ 0 := by simpa using h.1
  cases s with
  | nil => simp at hk; omega
  | cons c r =>
    obtain ⟨j, rfl⟩ : ∃ j, k = j + 1 := ⟨k - 1, by omega⟩
    have h2 := h.2
    simp only [List.take_succ_cons, small] at h2 ⊢
    rw [Bool.and_eq_false_iff] at h2 ⊢
    rcases h2 with h2 | h2
    · exact .inl h2
    · refine .inr ?_
      unfold smallT at h2 ⊢
      rw [← List.take_append_drop j r, List.all_append, h2]; rfl
set_option maxRecDepth 100000 in
theorem small_ok (s o : List UInt8) (hs : s.length ≤ 4611686018427387904) (ho : o.length ≤ 9223372036854775807) : PureC Try.prog 64 [.d (.str s), .d (.str o)] (.d (.bool (small s o))) := by
  refine pure_okT Try.wf Try.tab_ok Try.func64 (by decide +kernel) rfl rfl rfl rfl ?_
  refine loopT Try.wf Try.tab_ok (fun n s' σ => ∃ k : Nat, n = s.length - k ∧ k ≤ s.length ∧ upto s o k = true ∧ s' = [(0, .d (.str s)), (1, .d (.str o)), (8, .d (.int .i64 s.length)), (9, .d (.int .i64 k))] ∧ σ = ⟨0, []⟩)
    ⟨0, rfl, Nat.zero_le _, rfl, rfl, rfl⟩ (Mv.of [] rfl rfl rfl trivial ⟨rfl, rfl, rfl, rfl, trivial⟩) ?_
  rintro _ _ _ ⟨k, rfl, hk, hI, rfl, rfl⟩
  refine ⟨fun h => ?_, fun h => ?_⟩
  · have hlt : k < s.length := by have := of_decide_eq_true h; omega
    clear h
    have hg := getD_at s k hlt
    have hst := upto_step s o k hlt
    rw [hI, Bool.true_and] at hst
    refine ⟨⟨by omega, by omega⟩, ?_⟩
    rw [hg]
    generalize hc : s[k] = c at *
    have hx := idx_mem c o ho
    have no : ∀ σ : Store, (letB c || decide (0 < k) && (digB c || decide (c ∈ o))) = false → ∃ r2 σ2, FinMove ⟨0, []⟩ (AV.d (.bool false)) σ r2 σ2 ∧ r2 = AV.d (.bool (small s o)) := fun σ h => ⟨_, _, fin_out rfl, by rw [upto_bad s o (k + 1) hlt (hst.trans h)]⟩
    have go : (letB c || decide (0 < k) && (digB c || decide (c ∈ o))) = true → upto s o (k + 1) = true := fun h => hst.trans h
    by_cases hl : 97 ≤ c.toNat ∧ c.toNat ≤ 122
    · repeat (first | refine ⟨fun _ => ?_, fun h => absurd (of_decide_eq_false h) (by omega)⟩ | refine ⟨fun h => absurd (of_decide_eq_true h) (by omega), fun _ => ?_⟩ | refine ⟨fun _ => ?_, fun h => absurd (of_decide_eq_true h) (by omega)⟩ | refine ⟨fun h => absurd (of_decide_eq_false h) (by omega), fun _ => ?_⟩ | refine .inl ⟨⟨by omega, by omega⟩, ?_⟩ | refine ⟨⟨by omega, by omega⟩, ?_⟩)
      exact ⟨_, _, _, ⟨k + 1, rfl, hlt, go (by simp [letB, hl]), rfl, rfl⟩, by omega, Mv.of [] rfl rfl rfl trivial ⟨rfl, rfl, rfl, rfl, trivial⟩⟩
    · have hlb : letB c = false := by simp [letB]; omega
      rw [hlb, Bool.false_or] at no go
      have hl2 : c.toNat < 97 ∨ 122 < c.toNat := by omega
      by_cases hk0 : k = 0
      · subst hk0
        rcases hl2 with hl2 | hl2
        all_goals
          repeat (first | refine ⟨fun _ => ?_, fun h => absurd (of_decide_eq_false h) (by omega)⟩ | refine ⟨fun h => absurd (of_decide_eq_true h) (by omega), fun _ => ?_⟩ | refine ⟨fun _ => ?_, fun h => absurd (of_decide_eq_true h) (by omega)⟩ | refine ⟨fun h => absurd (of_decide_eq_false h) (by omega), fun _ => ?_⟩ | refine .inl ⟨⟨by omega, by omega⟩, ?_⟩ | refine ⟨⟨by omega, by omega⟩, ?_⟩)
          exact no _ rfl
      · rw [decide_eq_true (show 0 < k by omega), Bool.true_and] at no go
        by_cases hd : 48 ≤ c.toNat ∧ c.toNat ≤ 57
        · have hdb : digB c = true := by simp [digB, hd]
          replace hl2 : c.toNat < 97 := by omega
          repeat (first | refine ⟨fun _ => ?_, fun h => absurd (of_decide_eq_false h) (by omega)⟩ | refine ⟨fun h => absurd (of_decide_eq_true h) (by omega), fun _ => ?_⟩ | refine ⟨fun _ => ?_, fun h => absurd (of_decide_eq_true h) (by omega)⟩ | refine ⟨fun h => absurd (of_decide_eq_false h) (by omega), fun _ => ?_⟩ | refine .inl ⟨⟨by omega, by omega⟩, ?_⟩ | refine ⟨⟨by omega, by omega⟩, ?_⟩)
          exact ⟨_, _, _, ⟨k + 1, rfl, hlt, go (by rw [hdb]; rfl), rfl, rfl⟩, by omega, Mv.of [] rfl rfl rfl trivial ⟨rfl, rfl, rfl, rfl, trivial⟩⟩
        · have hdb : digB c = false := by simp [digB]; omega
          have hd2 : c.toNat < 48 ∨ 57 < c.toNat := by omega
          rw [hdb, Bool.false_or, ← hx] at no go
          have hc1 := IndexByte_ok o c
          generalize idxB c o = x at *
          have hh : (c.toNat < 97 ∧ c.toNat < 48) ∨ (c.toNat < 97 ∧ 57 < c.toNat) ∨ (122 < c.toNat ∧ 57 < c.toNat) := by omega
          clear hl2 hd2 hl hd
          rcases hh with hh | hh | hh
          all_goals
            obtain ⟨hl2, hd2⟩ := hh
            repeat (first | refine ⟨fun _ => ?_, fun h => absurd (of_decide_eq_false h) (by omega)⟩ | refine ⟨fun h => absurd (of_decide_eq_true h) (by omega), fun _ => ?_⟩ | refine ⟨fun _ => ?_, fun h => absurd (of_decide_eq_true h) (by omega)⟩ | refine ⟨fun h => absurd (of_decide_eq_false h) (by omega), fun _ => ?_⟩ | refine .inl ⟨⟨by omega, by omega⟩, ?_⟩ | refine ⟨⟨by omega, by omega⟩, ?_⟩)
            refine PureC.use hc1 ?_
            by_cases hp : 0 ≤ x
            · repeat (first | refine ⟨fun _ => ?_, fun h => absurd (of_decide_eq_false h) (by omega)⟩ | refine ⟨fun h => absurd (of_decide_eq_true h) (by omega), fun _ => ?_⟩ | refine ⟨fun _ => ?_, fun h => absurd (of_decide_eq_true h) (by omega)⟩ | refine ⟨fun h => absurd (of_decide_eq_false h) (by omega), fun _ => ?_⟩ | refine .inl ⟨⟨by omega, by omega⟩, ?_⟩ | refine ⟨⟨by omega, by omega⟩, ?_⟩)
              exact ⟨_, _, _, ⟨k + 1, rfl, hlt, go (decide_eq_true hp), rfl, rfl⟩, by omega, Mv.of [] rfl rfl rfl trivial ⟨rfl, rfl, rfl, rfl, trivial⟩⟩
            · repeat (first | refine ⟨fun _ => ?_, fun h => absurd (of_decide_eq_false h) (by omega)⟩ | refine ⟨fun h => absurd (of_decide_eq_true h) (by omega), fun _ => ?_⟩ | refine ⟨fun _ => ?_, fun h => absurd (of_decide_eq_true h) (by omega)⟩ | refine ⟨fun h => absurd (of_decide_eq_false h) (by omega), fun _ => ?_⟩ | refine .inl ⟨⟨by omega, by omega⟩, ?_⟩ | refine ⟨⟨by omega, by omega⟩, ?_⟩)
              exact no _ (decide_eq_false hp)
  · have hk' : k = s.length := by have := of_decide_eq_false h; omega
    subst hk'
    refine ⟨_, _, fin_out rfl, congrArg (fun b => AV.d (.bool b)) ?_⟩
    rw [← upto_end, hI, Bool.true_and]
end Go.Proofs.Ytcmkiancbgmmhaa

namespace Go.Proofs.Ytcmkiancbgmmhaa
open Go.Aw
set_option maxHeartbeats 1600000
set_option linter.unusedSimpArgs false
set_option linter.unusedVariables false
/-- A text, or none. -/
def optV : Option (List UInt8) → AV
  | some x => .tup [.d (.str x), .d (.bool true)]
  | none => .tup [.d (.str []), .d (.bool false)]
theorem optV_pure (o : Option (List UInt8)) : (optV o).pure = true := by cases o <;> rfl
def enc (n : Int) : List UInt8 := (Utf8.encode n).data.toList
def nameTab : List (List UInt8 × Int) := [([97, 109, 112], 38), ([108, 116], 60), ([103, 116], 62), ([113, 117, 111, 116], 34), ([97, 112, 111, 115], 39), ([110, 98, 115, 112], 160), ([99, 111, 112, 121], 169), ([114, 101, 103], 174), ([100, 101, 103], 176), ([109, 105, 100, 100, 111, 116], 183), ([108, 97, 113, 117, 111], 171), ([114, 97, 113, 117, 111], 187), ([116, 105, 109, 101, 115], 215), ([101, 97, 99, 117, 116, 101], 233), ([110, 100, 97, 115, 104], 8211), ([109, 100, 97, 115, 104], 8212), ([108, 115, 113, 117, 111], 8216), ([114, 115, 113, 117, 111], 8217), ([108, 100, 113, 117, 111], 8220), ([114, 100, 113, 117, 111], 8221), ([104, 101, 108, 108, 105, 112], 8230), ([101, 117, 114, 111], 8364)]
def named (s : List UInt8) : Option (List UInt8) := (nameTab.find? fun e => decide (e.1 = s)).map fun e => enc e.2
theorem named_hit {s : List UInt8} {k : Nat} (h : k < nameTab.length) (hI : ∀ j (hj : j < nameTab.length), j < k → nameTab[j].1 ≠ s) (e : nameTab[k].1 = s) : named s = some (enc nameTab[k].2) := by
  have : nameTab.find? (fun e => decide (e.1 = s)) = some nameTab[k] := by
    rw [List.find?_eq_some_iff_getElem]
    exact ⟨decide_eq_true e, k, h, rfl, fun j hj => by simpa using hI j (by omega) hj⟩
  rw [named, this]; rfl
theorem named_miss {s : List UInt8} (hI : ∀ j (hj : j < nameTab.length), nameTab[j].1 ≠ s) : named s = none := by
  have : nameTab.find? (fun e => decide (e.1 = s)) = none := by
    rw [List.find?_eq_none]
    intro e he
    obtain ⟨j, hj, rfl⟩ := List.mem_iff_getElem.1 he
    simpa using hI j hj
  rw [named, this]; rfl
def fixN (n : Int) : Int := if n = 0 ∨ n = 13 ∨ (55296 ≤ n ∧ n ≤ 57343) ∨ 1114111 < n then 65533 else n
theorem enc_len (n : Int) : 1 ≤ (enc n).length ∧ (enc n).length ≤ 4 := by
  unfold enc Utf8.encode
  dsimp only
  repeat' split
  all_goals simp
/-- A digit's worth. -/
def hexv (c : UInt8) : Option Nat := if 48 ≤ c.toNat ∧ c.toNat ≤ 57 then some (c.toNat - 48) else if 97 ≤ c.toNat ∧ c.toNat ≤ 102 then some (c.toNat - 87) else if 65 ≤ c.toNat ∧ c.toNat ≤ 70 then some (c.toNat - 55) else none
def digs (base : Nat) : List UInt8 → Nat → Option Nat
  | [], n => some n
  | c :: r, n => match hexv c with
    | some d => if d < base then digs base r (n * base + d) else none
    | none => none
theorem hexv_lt {c : UInt8} {d : Nat} (h : hexv c = some d) : d < 16 := by
  unfold hexv at h
  split at h
  · cases h; omega
  · split at h
    · cases h; omega
    · split at h
      · cases h; omega
      · cases h
theorem digs_lt {base : Nat} (hb : base ≤ 16) : ∀ {l : List UInt8} {n m : Nat}, digs base l n = some m → m + 1 ≤ (n + 1) * 16 ^ l.length
  | [], n, m, h => by simp [digs] at h; subst h; simp
  | c :: r, n, m, h => by
    unfold digs at h
    split at h
    · rename_i d hd
      split at h
      · rename_i hlt
        have := digs_lt hb h
        have h1 : n * base + d + 1 ≤ (n + 1) * 16 := by
          have : n * base ≤ n * 16 := Nat.mul_le_mul_left _ hb
          have := hexv_lt hd
          omega
        calc m + 1 ≤ (n * base + d + 1) * 16 ^ r.length := this
          _ ≤ ((n + 1) * 16) * 16 ^ r.length := Nat.mul_le_mul_right _ h1
          _ = (n + 1) * 16 ^ (c :: r).length := by rw [List.length_cons, Nat.pow_succ, Nat.mul_assoc, Nat.mul_comm 16]
      · cases h
    · cases h
def number (s : List UInt8) (base most : Nat) : Option Nat := if s = [] ∨ most < s.length then none else digs base s 0
def hashN (d : List UInt8) : Option Nat := match d with
  | 120 :: e => number e 16 6
  | 88 :: e => number e 16 6
  | _ => number d 10 7
def stands (s : List UInt8) : Option (List UInt8) := match s with
  | 35 :: d => (hashN d).map fun (n : Nat) => enc (fixN (n : Int))
  | _ => named s
theorem stands_hash (d : List UInt8) : stands (35 :: d) = (hashN d).map fun (n : Nat) => enc (fixN (n : Int)) := rfl
theorem hash_x (e : List UInt8) : hashN (120 :: e) = number e 16 6 := rfl
theorem hash_X (e : List UInt8) : hashN (88 :: e) = number e 16 6 := rfl
theorem hash_d (d : List UInt8) (h1 : ∀ e, d ≠ 120 :: e) (h2 : ∀ e, d ≠ 88 :: e) : hashN d = number d 10 7 := by
  unfold hashN
  split
  · exact absurd rfl (h1 _)
  · exact absurd rfl (h2 _)
  · rfl
theorem stands_named (s : List UInt8) (h : ∀ d, s ≠ 35 :: d) : stands s = named s := by
  unfold stands
  split
  · rename_i d; exact absurd rfl (h d)
  · rfl
theorem find_at (a b : List UInt8) (h : (59 : UInt8) ∉ a) : (a ++ 59 :: b).findIdx (fun c => decide (c = 59)) = a.length := by
  induction a with
  | nil => rw [List.nil_append, List.findIdx_cons]; rfl
  | cons x r ih =>
    have h1 : x ≠ 59 := fun e => h (by simp [e])
    have h2 : (59 : UInt8) ∉ r := fun e => h (by simp [e])
    rw [List.cons_append, List.findIdx_cons, decide_eq_false h1]
    simp only [cond_false, List.length_cons]
    rw [ih h2]
def oneR (r : List UInt8) : Option (List UInt8 × List UInt8) :=
  if r.findIdx (fun c => decide (c = 59)) ≤ 10 ∧ r.findIdx (fun c => decide (c = 59)) < r.length then
    (stands (r.take (r.findIdx fun c => decide (c = 59)))).map fun t => (t, r.drop (r.findIdx (fun c => decide (c = 59)) + 1))
  else none
theorem oneR_some (a b : List UInt8) (h : (59 : UInt8) ∉ a) (hl : a.length ≤ 10) : oneR (a ++ 59 :: b) = (stands a).map fun t => (t, b) := by
  unfold oneR
  rw [find_at a b h, if_pos ⟨hl, by simp⟩]
  simp
theorem oneR_none (r : List UInt8) (h : (59 : UInt8) ∉ r.take 11) : oneR r = none := by
  unfold oneR
  rw [if_neg]
  rintro ⟨h1, h2⟩
  have h3 := List.findIdx_getElem (w := h2)
  apply h
  have : r[r.findIdx fun c => decide (c = 59)] = 59 := by simpa using h3
  rw [List.mem_iff_getElem]
  refine ⟨r.findIdx fun c => decide (c = 59), by simp; omega, ?_⟩
  rw [List.getElem_take]; exact this
theorem split_take (r : List UInt8) (h : (59 : UInt8) ∈ r.take 11) : ∃ a b, r = a ++ 59 :: b ∧ (59 : UInt8) ∉ a ∧ a.length ≤ 10 := by
  obtain ⟨a, b, e, ha⟩ := split_first h
  have hl : a.length < (r.take 11).length := by rw [e]; simp
  refine ⟨a, b ++ r.drop 11, ?_, ha, by simp at hl; omega⟩
  calc r = r.take 11 ++ r.drop 11 := (List.take_append_drop 11 r).symm
    _ = a ++ 59 :: (b ++ r.drop 11) := by rw [e]; simp
theorem oneR_lt {r t r' : List UInt8} (h : oneR r = some (t, r')) : r'.length < r.length := by
  by_cases hm : (59 : UInt8) ∈ r.take 11
  · obtain ⟨a, b, rfl, ha, hl⟩ := split_take r hm
    rw [oneR_some a b ha hl] at h
    cases hs : stands a with
    | none => rw [hs] at h; cases h
    | some u => rw [hs] at h; cases h; simp; omega
  · rw [oneR_none r hm] at h; cases h
def rsv : Nat → List UInt8 → List UInt8
  | 0, _ => []
  | _ + 1, [] => []
  | n + 1, c :: r => if c = 38 then (match oneR r with
      | some (t, r') => t ++ rsv n r'
      | none => 38 :: rsv n r) else c :: rsv n r
theorem rsv_fuel : ∀ (n m : Nat) (s : List UInt8), s.length ≤ n → s.length ≤ m → rsv n s = rsv m s
  | 0, 0, _, _, _ => rfl
  | 0, m + 1, s, h, _ => by
    have : s = [] := List.length_eq_zero_iff.1 (by omega)
    subst this; rfl
  | n + 1, 0, s, _, h => by
    have : s = [] := List.length_eq_zero_iff.1 (by omega)
    subst this; rfl
  | n + 1, m + 1, [], _, _ => rfl
  | n + 1, m + 1, c :: r, h1, h2 => by
    simp at h1 h2
    unfold rsv
    split
    · split
      · rename_i t r' ho
        have := oneR_lt ho
        rw [rsv_fuel n m r' (by omega) (by omega)]
      · rw [rsv_fuel n m r h1 h2]
    · rw [rsv_fuel n m r h1 h2]
def resolve (s : List UInt8) : List UInt8 := rsv s.length s
theorem resolve_nil : resolve [] = [] := rfl
theorem resolve_amp (r : List UInt8) : resolve (38 :: r) = match oneR r with
    | some (t, r') => t ++ resolve r'
    | none => 38 :: resolve r := by
  show rsv (r.length + 1) (38 :: r) = _
  unfold rsv
  rw [if_pos rfl]
  split
  · rename_i t r' ho
    have := oneR_lt ho
    rw [rsv_fuel r.length r'.length r' (by omega) (Nat.le_refl _)]; rfl
  · rfl
theorem resolve_other (c : UInt8) (r : List UInt8) (h : c ≠ 38) : resolve (c :: r) = c :: resolve r := by
  show rsv (r.length + 1) (c :: r) = _
  unfold rsv
  rw [if_neg h]; rfl
theorem resolve_plain : ∀ (a b : List UInt8), (38 : UInt8) ∉ a → resolve (a ++ b) = a ++ resolve b
  | [], _, _ => rfl
  | c :: a, b, h => by
    rw [List.cons_append, resolve_other _ _ (fun e => h (by simp [e])), resolve_plain a b (fun e => h (by simp [e]))]; rfl
theorem resolve_same (a : List UInt8) (h : (38 : UInt8) ∉ a) : resolve a = a := by
  have := resolve_plain a [] h
  rw [List.append_nil, resolve_nil, List.append_nil] at this; exact this
theorem nameTab_len : ∀ e ∈ nameTab, (enc e.2).length ≤ e.1.length + 2 := by decide +kernel
theorem named_len {a t : List UInt8} (h : named a = some t) : t.length ≤ a.length + 2 := by
  unfold named at h
  obtain ⟨e, he, rfl⟩ := Option.map_eq_some_iff.1 h
  have hm := List.mem_of_find?_eq_some he
  have hp := List.find?_some he
  have : e.1 = a := by simpa using hp
  rw [← this]
  exact nameTab_len e hm
theorem number_pos {s : List UInt8} {b m n : Nat} (h : number s b m = some n) : 1 ≤ s.length ∧ s.length ≤ m ∧ digs b s 0 = some n := by
  unfold number at h
  split at h
  · cases h
  · rename_i hn
    have : s ≠ [] := fun e => hn (.inl e)
    have := List.length_pos_iff.2 this
    exact ⟨this, by omega, h⟩
theorem stands_len {a t : List UInt8} (h : stands a = some t) : t.length ≤ a.length + 2 := by
  by_cases hh : ∃ d, a = 35 :: d
  · obtain ⟨d, rfl⟩ := hh
    rw [stands_hash] at h
    obtain ⟨n, hn, rfl⟩ := Option.map_eq_some_iff.1 h
    have h4 := (enc_len (fixN n)).2
    unfold hashN at hn
    split at hn
    · have := (number_pos hn).1; simp at this ⊢; omega
    · have := (number_pos hn).1; simp at this ⊢; omega
    · have := (number_pos hn).1; simp at this ⊢; omega
  · rw [stands_named a (fun d e => hh ⟨d, e⟩)] at h
    exact named_len h
theorem oneR_len {r t r' : List UInt8} (h : oneR r = some (t, r')) : t.length + r'.length ≤ r.length + 1 := by
  by_cases hm : (59 : UInt8) ∈ r.take 11
  · obtain ⟨a, b, rfl, ha, hl⟩ := split_take r hm
    rw [oneR_some a b ha hl] at h
    cases hs : stands a with
    | none => rw [hs] at h; cases h
    | some u =>
      rw [hs] at h; cases h
      have := stands_len hs
      simp; omega
  · rw [oneR_none r hm] at h; cases h
theorem resolve_len : ∀ (n : Nat) (s : List UInt8), s.length ≤ n → (resolve s).length ≤ s.length
  | _, [], _ => by simp [resolve_nil]
  | 0, _ :: _, h => by simp at h
  | n + 1, c :: r, h => by
    simp at h
    by_cases hc : c = 38
    · subst hc
      rw [resolve_amp]
      split
      · rename_i t r' ho
        have h1 := oneR_lt ho
        have h2 := oneR_len ho
        have := resolve_len n r' (by omega)
        simp; omega
      · have := resolve_len n r h
        simp; omega
    · rw [resolve_other c r hc]
      have := resolve_len n r h
      simp; omega
def esc1 (q : Bool) (c : UInt8) : List UInt8 := if c = 38 then [38, 97, 109, 112, 59] else if c = 60 then [38, 108, 116, 59] else if c = 62 then [38, 103, 116, 59] else if c = 34 ∧ q = true then [38, 113, 117, 111, 116, 59] else [c]
def escape (q : Bool) : List UInt8 → List UInt8
  | [] => []
  | [c] => esc1 q c
  | c :: d :: r => if c = 194 ∧ d = 160 then [38, 110, 98, 115, 112, 59] ++ escape q r else esc1 q c ++ escape q (d :: r)
theorem escape_nb (q : Bool) (r : List UInt8) : escape q (194 :: 160 :: r) = [38, 110, 98, 115, 112, 59] ++ escape q r := by simp [escape]
theorem escape_cons (q : Bool) (c : UInt8) (r : List UInt8) (h : ¬ (c = 194 ∧ ∃ t, r = 160 :: t)) : escape q (c :: r) = esc1 q c ++ escape q r := by
  cases r with
  | nil => simp [escape]
  | cons d t =>
    rw [escape, if_neg]
    rintro ⟨h1, h2⟩
    exact h ⟨h1, t, by rw [h2]⟩
theorem esc1_len (q : Bool) (c : UInt8) : 1 ≤ (esc1 q c).length ∧ (esc1 q c).length ≤ 6 := by
  unfold esc1
  repeat' split
  all_goals simp
theorem escape_len : ∀ (n : Nat) (q : Bool) (s : List UInt8), s.length ≤ n → s.length ≤ (escape q s).length ∧ (escape q s).length ≤ 6 * s.length
  | _, _, [], _ => by simp [escape]
  | 0, _, _ :: _, h => by simp at h
  | n + 1, q, c :: r, h => by
    simp at h
    by_cases hc : c = 194 ∧ ∃ t, r = 160 :: t
    · obtain ⟨rfl, t, rfl⟩ := hc
      rw [escape_nb]
      have := escape_len n q t (by simp at h; omega)
      simp; omega
    · rw [escape_cons q c r hc]
      have := escape_len n q r h
      have := esc1_len q c
      simp; omega
/-- How many bytes the right sequence has that a text begins with. -/
def lead (c : UInt8) : Nat × Nat × Nat :=
  if 194 ≤ c.toNat ∧ c.toNat ≤ 223 then (2, 128, 191)
  else if 224 ≤ c.toNat ∧ c.toNat ≤ 239 then (3, if c.toNat = 224 then 160 else 128, if c.toNat = 237 then 159 else 191)
  else if 240 ≤ c.toNat ∧ c.toNat ≤ 244 then (4, if c.toNat = 240 then 144 else 128, if c.toNat = 244 then 143 else 191)
  else (0, 128, 191)
def goesB (c : UInt8) : Bool := decide (128 ≤ c.toNat) && decide (c.toNat ≤ 191)
def right (s : List UInt8) : Nat := match s with
  | [] => 0
  | c :: r => if c.toNat < 128 then 1 else
    if (lead c).1 = 0 ∨ s.length < (lead c).1 ∨ (r.getD 0 0).toNat < (lead c).2.1 ∨ (lead c).2.2 < (r.getD 0 0).toNat then 0 else
    if ((r.drop 1).take ((lead c).1 - 2)).all goesB then (lead c).1 else 0
end Go.Proofs.Ytcmkiancbgmmhaa

namespace Go.Proofs.Ytcmkiancbgmmhaa
open Go.Aw
set_option maxHeartbeats 1600000
set_option linter.unusedSimpArgs false
set_option linter.unusedVariables false
def rawB (s : List UInt8) : Bool := decide (s ∈ raws) || decide (s ∈ softs)
def attrsFrom : List (List UInt8) → List (List UInt8 × List UInt8) → Bool
  | _, [] => true
  | seen, a :: r => (small a.1 [45, 95, 58] && !decide (a.1 ∈ seen)) && attrsFrom (seen ++ [a.1]) r
def ownB (n : Node) : Bool := !(rawB n.name || !small n.name [45] || !decide (n.text = []) || decide (n.name ∈ voids) && !decide (n.kids = [])) && attrsFrom [] n.attrs
theorem rawV_fst (s : List UInt8) : rawV s = .tup [.d (.bool (rawB s)), .d (.bool (decide (s ∉ raws) && decide (s ∈ softs)))] := rfl
set_option maxRecDepth 100000 in
theorem rRaw_ok (s : List UInt8) : PureC Try.prog 35 [.d (.str s)] (rawV s) := by
  refine pure_okT Try.wf Try.tab_ok Try.func35 (by decide +kernel) rfl rfl rfl (rawV_pure s) ?_
  refine loopT Try.wf Try.tab_ok (fun n s' σ => ∃ k : Nat, n = raws.length - k ∧ k ≤ raws.length ∧ s ∉ raws.take k ∧ s' = [(0, .d (.str s)), (4, .own 0 0 7), (5, .d (.int .i64 k))] ∧ σ = ⟨1, [(0, .rows (1, 9) (raws.map fun x => [AV.d (.str x)]))]⟩)
    ⟨0, rfl, Nat.zero_le _, by simp, rfl, rfl⟩ (Mv.of [.old 0] rfl rfl rfl ⟨⟨rfl, .inl ⟨rfl, fun row h => by obtain ⟨x, _, rfl⟩ := List.mem_map.1 h; rfl⟩⟩, trivial⟩ ⟨rfl, ⟨rfl, rfl, rfl⟩, rfl, trivial⟩) ?_
  rintro _ _ _ ⟨k, rfl, hk, hI, rfl, rfl⟩
  have hrl : raws.length = 7 := rfl
  refine ⟨fun h => ?_, fun h => ?_⟩
  · have hlt : k < raws.length := by have := of_decide_eq_true h; rw [hrl]; omega
    have hrow : (raws.map fun x => [AV.d (.str x)])[((k : Nat) : Int).toNat]? = some [AV.d (.str raws[k])] := by rw [Int.toNat_natCast]; simp [hlt]
    refine ⟨⟨by omega, by omega⟩, _, hrow, _, rfl, ?_⟩
    refine ⟨fun h1 => ?_, fun h1 => ?_⟩
    · have h1' := of_decide_eq_true h1
      have hm : s ∈ raws := h1' ▸ List.getElem_mem hlt
      refine ⟨_, _, fin_out rfl, ?_⟩
      show AV.tup [.d (.bool true), .d (.bool false)] = rawV s
      simp [rawV, hm]
    · have h1' := of_decide_eq_false h1
      refine .inl ⟨⟨by omega, by omega⟩, _, _, _, ⟨k + 1, rfl, hlt, ?_, rfl, rfl⟩, by omega, Mv.of [.old 0] rfl rfl rfl ⟨⟨rfl, .inl ⟨rfl, fun row h => by obtain ⟨x, _, rfl⟩ := List.mem_map.1 h; rfl⟩⟩, trivial⟩ ⟨rfl, ⟨rfl, rfl, rfl⟩, rfl, trivial⟩⟩
      rw [List.take_succ_eq_append_getElem hlt]
      simp only [List.mem_append, not_or, List.mem_singleton]
      exact ⟨hI, fun e => h1' e.symm⟩
  · have hk' : k = raws.length := by have := of_decide_eq_false h; rw [hrl] at hk ⊢; omega
    subst hk'
    rw [List.take_length] at hI
    have yes2 : ∀ σ : Store, s ∈ softs → ∃ r2 σ2, FinMove ⟨0, []⟩ (AV.tup [.d (.bool true), .d (.bool true)]) σ r2 σ2 ∧ r2 = rawV s := fun σ h => ⟨_, _, fin_out rfl, by simp [rawV, h, hI]⟩
    have e1 : (s ∈ softs) ↔ (s = [116, 101, 120, 116, 97, 114, 101, 97] ∨ s = [116, 105, 116, 108, 101]) := by simp [softs]
    by_cases h1 : s = [116, 101, 120, 116, 97, 114, 101, 97]
    · subst h1
      repeat (first | refine ⟨fun _ => ?_, fun h => absurd h (by decide)⟩ | refine ⟨fun h => absurd h (by decide), fun _ => ?_⟩)
      exact ⟨_, _, fin_out rfl, rfl⟩
    · refine ⟨fun _ => ?_, fun h => absurd (of_decide_eq_true h) h1⟩
      refine ⟨_, _, fin_out rfl, ?_⟩
      have e2 : decide (s ∈ softs) = decide (s = [116, 105, 116, 108, 101]) := by rw [decide_eq_decide, e1]; simp [h1]
      show AV.tup [.d (.bool (decide (s = [116, 105, 116, 108, 101]))), .d (.bool (decide (s = [116, 105, 116, 108, 101])))] = rawV s
      rw [← e2]
      simp [rawV, hI]
theorem others_step (c : UInt8) (o : List UInt8) (k : Nat) (h : k < o.length) : decide (c ∈ o.take (k + 1)) = (decide (c ∈ o.take k) || decide (c = o[k])) := by
  rw [List.take_succ_eq_append_getElem h, ← Bool.decide_or, decide_eq_decide, List.mem_append, List.mem_singleton]
set_option maxRecDepth 100000 in
theorem rname_ok (s o : List UInt8) (hs : s.length ≤ 4611686018427387904) (ho : o.length ≤ 4611686018427387904) : PureC Try.prog 36 [.d (.str s), .d (.str o)] (.d (.bool (small s o))) := by
  refine PureC.of rfl rfl (fn_okTE Try.wf Try.tab_ok Try.func36 (by decide +kernel) rfl rfl ?_)
  refine E.seq (E.of Try.wf Try.tab_ok ?_)
  refine E.seq (E.of Try.wf Try.tab_ok ?_)
  refine loopE (fun n s' σ => ∃ k : Nat, n = s.length - k ∧ k ≤ s.length ∧ upto s o k = true ∧ s' = [(0, .d (.str s)), (1, .d (.str o)), (5, .d (.int .i64 k))] ∧ σ = ⟨0, []⟩)
    ⟨0, rfl, Nat.zero_le _, rfl, rfl, rfl⟩ (Mv.of [] rfl rfl rfl trivial ⟨rfl, rfl, rfl, trivial⟩) ?_
  rintro _ _ _ ⟨k, rfl, hk, hI, rfl, rfl⟩
  refine E.seq (E.of Try.wf Try.tab_ok ?_)
  refine ⟨fun h => ?_, fun h => ?_⟩
  · have hlt : k < s.length := by have := of_decide_eq_true h; omega
    clear h
    have hg := getD_at s k hlt
    have hst := upto_step s o k hlt
    rw [hI, Bool.true_and] at hst
    refine E.seq (blockE ?_)
    refine E.seq (E.of Try.wf Try.tab_ok ?_)
    refine ⟨⟨by omega, by omega⟩, ?_⟩
    rw [hg]
    generalize hc : s[k] = c at *
    refine midT Try.wf Try.tab_ok (fun s' σ => s' = [(0, .d (.str s)), (1, .d (.str o)), (5, .d (.int .i64 k)), (6, .d (.int .u8 c.toNat)), (7, .d (.bool (letB c || (decide (0 < k) && digB c))))] ∧ σ = ⟨0, []⟩) ?_ ?_
    · have go : ∀ b : Bool, (letB c || (decide (0 < k) && digB c)) = b → vrelS (phi 0 []) [(0, .d (.str s)), (1, .d (.str o)), (5, .d (.int .i64 k)), (6, .d (.int .u8 c.toNat)), (7, .d (.bool b))] [(0, .d (.str s)), (1, .d (.str o)), (5, .d (.int .i64 k)), (6, .d (.int .u8 c.toNat)), (7, .d (.bool (letB c || (decide (0 < k) && digB c))))] := fun b h => by
        rw [h]; exact ⟨rfl, rfl, rfl, rfl, rfl, trivial⟩
      have d1 : (decide (((c.toNat : Nat) : Int) ≤ 57)) = decide (c.toNat ≤ 57) := by rw [decide_eq_decide]; omega
      by_cases hl : 97 ≤ c.toNat ∧ c.toNat ≤ 122
      · repeat (first | refine ⟨fun _ => ?_, fun h => absurd (of_decide_eq_false h) (by omega)⟩ | refine ⟨fun h => absurd (of_decide_eq_true h) (by omega), fun _ => ?_⟩ | refine ⟨fun _ => ?_, fun h => absurd (of_decide_eq_true h) (by omega)⟩ | refine ⟨fun h => absurd (of_decide_eq_false h) (by omega), fun _ => ?_⟩ | refine .inl ⟨⟨by omega, by omega⟩, ?_⟩ | refine ⟨⟨by omega, by omega⟩, ?_⟩)
        exact ⟨_, _, ⟨rfl, rfl⟩, Mv.of [] rfl rfl rfl trivial (go _ (by simp [letB, hl]))⟩
      · have hlb : letB c = false := by simp [letB]; omega
        by_cases hk0 : 0 < k
        · by_cases hd : 48 ≤ c.toNat
          · have e : (letB c || (decide (0 < k) && digB c)) = decide (((c.toNat : Nat) : Int) ≤ 57) := by rw [hlb, decide_eq_true hk0, d1]; simp [digB, hd]
            have hl2 : c.toNat < 97 ∨ 122 < c.toNat := by omega
            rcases hl2 with hl2 | hl2
            all_goals
              repeat (first | refine ⟨fun _ => ?_, fun h => absurd (of_decide_eq_false h) (by omega)⟩ | refine ⟨fun h => absurd (of_decide_eq_true h) (by omega), fun _ => ?_⟩ | refine ⟨fun _ => ?_, fun h => absurd (of_decide_eq_true h) (by omega)⟩ | refine ⟨fun h => absurd (of_decide_eq_false h) (by omega), fun _ => ?_⟩ | refine .inl ⟨⟨by omega, by omega⟩, ?_⟩ | refine ⟨⟨by omega, by omega⟩, ?_⟩)
              exact ⟨_, _, ⟨rfl, rfl⟩, Mv.of [] rfl rfl rfl trivial (go _ (e.trans (by first | rfl | (simp; omega))))⟩
          · have e : (letB c || (decide (0 < k) && digB c)) = false := by rw [hlb, decide_eq_true hk0]; simp [digB, hd]
            replace hl : c.toNat < 97 := by omega
            repeat (first | refine ⟨fun _ => ?_, fun h => absurd (of_decide_eq_false h) (by omega)⟩ | refine ⟨fun h => absurd (of_decide_eq_true h) (by omega), fun _ => ?_⟩ | refine ⟨fun _ => ?_, fun h => absurd (of_decide_eq_true h) (by omega)⟩ | refine ⟨fun h => absurd (of_decide_eq_false h) (by omega), fun _ => ?_⟩ | refine .inl ⟨⟨by omega, by omega⟩, ?_⟩ | refine ⟨⟨by omega, by omega⟩, ?_⟩)
            exact ⟨_, _, ⟨rfl, rfl⟩, Mv.of [] rfl rfl rfl trivial (go _ e)⟩
        · have e : (letB c || (decide (0 < k) && digB c)) = false := by rw [hlb, decide_eq_false hk0]; rfl
          have hl2 : c.toNat < 97 ∨ 122 < c.toNat := by omega
          rcases hl2 with hl2 | hl2
          all_goals
            repeat (first | refine ⟨fun _ => ?_, fun h => absurd (of_decide_eq_false h) (by omega)⟩ | refine ⟨fun h => absurd (of_decide_eq_true h) (by omega), fun _ => ?_⟩ | refine ⟨fun _ => ?_, fun h => absurd (of_decide_eq_true h) (by omega)⟩ | refine ⟨fun h => absurd (of_decide_eq_false h) (by omega), fun _ => ?_⟩ | refine .inl ⟨⟨by omega, by omega⟩, ?_⟩ | refine ⟨⟨by omega, by omega⟩, ?_⟩)
            exact ⟨_, _, ⟨rfl, rfl⟩, Mv.of [] rfl rfl rfl trivial (go _ e)⟩
    rintro _ _ ⟨rfl, rfl⟩
    generalize hb0 : (letB c || (decide (0 < k) && digB c)) = b0 at *
    refine midE (fun s' σ => s' = [(0, .d (.str s)), (1, .d (.str o)), (5, .d (.int .i64 k)), (7, .d (.bool (b0 || (decide (0 < k) && decide (c ∈ o)))))] ∧ σ = ⟨0, []⟩) ?_ ?_
    · refine E.seq (E.of Try.wf Try.tab_ok ?_)
      refine blockE (loopE (fun n s' σ => ∃ j : Nat, n = o.length - j ∧ j ≤ o.length ∧ s' = [(0, .d (.str s)), (1, .d (.str o)), (5, .d (.int .i64 k)), (6, .d (.int .u8 c.toNat)), (7, .d (.bool (b0 || (decide (0 < k) && decide (c ∈ o.take j))))), (8, .d (.int .i64 j))] ∧ σ = ⟨0, []⟩)
        ⟨0, rfl, Nat.zero_le _, rfl, rfl⟩ (Mv.of [] rfl rfl rfl trivial ⟨rfl, rfl, rfl, rfl, congrArg D.bool (show (b0 || (decide (0 < k) && decide (c ∈ o.take 0))) = b0 by simp), rfl, trivial⟩) ?_)
      rintro _ _ _ ⟨j, rfl, hj, rfl, rfl⟩
      refine E.seq (E.of Try.wf Try.tab_ok ?_)
      have out : ∀ b : Bool, (b0 || (decide (0 < k) && decide (c ∈ o))) = b → vrelS (phi 0 []) [(0, .d (.str s)), (1, .d (.str o)), (5, .d (.int .i64 k)), (7, .d (.bool b))] [(0, .d (.str s)), (1, .d (.str o)), (5, .d (.int .i64 k)), (7, .d (.bool (b0 || (decide (0 < k) && decide (c ∈ o)))))] := fun b h => by
        rw [h]; exact ⟨rfl, rfl, rfl, rfl, trivial⟩
      by_cases hk0 : 0 < k
      · by_cases hjl : j < o.length
        · have hst2 := others_step c o j hjl
          have hg2 := getD_at o j hjl
          have nx : ∀ b : Bool, (b0 || (decide (0 < k) && decide (c ∈ o.take (j + 1)))) = b → vrelS (phi 0 []) [(0, .d (.str s)), (1, .d (.str o)), (5, .d (.int .i64 k)), (6, .d (.int .u8 c.toNat)), (7, .d (.bool b)), (8, .d (.int .i64 (j + 1)))] [(0, .d (.str s)), (1, .d (.str o)), (5, .d (.int .i64 k)), (6, .d (.int .u8 c.toNat)), (7, .d (.bool (b0 || (decide (0 < k) && decide (c ∈ o.take (j + 1)))))), (8, .d (.int .i64 ((j + 1 : Nat) : Int)))] := fun b h => by
            rw [h]; exact ⟨rfl, rfl, rfl, rfl, rfl, rfl, trivial⟩
          have key : (b0 || (decide (0 < k) && decide (c ∈ o.take (j + 1)))) = ((b0 || (decide (0 < k) && decide (c ∈ o.take j))) || decide (c = o[j])) := by
            rw [hst2, decide_eq_true hk0, Bool.true_and, Bool.true_and, Bool.or_assoc]
          repeat (first | refine ⟨fun _ => ?_, fun h => absurd (of_decide_eq_false h) (by omega)⟩ | refine ⟨fun h => absurd (of_decide_eq_true h) (by omega), fun _ => ?_⟩ | refine ⟨fun _ => ?_, fun h => absurd (of_decide_eq_true h) (by omega)⟩ | refine ⟨fun h => absurd (of_decide_eq_false h) (by omega), fun _ => ?_⟩ | refine .inl ⟨⟨by omega, by omega⟩, ?_⟩ | refine ⟨⟨by omega, by omega⟩, ?_⟩)
          generalize (b0 || (decide (0 < k) && decide (c ∈ o.take j))) = X at *
          cases X with
          | true =>
            refine E.of Try.wf Try.tab_ok ?_
            repeat (first | refine ⟨fun _ => ?_, fun h => absurd h (by decide)⟩ | refine ⟨fun h => absurd h (by decide), fun _ => ?_⟩)
            refine .inl ⟨⟨by omega, by omega⟩, ?_⟩
            exact ⟨_, _, _, ⟨j + 1, rfl, hjl, rfl, rfl⟩, by omega, Mv.of [] rfl rfl rfl trivial (nx _ key)⟩
          | false =>
            refine E.of Try.wf Try.tab_ok ?_
            repeat (first | refine ⟨fun _ => ?_, fun h => absurd h (by decide)⟩ | refine ⟨fun h => absurd h (by decide), fun _ => ?_⟩)
            refine ⟨⟨by omega, by omega⟩, ?_⟩
            refine .inl ⟨⟨by omega, by omega⟩, ?_⟩
            have e8 : decide (((c.toNat : Nat) : Int) = (((o.getD ((j : Nat) : Int).toNat 0).toNat : Nat) : Int)) = decide (c = o[j]) := by
              rw [hg2, decide_eq_decide]
              constructor
              · intro h; exact UInt8.toNat_inj.1 (by omega)
              · intro h; rw [h]
            exact ⟨_, _, _, ⟨j + 1, rfl, hjl, rfl, rfl⟩, by omega, Mv.of [] rfl rfl rfl trivial (nx _ (key.trans ((Bool.false_or _).trans e8.symm)))⟩
        · have e : o.take j = o := List.take_of_length_le (by omega)
          repeat (first | refine ⟨fun _ => ?_, fun h => absurd (of_decide_eq_false h) (by omega)⟩ | refine ⟨fun h => absurd (of_decide_eq_true h) (by omega), fun _ => ?_⟩ | refine ⟨fun _ => ?_, fun h => absurd (of_decide_eq_true h) (by omega)⟩ | refine ⟨fun h => absurd (of_decide_eq_false h) (by omega), fun _ => ?_⟩ | refine .inl ⟨⟨by omega, by omega⟩, ?_⟩ | refine ⟨⟨by omega, by omega⟩, ?_⟩)
          exact ⟨_, _, ⟨rfl, rfl⟩, Mv.of [] rfl rfl rfl trivial (out _ (by rw [e]))⟩
      · by_cases hjl : j < o.length
        · repeat (first | refine ⟨fun _ => ?_, fun h => absurd (of_decide_eq_false h) (by omega)⟩ | refine ⟨fun h => absurd (of_decide_eq_true h) (by omega), fun _ => ?_⟩ | refine ⟨fun _ => ?_, fun h => absurd (of_decide_eq_true h) (by omega)⟩ | refine ⟨fun h => absurd (of_decide_eq_false h) (by omega), fun _ => ?_⟩ | refine .inl ⟨⟨by omega, by omega⟩, ?_⟩ | refine ⟨⟨by omega, by omega⟩, ?_⟩)
          exact ⟨_, _, ⟨rfl, rfl⟩, Mv.of [] rfl rfl rfl trivial (out _ (by rw [decide_eq_false hk0]; rfl))⟩
        · repeat (first | refine ⟨fun _ => ?_, fun h => absurd (of_decide_eq_false h) (by omega)⟩ | refine ⟨fun h => absurd (of_decide_eq_true h) (by omega), fun _ => ?_⟩ | refine ⟨fun _ => ?_, fun h => absurd (of_decide_eq_true h) (by omega)⟩ | refine ⟨fun h => absurd (of_decide_eq_false h) (by omega), fun _ => ?_⟩ | refine .inl ⟨⟨by omega, by omega⟩, ?_⟩ | refine ⟨⟨by omega, by omega⟩, ?_⟩)
          exact ⟨_, _, ⟨rfl, rfl⟩, Mv.of [] rfl rfl rfl trivial (out _ (by rw [decide_eq_false hk0]; rfl))⟩
    rintro _ _ ⟨rfl, rfl⟩
    have e1 : upto s o (k + 1) = (b0 || (decide (0 < k) && decide (c ∈ o))) := by
      rw [hst, ← hb0]; cases letB c <;> cases digB c <;> cases decide (0 < k) <;> simp
    generalize (b0 || (decide (0 < k) && decide (c ∈ o))) = b1 at *
    refine E.of Try.wf Try.tab_ok ?_
    cases b1 with
    | false =>
      repeat (first | refine ⟨fun _ => ?_, fun h => absurd h (by decide)⟩ | refine ⟨fun h => absurd h (by decide), fun _ => ?_⟩)
      exact ⟨_, _, fin_out rfl, (congrArg (fun b => AV.d (.bool b)) (upto_bad s o (k + 1) hlt e1)).symm, rfl⟩
    | true =>
      repeat (first | refine ⟨fun _ => ?_, fun h => absurd h (by decide)⟩ | refine ⟨fun h => absurd h (by decide), fun _ => ?_⟩)
      refine E.of Try.wf Try.tab_ok ?_
      repeat (first | refine ⟨fun _ => ?_, fun h => absurd (of_decide_eq_false h) (by omega)⟩ | refine ⟨fun h => absurd (of_decide_eq_true h) (by omega), fun _ => ?_⟩ | refine ⟨fun _ => ?_, fun h => absurd (of_decide_eq_true h) (by omega)⟩ | refine ⟨fun h => absurd (of_decide_eq_false h) (by omega), fun _ => ?_⟩ | refine .inl ⟨⟨by omega, by omega⟩, ?_⟩ | refine ⟨⟨by omega, by omega⟩, ?_⟩)
      exact ⟨_, _, _, ⟨k + 1, rfl, hlt, e1, rfl, rfl⟩, by omega, Mv.of [] rfl rfl rfl trivial ⟨rfl, rfl, rfl, trivial⟩⟩
  · have hk' : k = s.length := by have := of_decide_eq_false h; omega
    subst hk'
    refine E.of Try.wf Try.tab_ok ?_
    refine ⟨_, _, fin_out rfl, congrArg (fun b => AV.d (.bool b)) ?_, rfl⟩
    rw [← upto_end, hI, Bool.true_and]
    cases s <;> simp
set_option maxRecDepth 100000 in
theorem Element_ok (s : List UInt8) (hs : s.length ≤ 4611686018427387904) : PureC Try.prog 19 [.d (.str s)] (.d (.bool (small s [45] && !rawB s))) := by
  refine pure_okT Try.wf Try.tab_ok Try.func19 (by decide +kernel) rfl rfl rfl rfl ?_
  have c1 := rRaw_ok s
  rw [rawV_fst] at c1
  refine PureC.use c1 (PureC.use (rname_ok s [45] hs (by decide)) ?_)
  generalize small s [45] = a
  generalize rawB s = b
  cases a
  all_goals
    repeat (first | refine ⟨fun _ => ?_, fun h => absurd h (by decide)⟩ | refine ⟨fun h => absurd h (by decide), fun _ => ?_⟩)
    exact ⟨_, _, fin_out rfl, rfl⟩
set_option maxRecDepth 100000 in
theorem Attribute_ok (s : List UInt8) (hs : s.length ≤ 4611686018427387904) : PureC Try.prog 24 [.d (.str s)] (.d (.bool (small s [45, 95, 58]))) := by
  refine pure_okT Try.wf Try.tab_ok Try.func24 (by decide +kernel) rfl rfl rfl rfl ?_
  exact PureC.use (rname_ok s [45, 95, 58] hs (by decide)) ⟨_, _, fin_out rfl, rfl⟩
def Short (l : List (List UInt8 × List UInt8)) : Prop := l.length ≤ 1000000000 ∧ ∀ a ∈ l, a.1.length ≤ 1000000000 ∧ a.2.length ≤ 1000000000
end Go.Proofs.Ytcmkiancbgmmhaa

namespace Go.Proofs.Ytcmkiancbgmmhaa
open Go.Aw
set_option maxHeartbeats 1600000
set_option linter.unusedSimpArgs false
set_option linter.unusedVariables false
/-- A node as a value. -/
def nodeA (n : Node) : AV := .agg [.d (.str n.name), .d (.sl (attrsD n.attrs)), .d (.str n.text), .d (.sl (nodesD n.kids))]
theorem mlook_mput (x k : List UInt8) (v : AV) : ∀ es, strKeys es → mlook x (mput k v es) = if x = k then some v else mlook x es := by
  intro es
  induction es with
  | nil => intro _; simp [mput, mlook]
  | cons e r ih =>
    intro hk
    obtain ⟨s, hs⟩ := hk e (by simp)
    obtain ⟨a, u⟩ := e
    simp only at hs
    subst hs
    have ih' := ih (fun y hy => hk y (by simp [hy]))
    simp only [mput]
    by_cases h1 : k = s
    · subst h1
      rw [if_pos rfl]
      simp only [mlook]
      by_cases h2 : x = k <;> simp [h2]
    · rw [if_neg h1]
      simp only [mlook]
      by_cases h2 : x = s
      · subst h2; rw [if_pos rfl, if_pos rfl, if_neg (fun e => h1 e.symm)]
      · rw [if_neg h2, if_neg h2, ih']
theorem strKeys_mput (k : List UInt8) (v : AV) : ∀ es, strKeys es → strKeys (mput k v es) := by
  intro es
  induction es with
  | nil => intro _ e he; simp [mput] at he; subst he; exact ⟨k, rfl⟩
  | cons e r ih =>
    intro hk
    obtain ⟨s, hs⟩ := hk e (by simp)
    obtain ⟨a, u⟩ := e
    simp only at hs
    subst hs
    have ih' := ih (fun y hy => hk y (by simp [hy]))
    simp only [mput]
    by_cases h1 : k = s
    · rw [if_pos h1]
      intro y hy
      rcases List.mem_cons.1 hy with rfl | hy
      · exact ⟨k, rfl⟩
      · exact hk y (by simp [hy])
    · rw [if_neg h1]
      intro y hy
      rcases List.mem_cons.1 hy with rfl | hy
      · exact ⟨s, rfl⟩
      · exact ih' y hy
theorem pure_mput (k : List UInt8) (v : AV) (hv : v.pure = true) : ∀ es : List (AV × AV), (∀ e ∈ es, e.1.pure = true ∧ e.2.pure = true) → ∀ e ∈ mput k v es, e.1.pure = true ∧ e.2.pure = true := by
  intro es
  induction es with
  | nil => intro _ e he; simp [mput] at he; subst he; exact ⟨rfl, hv⟩
  | cons e r ih =>
    intro hk
    have ih' := ih (fun y hy => hk y (by simp [hy]))
    have h0 := hk e (by simp)
    have h1 : ∀ y ∈ r, y.1.pure = true ∧ y.2.pure = true := fun y hy => hk y (by simp [hy])
    have other : ∀ y ∈ e :: mput k v r, y.1.pure = true ∧ y.2.pure = true := fun y hy => by
      rcases List.mem_cons.1 hy with rfl | hy
      · exact h0
      · exact ih' y hy
    unfold mput
    split
    · rename_i heq; simp at heq
    · rename_i s u r' heq
      obtain ⟨rfl, rfl⟩ := List.cons.inj heq
      split
      · intro y hy
        rcases List.mem_cons.1 hy with rfl | hy
        · exact ⟨rfl, hv⟩
        · exact h1 y hy
      · exact other
    · rename_i x r' hne heq
      obtain ⟨rfl, rfl⟩ := List.cons.inj heq
      exact other
def nodeO (n : Node) : Ob := .rows (4, 29) [[.d (.str n.name), .d (.sl (attrsD n.attrs)), .d (.str n.text), .d (.sl (nodesD n.kids))]]
set_option maxRecDepth 100000 in
theorem own_ok (n : Node) (hn : n.name.length ≤ 1000000000) (hl : Short n.attrs) : PureC Try.prog 45 [nodeA n] (.d (.bool (ownB n))) := by
  refine PureC.of rfl rfl (fn_okTE Try.wf Try.tab_ok Try.func45 (by decide +kernel) rfl rfl ?_)
  have ha := attrsD_len n.attrs
  have hk := nodesD_len n.kids
  have c1 := tRaw_ok n.name
  rw [rawV_fst] at c1
  have c2 := small_ok n.name [45] (by omega) (by decide)
  have c3 := Void_ok n.name
  have hO : ownB n = (!(rawB n.name || !small n.name [45] || !decide (n.text = []) || decide (n.name ∈ voids) && !decide (n.kids = [])) && attrsFrom [] n.attrs) := rfl
  have hkz : decide ((0 : Int) < ((nodesD n.kids).length : Nat)) = !decide (n.kids = []) := by
    rw [hk]; cases n.kids <;> simp
  have no : ∀ σ : Store, ownB n = false → ∃ r2 σ2, FinMove ⟨0, []⟩ (AV.d (.bool false)) σ r2 σ2 ∧ r2 = AV.d (.bool (ownB n)) ∧ σ2.n = 0 := fun σ h => ⟨_, _, fin_out rfl, by rw [h], rfl⟩
  refine E.seq (E.of Try.wf Try.tab_ok ?_)
  rw [hO] at no ⊢
  refine midT Try.wf Try.tab_ok (fun s' σ => (!(rawB n.name || !small n.name [45] || !decide (n.text = []) || decide (n.name ∈ voids) && !decide (n.kids = []))) = true ∧ s' = [(1, .ref 0 0 0)] ∧ σ = ⟨1, [(0, nodeO n)]⟩) ?_ ?_
  · have hz0 : n.kids = [] → decide (n.kids = []) = true := fun h => decide_eq_true h
    refine ⟨_, rfl, _, rfl, ?_⟩
    refine PureC.use c1 ?_
    generalize rawB n.name = b1 at *
    cases b1 with
    | true =>
      repeat (first | refine ⟨fun _ => ?_, fun h => absurd h (by decide)⟩ | refine ⟨fun h => absurd h (by decide), fun _ => ?_⟩)
      exact no _ rfl
    | false =>
      repeat (first | refine ⟨fun _ => ?_, fun h => absurd h (by decide)⟩ | refine ⟨fun h => absurd h (by decide), fun _ => ?_⟩)
      refine ⟨_, rfl, _, rfl, ?_⟩
      refine PureC.use c2 ?_
      generalize small n.name [45] = b2 at *
      cases b2 with
      | false =>
        repeat (first | refine ⟨fun _ => ?_, fun h => absurd h (by decide)⟩ | refine ⟨fun h => absurd h (by decide), fun _ => ?_⟩)
        exact no _ rfl
      | true =>
        repeat (first | refine ⟨fun _ => ?_, fun h => absurd h (by decide)⟩ | refine ⟨fun h => absurd h (by decide), fun _ => ?_⟩)
        refine ⟨_, rfl, _, rfl, ?_⟩
        by_cases ht : n.text = []
        · rw [decide_eq_true ht] at no ⊢
          refine ⟨fun _ => ?_, fun h => absurd h (by rw [ht]; decide)⟩
          refine ⟨_, rfl, _, rfl, ?_⟩
          refine PureC.use c3 ?_
          generalize decide (n.name ∈ voids) = b3 at *
          cases b3 with
          | true =>
            repeat (first | refine ⟨fun _ => ?_, fun h => absurd h (by decide)⟩ | refine ⟨fun h => absurd h (by decide), fun _ => ?_⟩)
            refine ⟨_, rfl, _, rfl, ?_⟩
            by_cases hz : n.kids = []
            · rw [decide_eq_true hz] at hkz ⊢
              refine ⟨fun h => absurd (h.symm.trans hkz) (by decide), fun _ => ?_⟩
              exact ⟨_, _, ⟨rfl, rfl, rfl⟩, Mv.of [.old 0] rfl rfl rfl ⟨⟨rfl, .inl ⟨rfl, fun row h => by rw [List.mem_singleton.1 h]; rfl⟩⟩, trivial⟩ ⟨⟨rfl, rfl, rfl⟩, trivial⟩⟩
            · rw [decide_eq_false hz] at no hkz ⊢
              refine ⟨fun _ => no _ rfl, fun h => absurd (h.symm.trans hkz) (by decide)⟩
          | false =>
            repeat (first | refine ⟨fun _ => ?_, fun h => absurd h (by decide)⟩ | refine ⟨fun h => absurd h (by decide), fun _ => ?_⟩)
            exact ⟨_, _, ⟨rfl, rfl, rfl⟩, Mv.of [.old 0] rfl rfl rfl ⟨⟨rfl, .inl ⟨rfl, fun row h => by rw [List.mem_singleton.1 h]; rfl⟩⟩, trivial⟩ ⟨⟨rfl, rfl, rfl⟩, trivial⟩⟩
        · rw [decide_eq_false ht] at no ⊢
          refine ⟨fun h => absurd h (by show ¬ (!decide (n.text = [])) = false; rw [decide_eq_false ht]; decide), fun _ => ?_⟩
          exact no _ rfl
  · rintro _ _ ⟨hQ, rfl, rfl⟩
    rw [hQ] at no ⊢
    rw [Bool.true_and] at no ⊢
    unfold nodeO
    generalize n.attrs = l at *
    generalize n.name = na at *
    generalize n.text = nt at *
    generalize nodesD n.kids = nk at *
    refine E.seq (E.of Try.wf Try.tab_ok ?_)
    refine E.seq (E.of Try.wf Try.tab_ok ?_)
    refine ⟨_, rfl, _, rfl, ?_⟩
    refine loopT Try.wf Try.tab_ok (fun m s' σ => ∃ (k : Nat) (es : List (AV × AV)), m = l.length - k ∧ k ≤ l.length ∧ attrsFrom ((l.take k).map Prod.fst) (l.drop k) = attrsFrom [] l ∧ strKeys es ∧ (∀ e ∈ es, e.1.pure = true ∧ e.2.pure = true) ∧ (∀ x, mlook x es = if x ∈ (l.take k).map Prod.fst then some (.d (.bool true)) else none) ∧ s' = [(5, .mp 0), (39, .d (.sl (attrsD l))), (40, .d (.int .i64 l.length)), (41, .d (.int .i64 k))] ∧ σ = ⟨1, [(0, .map es)]⟩)
      ⟨0, [], rfl, Nat.zero_le _, rfl, fun e he => by simp at he, fun e he => by simp at he, fun x => by simp [mlook], rfl, rfl⟩ (Mv.of [.old 1] rfl rfl rfl ⟨.inl ⟨rfl, fun e he => by simp at he⟩, trivial⟩ ⟨rfl, rfl, by rw [← ha]; rfl, rfl, trivial⟩) ?_
    rintro _ _ _ ⟨k, es, rfl, hk', hI, hes, hpu, hml, rfl, rfl⟩
    have hl1 := hl.1
    refine ⟨fun h => ?_, fun h => ?_⟩
    · have hlt : k < l.length := by have := of_decide_eq_true h; omega
      clear h
      rw [List.drop_eq_getElem_cons hlt, attrsFrom] at hI
      have hsm : attrsFrom ((l.take (k + 1)).map Prod.fst) (l.drop (k + 1)) = attrsFrom ((l.take k).map Prod.fst ++ [l[k].1]) (l.drop (k + 1)) := by rw [List.take_succ_eq_append_getElem hlt, List.map_append]; rfl
      have htk : (l.take (k + 1)).map Prod.fst = (l.take k).map Prod.fst ++ [l[k].1] := by rw [List.take_succ_eq_append_getElem hlt, List.map_append]; rfl
      have c5 := small_ok l[k].1 [45, 95, 58] (by have := (hl.2 _ (List.getElem_mem hlt)).1; omega) (by decide)
      refine ⟨⟨by omega, by rw [ha]; omega⟩, _, attrsD_get l k hlt, rfl, ?_⟩
      refine ⟨Nat.le_refl _, _, rfl, rfl, Nat.le_refl _, ?_⟩
      refine ⟨_, rfl, _, rfl, ?_⟩
      refine PureC.use c5 ?_
      generalize small l[k].1 [45, 95, 58] = b1 at *
      have no2 : ∀ σ : Store, attrsFrom [] l = false → ∃ r2 σ2, FinMove ⟨0, []⟩ (AV.d (.bool false)) σ r2 σ2 ∧ r2 = AV.d (.bool (attrsFrom [] l)) ∧ σ2.n = 0 := fun σ h => ⟨_, _, fin_out rfl, by rw [h], rfl⟩
      cases b1 with
      | false =>
        repeat (first | refine ⟨fun _ => ?_, fun h => absurd h (by decide)⟩ | refine ⟨fun h => absurd h (by decide), fun _ => ?_⟩)
        exact no2 _ hI.symm
      | true =>
        repeat (first | refine ⟨fun _ => ?_, fun h => absurd h (by decide)⟩ | refine ⟨fun h => absurd h (by decide), fun _ => ?_⟩)
        refine ⟨_, rfl, _, rfl, ?_⟩
        have hm := hml l[k].1
        refine ⟨rfl, es, _, rfl, hes, rfl, rfl, ?_⟩
        by_cases hin : l[k].1 ∈ (l.take k).map Prod.fst
        · rw [if_pos hin] at hm
          rw [decide_eq_true hin] at hI
          rw [hm]
          repeat (first | refine ⟨fun _ => ?_, fun h => absurd h (by decide)⟩ | refine ⟨fun h => absurd h (by decide), fun _ => ?_⟩)
          exact no2 _ hI.symm
        · rw [if_neg hin] at hm
          rw [decide_eq_false hin] at hI
          rw [hm]
          repeat (first | refine ⟨fun _ => ?_, fun h => absurd h (by decide)⟩ | refine ⟨fun h => absurd h (by decide), fun _ => ?_⟩)
          refine ⟨_, rfl, _, rfl, ?_⟩
          refine ⟨rfl, es, rfl, hes, ?_⟩
          repeat (first | refine ⟨fun _ => ?_, fun h => absurd (of_decide_eq_false h) (by omega)⟩ | refine ⟨fun h => absurd (of_decide_eq_true h) (by omega), fun _ => ?_⟩ | refine ⟨fun _ => ?_, fun h => absurd (of_decide_eq_true h) (by omega)⟩ | refine ⟨fun h => absurd (of_decide_eq_false h) (by omega), fun _ => ?_⟩ | refine .inl ⟨⟨by omega, by omega⟩, ?_⟩ | refine ⟨⟨by omega, by omega⟩, ?_⟩)
          refine ⟨_, _, _, ⟨k + 1, _, rfl, hlt, hsm.trans hI, strKeys_mput _ _ _ hes, pure_mput _ _ rfl _ hpu, fun x => ?_, rfl, rfl⟩, by omega, Mv.of [.old 0] rfl rfl rfl ⟨.inl ⟨rfl, pure_mput _ _ rfl _ hpu⟩, trivial⟩ ⟨rfl, rfl, rfl, rfl, trivial⟩⟩
          rw [mlook_mput _ _ _ _ hes, htk]
          simp only [List.mem_append, List.mem_singleton]
          by_cases hx : x = l[k].1
          · rw [if_pos hx, if_pos (Or.inr hx)]; rfl
          · rw [if_neg hx, hml x]
            by_cases hx2 : x ∈ (l.take k).map Prod.fst
            · rw [if_pos hx2, if_pos (Or.inl hx2)]
            · rw [if_neg hx2, if_neg (fun h => h.elim hx2 hx)]
    · refine E.of Try.wf Try.tab_ok ?_
      have hk2 : k = l.length := by have := of_decide_eq_false h; omega
      subst hk2
      refine ⟨_, _, fin_out rfl, congrArg (fun b => AV.d (.bool b)) ?_, rfl⟩
      rw [← hI, List.drop_length]; rfl
end Go.Proofs.Ytcmkiancbgmmhaa

namespace Go.Proofs.Ytcmkiancbgmmhaa
open Go.Aw
set_option maxHeartbeats 1600000
set_option linter.unusedSimpArgs false
set_option linter.unusedVariables false
mutual
def dpN : Node → Nat
  | .mk nm _ _ k => if nm = [] then 0 else dpL k + 1
def dpL : List Node → Nat
  | [] => 0
  | n :: r => max (dpN n) (dpL r)
end
theorem dpN_eq (n : Node) : dpN n = if n.name = [] then 0 else dpL n.kids + 1 := by cases n; unfold dpN; rfl
theorem dpL_cons (n : Node) (r : List Node) : dpL (n :: r) = max (dpN n) (dpL r) := by rw [dpL]
mutual
theorem dp_sz : ∀ n : Node, dpN n ≤ szN n
  | .mk nm a t k => by
    have := dp_szL k
    unfold dpN szN
    split <;> omega
theorem dp_szL : ∀ l : List Node, dpL l ≤ szL l
  | [] => by simp [dpL]
  | n :: r => by
    have h1 := dp_sz n
    have h2 := dp_szL r
    unfold dpL szL
    omega
end
theorem szN_pos (n : Node) : 1 ≤ szN n := by rw [szN_eq]; omega
theorem sz_len : ∀ l : List Node, l.length ≤ szL l
  | [] => by simp
  | n :: r => by have := sz_len r; have := szN_pos n; rw [szL_cons]; simp only [List.length_cons]; omega
def sizeV (l : List Node) : AV := .tup [.d (.int .i64 (szL l)), .d (.int .i64 (dpL l))]
theorem max_is (a b : Nat) : (if ((b : Nat) : Int) > ((a : Nat) : Int) then ((b : Nat) : Int) else ((a : Nat) : Int)) = ((max a b : Nat) : Int) := by
  rw [Nat.max_def]
  by_cases h : b > a
  · rw [if_pos (by omega), if_pos (by omega)]
  · rw [if_neg (by omega)]
    by_cases h2 : a ≤ b
    · rw [if_pos h2]; omega
    · rw [if_neg h2]
theorem max_is1 (a b : Nat) : ((max a (b + 1) : Nat) : Int) = (if (1 + ((b : Nat) : Int)) > ((a : Nat) : Int) then (1 + ((b : Nat) : Int)) else ((a : Nat) : Int)) := by
  rw [← max_is a (b + 1), show (1 + ((b : Nat) : Int)) = ((b + 1 : Nat) : Int) by omega]
set_option maxRecDepth 100000 in
theorem Size_ok (N : Nat) : ∀ (l : List Node), szL l ≤ N → N ≤ 1000000000 → PureC Try.prog 25 [.d (.sl (nodesD l))] (sizeV l) := by
  induction N using Nat.strongRecOn with
  | ind N ih =>
  intro l hN hB
  refine pure_okT Try.wf Try.tab_ok Try.func25 (by decide +kernel) rfl rfl rfl rfl ?_
  have hn := nodesD_len l
  have hdp := dp_szL l
  have hsl := sz_len l
  refine loopT Try.wf Try.tab_ok (fun m s' σ => ∃ (k a b : Nat), m = l.length - k ∧ k ≤ l.length ∧ a + szL (l.drop k) = szL l ∧ max b (dpL (l.drop k)) = dpL l ∧ s' = [(4, .d (.int .i64 a)), (5, .d (.int .i64 b)), (10, .d (.sl (nodesD l))), (11, .d (.int .i64 l.length)), (12, .d (.int .i64 k))] ∧ σ = ⟨0, []⟩)
    ⟨0, 0, 0, rfl, Nat.zero_le _, by simp, by simp, rfl, rfl⟩ (Mv.of [] rfl rfl rfl trivial ⟨rfl, rfl, rfl, by rw [← hn]; rfl, rfl, trivial⟩) ?_
  rintro _ _ _ ⟨k, a, b, rfl, hk, hA, hB2, rfl, rfl⟩
  refine ⟨fun h => ?_, fun h => ?_⟩
  · have hlt : k < l.length := by have := of_decide_eq_true h; omega
    clear h
    rw [List.drop_eq_getElem_cons hlt] at hA hB2
    rw [szL_cons, szN_eq] at hA
    rw [dpL_cons, dpN_eq] at hB2
    refine ⟨⟨by omega, by rw [hn]; omega⟩, _, nodesD_get l k hlt, rfl, ?_⟩
    refine ⟨Nat.le_refl _, _, rfl, rfl, Nat.le_refl _, ?_⟩
    refine ⟨_, rfl, _, rfl, ?_⟩
    have hks := kids_lt (List.getElem_mem hlt)
    have c1 := ih (szL l[k].kids) (by omega) l[k].kids (Nat.le_refl _) (by omega)
    have hdk := dp_szL l[k].kids
    refine PureC.use c1 ?_
    repeat (first | refine ⟨fun _ => ?_, fun h => absurd (of_decide_eq_false h) (by omega)⟩ | refine ⟨fun h => absurd (of_decide_eq_true h) (by omega), fun _ => ?_⟩ | refine ⟨fun _ => ?_, fun h => absurd (of_decide_eq_true h) (by omega)⟩ | refine ⟨fun h => absurd (of_decide_eq_false h) (by omega), fun _ => ?_⟩ | refine .inl ⟨⟨by omega, by omega⟩, ?_⟩ | refine ⟨⟨by omega, by omega⟩, ?_⟩)
    refine ⟨_, rfl, _, rfl, ?_⟩
    have hA' : (a + 1 + szL l[k].kids) + szL (l.drop (k + 1)) = szL l := by omega
    refine ⟨fun h => ?_, fun h => ?_⟩
    · have hne : ¬ l[k].name = [] := of_decide_eq_false (by simpa using h)
      rw [if_neg hne] at hB2
      repeat (first | refine ⟨fun _ => ?_, fun h => absurd (of_decide_eq_false h) (by omega)⟩ | refine ⟨fun h => absurd (of_decide_eq_true h) (by omega), fun _ => ?_⟩ | refine ⟨fun _ => ?_, fun h => absurd (of_decide_eq_true h) (by omega)⟩ | refine ⟨fun h => absurd (of_decide_eq_false h) (by omega), fun _ => ?_⟩ | refine .inl ⟨⟨by omega, by omega⟩, ?_⟩ | refine ⟨⟨by omega, by omega⟩, ?_⟩)
      refine ⟨_, _, _, ⟨k + 1, a + 1 + szL l[k].kids, max b (dpL l[k].kids + 1), rfl, hlt, hA', ?_, rfl, rfl⟩, by omega, Mv.of [] rfl rfl rfl trivial ⟨congrArg (D.int .i64) (show ((a + 1 + szL l[k].kids : Nat) : Int) = _ by omega), congrArg (D.int .i64) (max_is1 _ _), rfl, rfl, rfl, trivial⟩⟩
      rw [Nat.max_assoc]; exact hB2
    · have hne : l[k].name = [] := of_decide_eq_true (by simpa using h)
      rw [if_pos hne] at hB2
      repeat (first | refine ⟨fun _ => ?_, fun h => absurd (of_decide_eq_false h) (by omega)⟩ | refine ⟨fun h => absurd (of_decide_eq_true h) (by omega), fun _ => ?_⟩ | refine ⟨fun _ => ?_, fun h => absurd (of_decide_eq_true h) (by omega)⟩ | refine ⟨fun h => absurd (of_decide_eq_false h) (by omega), fun _ => ?_⟩ | refine .inl ⟨⟨by omega, by omega⟩, ?_⟩ | refine ⟨⟨by omega, by omega⟩, ?_⟩)
      refine ⟨_, _, _, ⟨k + 1, a + 1 + szL l[k].kids, b, rfl, hlt, hA', ?_, rfl, rfl⟩, by omega, Mv.of [] rfl rfl rfl trivial ⟨congrArg (D.int .i64) (show ((a + 1 + szL l[k].kids : Nat) : Int) = _ by omega), rfl, rfl, rfl, rfl, trivial⟩⟩
      rw [← hB2, Nat.zero_max]
  · have hk' : k = l.length := by have := of_decide_eq_false h; omega
    subst hk'
    rw [List.drop_length] at hA hB2
    have e1 : a = szL l := by rw [← hA]; rfl
    have e2 : b = dpL l := by rw [← hB2]; simp [dpL]
    subst e1
    subst e2
    exact ⟨_, _, fin_out rfl, rfl⟩
def inLi (li : Bool) (nm : List UInt8) : Bool := if nm = [108, 105] then true else if nm = [117, 108] ∨ nm = [111, 108] then false else li
mutual
/-- A named node within; a node of text. -/
def stN (p li : Bool) : Node → Bool
  | .mk nm a t k => ownB (.mk nm a t k) && !(p && decide (nm ∈ blocks)) && !(li && decide (nm = [108, 105])) && stL false (p || decide (nm = [112])) (inLi li nm) k
def stL (tx p li : Bool) : List Node → Bool
  | [] => true
  | n :: r => if n.name = [] then (!tx && !decide (n.text = []) && decide (n.attrs = []) && decide (n.kids = [])) && stL true p li r else stN p li n && stL false p li r
end
theorem stN_eq (p li : Bool) (n : Node) : stN p li n = (ownB n && !(p && decide (n.name ∈ blocks)) && !(li && decide (n.name = [108, 105])) && stL false (p || decide (n.name = [112])) (inLi li n.name) n.kids) := by
  cases n; unfold stN; rfl
theorem stL_cons (tx p li : Bool) (n : Node) (r : List Node) : stL tx p li (n :: r) = if n.name = [] then (!tx && !decide (n.text = []) && decide (n.attrs = []) && decide (n.kids = [])) && stL true p li r else stN p li n && stL false p li r := by rw [stL]
mutual
/-- All texts are short. -/
def ShN : Node → Prop
  | .mk nm a t k => nm.length ≤ 1000000000 ∧ Short a ∧ t.length ≤ 1000000000 ∧ ShL k
def ShL : List Node → Prop
  | [] => True
  | n :: r => ShN n ∧ ShL r
end
theorem ShN_eq (n : Node) : ShN n ↔ (n.name.length ≤ 1000000000 ∧ Short n.attrs ∧ n.text.length ≤ 1000000000 ∧ ShL n.kids) := by cases n; unfold ShN; rfl
theorem ShL_mem : ∀ {l : List Node}, ShL l → ∀ n ∈ l, ShN n
  | [], _, n, h => by simp at h
  | m :: r, hs, n, h => by
    unfold ShL at hs
    rcases List.mem_cons.1 h with rfl | h
    · exact hs.1
    · exact ShL_mem hs.2 n h
set_option maxRecDepth 100000 in
theorem stable_ok (N : Nat) : ∀ (l : List Node) (p li : Bool), szL l ≤ N → N ≤ 1000000000 → ShL l → PureC Try.prog 31 [.d (.sl (nodesD l)), .d (.bool p), .d (.bool li)] (.d (.bool (stL false p li l))) := by
  induction N using Nat.strongRecOn with
  | ind N ih =>
  intro l p li hN hB hS
  refine PureC.of rfl rfl (fn_okTE Try.wf Try.tab_ok Try.func31 (by decide +kernel) rfl rfl ?_)
  have hn := nodesD_len l
  have hsl := sz_len l
  refine E.seq (E.of Try.wf Try.tab_ok ?_)
  refine E.seq (E.of Try.wf Try.tab_ok ?_)
  refine E.seq (E.of Try.wf Try.tab_ok ?_)
  refine loopE (fun m s' σ => ∃ (k : Nat) (tx : Bool), m = l.length - k ∧ k ≤ l.length ∧ stL tx p li (l.drop k) = stL false p li l ∧ s' = [(1, .d (.bool p)), (2, .d (.bool li)), (7, .d (.bool tx)), (11, .d (.sl (nodesD l))), (12, .d (.int .i64 l.length)), (13, .d (.int .i64 k))] ∧ σ = ⟨0, []⟩)
    ⟨0, false, rfl, Nat.zero_le _, rfl, rfl, rfl⟩ (Mv.of [] rfl rfl rfl trivial ⟨rfl, rfl, rfl, rfl, by rw [← hn]; rfl, rfl, trivial⟩) ?_
  rintro _ _ _ ⟨k, tx, rfl, hk, hI, rfl, rfl⟩
  have no : ∀ σ : Store, stL false p li l = false → ∃ r2 σ2, FinMove ⟨0, []⟩ (AV.d (.bool false)) σ r2 σ2 ∧ r2 = AV.d (.bool (stL false p li l)) ∧ σ2.n = 0 := fun σ h => ⟨_, _, fin_out rfl, by rw [h], rfl⟩
  refine E.seq (E.of Try.wf Try.tab_ok ?_)
  refine E.seq (E.of Try.wf Try.tab_ok ?_)
  refine ⟨fun h => ?_, fun h => ?_⟩
  · have hlt : k < l.length := by have := of_decide_eq_true h; omega
    clear h
    rw [List.drop_eq_getElem_cons hlt, stL_cons] at hI
    have hks := kids_lt (List.getElem_mem hlt)
    have hsn := (ShN_eq _).1 (ShL_mem hS _ (List.getElem_mem hlt))
    have hget := nodesD_get l k hlt
    have hkl := nodesD_len l[k].kids
    have hal := attrsD_len l[k].attrs
    have c1 := own_ok l[k] hsn.1 hsn.2.1
    have c2 := Block_ok l[k].name
    have c3 := ih (szL l[k].kids) (by omega) l[k].kids (p || decide (l[k].name = [112])) (inLi li l[k].name) (Nat.le_refl _) (by omega) hsn.2.2.2
    refine E.seq (blockE ?_)
    refine E.seq (E.of Try.wf Try.tab_ok ?_)
    refine ⟨⟨by omega, by rw [hn]; omega⟩, _, hget, rfl, ?_⟩
    refine ⟨Nat.le_refl _, _, rfl, rfl, Nat.le_refl _, ?_⟩
    refine midT Try.wf Try.tab_ok (fun s' σ => l[k].name ≠ [] ∧ s' = [(1, .d (.bool p)), (2, .d (.bool li)), (9, .ref 0 0 0), (11, .d (.sl (nodesD l))), (12, .d (.int .i64 l.length)), (13, .d (.int .i64 k))] ∧ σ = ⟨1, [(0, nodeO l[k])]⟩) ?_ ?_
    · refine ⟨_, rfl, _, rfl, ?_⟩
      have haz : decide ((0 : Int) < ((attrsD l[k].attrs).length : Nat)) = !decide (l[k].attrs = []) := by
        rw [hal]; cases l[k].attrs <;> simp
      have hkz : decide ((0 : Int) < ((nodesD l[k].kids).length : Nat)) = !decide (l[k].kids = []) := by
        rw [hkl]; cases l[k].kids <;> simp
      by_cases hne : l[k].name = []
      · rw [if_pos hne] at hI
        refine ⟨fun _ => ?_, fun h => absurd (of_decide_eq_false h) (fun h => h hne)⟩
        cases tx with
        | true =>
          repeat (first | refine ⟨fun _ => ?_, fun h => absurd h (by decide)⟩ | refine ⟨fun h => absurd h (by decide), fun _ => ?_⟩)
          exact no _ hI.symm
        | false =>
          repeat (first | refine ⟨fun _ => ?_, fun h => absurd h (by decide)⟩ | refine ⟨fun h => absurd h (by decide), fun _ => ?_⟩)
          refine ⟨_, rfl, _, rfl, ?_⟩
          by_cases ht : l[k].text = []
          · rw [decide_eq_true ht] at hI
            refine ⟨fun h => absurd (of_decide_eq_false h) (fun h => h ht), fun _ => ?_⟩
            repeat (first | refine ⟨fun _ => ?_, fun h => absurd h (by decide)⟩ | refine ⟨fun h => absurd h (by decide), fun _ => ?_⟩)
            exact no _ hI.symm
          · rw [decide_eq_false ht] at hI
            refine ⟨fun _ => ?_, fun h => absurd (of_decide_eq_true h) ht⟩
            refine ⟨_, rfl, _, rfl, ?_⟩
            by_cases hza : l[k].attrs = []
            · rw [decide_eq_true hza] at hI haz
              refine ⟨fun _ => ?_, fun h => absurd (h.symm.trans haz) (by decide)⟩
              refine ⟨_, rfl, _, rfl, ?_⟩
              by_cases hzk : l[k].kids = []
              · rw [decide_eq_true hzk] at hI hkz
                refine ⟨fun h => absurd (h.symm.trans hkz) (by decide), fun _ => ?_⟩
                refine E.of Try.wf Try.tab_ok ?_
                repeat (first | refine ⟨fun _ => ?_, fun h => absurd (of_decide_eq_false h) (by omega)⟩ | refine ⟨fun h => absurd (of_decide_eq_true h) (by omega), fun _ => ?_⟩ | refine ⟨fun _ => ?_, fun h => absurd (of_decide_eq_true h) (by omega)⟩ | refine ⟨fun h => absurd (of_decide_eq_false h) (by omega), fun _ => ?_⟩ | refine .inl ⟨⟨by omega, by omega⟩, ?_⟩ | refine ⟨⟨by omega, by omega⟩, ?_⟩)
                refine ⟨_, _, _, ⟨k + 1, true, rfl, hlt, hI, rfl, rfl⟩, by omega, Mv.of [] rfl rfl rfl trivial ⟨rfl, rfl, rfl, rfl, rfl, rfl, trivial⟩⟩
              · rw [decide_eq_false hzk] at hI hkz
                refine ⟨fun _ => ?_, fun h => absurd (h.symm.trans hkz) (by decide)⟩
                exact no _ hI.symm
            · rw [decide_eq_false hza] at hI haz
              refine ⟨fun h => absurd (h.symm.trans haz) (by decide), fun _ => ?_⟩
              repeat (first | refine ⟨fun _ => ?_, fun h => absurd h (by decide)⟩ | refine ⟨fun h => absurd h (by decide), fun _ => ?_⟩)
              exact no _ hI.symm
      · refine ⟨fun h => absurd (of_decide_eq_true h) hne, fun _ => ?_⟩
        exact ⟨_, _, ⟨hne, rfl, rfl⟩, Mv.of [.old 0] rfl rfl rfl ⟨⟨rfl, .inl ⟨rfl, fun row h => by rw [List.mem_singleton.1 h]; rfl⟩⟩, trivial⟩ ⟨rfl, rfl, ⟨rfl, rfl, rfl⟩, rfl, rfl, rfl, trivial⟩⟩
    rintro _ _ ⟨hne, rfl, rfl⟩
    rw [if_neg hne, stN_eq] at hI
    refine E.seq (E.of Try.wf Try.tab_ok ?_)
    refine midT Try.wf Try.tab_ok (fun s' σ => (ownB l[k] && !(p && decide (l[k].name ∈ blocks)) && !(li && decide (l[k].name = [108, 105]))) = true ∧ s' = [(1, .d (.bool p)), (2, .d (.bool li)), (7, .d (.bool false)), (9, .ref 0 0 0), (11, .d (.sl (nodesD l))), (12, .d (.int .i64 l.length)), (13, .d (.int .i64 k))] ∧ σ = ⟨1, [(0, nodeO l[k])]⟩) ?_ ?_
    · have hnm : nodeA l[k] = .agg [.d (.str l[k].name), .d (.sl (attrsD l[k].attrs)), .d (.str l[k].text), .d (.sl (nodesD l[k].kids))] := rfl
      refine ⟨_, rfl, Nat.le_refl _, ?_⟩
      refine PureC.use c1 ?_
      generalize ownB l[k] = o at *
      cases o with
      | false =>
        repeat (first | refine ⟨fun _ => ?_, fun h => absurd h (by decide)⟩ | refine ⟨fun h => absurd h (by decide), fun _ => ?_⟩)
        exact no _ hI.symm
      | true =>
        repeat (first | refine ⟨fun _ => ?_, fun h => absurd h (by decide)⟩ | refine ⟨fun h => absurd h (by decide), fun _ => ?_⟩)
        cases p with
        | true =>
          repeat (first | refine ⟨fun _ => ?_, fun h => absurd h (by decide)⟩ | refine ⟨fun h => absurd h (by decide), fun _ => ?_⟩)
          refine ⟨_, rfl, _, rfl, ?_⟩
          refine PureC.use c2 ?_
          generalize decide (l[k].name ∈ blocks) = bl at *
          cases bl with
          | true =>
            repeat (first | refine ⟨fun _ => ?_, fun h => absurd h (by decide)⟩ | refine ⟨fun h => absurd h (by decide), fun _ => ?_⟩)
            exact no _ hI.symm
          | false =>
            repeat (first | refine ⟨fun _ => ?_, fun h => absurd h (by decide)⟩ | refine ⟨fun h => absurd h (by decide), fun _ => ?_⟩)
            cases li with
            | true =>
              repeat (first | refine ⟨fun _ => ?_, fun h => absurd h (by decide)⟩ | refine ⟨fun h => absurd h (by decide), fun _ => ?_⟩)
              refine ⟨_, rfl, _, rfl, ?_⟩
              by_cases hli : l[k].name = [108, 105]
              · rw [decide_eq_true hli] at hI
                refine ⟨fun _ => ?_, fun h => absurd (of_decide_eq_false h) (fun h => h hli)⟩
                exact no _ hI.symm
              · rw [decide_eq_false hli]
                refine ⟨fun h => absurd (of_decide_eq_true h) hli, fun _ => ?_⟩
                exact ⟨_, _, ⟨rfl, rfl, rfl⟩, Mv.of [.old 0] rfl rfl rfl ⟨⟨rfl, .inl ⟨rfl, fun row h => by rw [List.mem_singleton.1 h]; rfl⟩⟩, trivial⟩ ⟨rfl, rfl, rfl, ⟨rfl, rfl, rfl⟩, rfl, rfl, rfl, trivial⟩⟩
            | false =>
              repeat (first | refine ⟨fun _ => ?_, fun h => absurd h (by decide)⟩ | refine ⟨fun h => absurd h (by decide), fun _ => ?_⟩)
              exact ⟨_, _, ⟨rfl, rfl, rfl⟩, Mv.of [.old 0] rfl rfl rfl ⟨⟨rfl, .inl ⟨rfl, fun row h => by rw [List.mem_singleton.1 h]; rfl⟩⟩, trivial⟩ ⟨rfl, rfl, rfl, ⟨rfl, rfl, rfl⟩, rfl, rfl, rfl, trivial⟩⟩
        | false =>
          repeat (first | refine ⟨fun _ => ?_, fun h => absurd h (by decide)⟩ | refine ⟨fun h => absurd h (by decide), fun _ => ?_⟩)
          cases li with
          | true =>
            repeat (first | refine ⟨fun _ => ?_, fun h => absurd h (by decide)⟩ | refine ⟨fun h => absurd h (by decide), fun _ => ?_⟩)
            refine ⟨_, rfl, _, rfl, ?_⟩
            by_cases hli : l[k].name = [108, 105]
            · rw [decide_eq_true hli] at hI
              refine ⟨fun _ => ?_, fun h => absurd (of_decide_eq_false h) (fun h => h hli)⟩
              exact no _ hI.symm
            · rw [decide_eq_false hli]
              refine ⟨fun h => absurd (of_decide_eq_true h) hli, fun _ => ?_⟩
              exact ⟨_, _, ⟨rfl, rfl, rfl⟩, Mv.of [.old 0] rfl rfl rfl ⟨⟨rfl, .inl ⟨rfl, fun row h => by rw [List.mem_singleton.1 h]; rfl⟩⟩, trivial⟩ ⟨rfl, rfl, rfl, ⟨rfl, rfl, rfl⟩, rfl, rfl, rfl, trivial⟩⟩
          | false =>
            repeat (first | refine ⟨fun _ => ?_, fun h => absurd h (by decide)⟩ | refine ⟨fun h => absurd h (by decide), fun _ => ?_⟩)
            exact ⟨_, _, ⟨rfl, rfl, rfl⟩, Mv.of [.old 0] rfl rfl rfl ⟨⟨rfl, .inl ⟨rfl, fun row h => by rw [List.mem_singleton.1 h]; rfl⟩⟩, trivial⟩ ⟨rfl, rfl, rfl, ⟨rfl, rfl, rfl⟩, rfl, rfl, rfl, trivial⟩⟩
    rintro _ _ ⟨hQ, rfl, rfl⟩
    rw [hQ, Bool.true_and] at hI
    refine E.seq (E.of Try.wf Try.tab_ok ?_)
    refine midT Try.wf Try.tab_ok (fun s' σ => s' = [(1, .d (.bool p)), (2, .d (.bool li)), (7, .d (.bool false)), (9, .ref 0 0 0), (10, .d (.bool (inLi li l[k].name))), (11, .d (.sl (nodesD l))), (12, .d (.int .i64 l.length)), (13, .d (.int .i64 k))] ∧ σ = ⟨1, [(0, nodeO l[k])]⟩) ?_ ?_
    · refine ⟨_, rfl, _, rfl, ?_⟩
      have go : ∀ b : Bool, inLi li l[k].name = b → vrelS (phi 0 [.old 0]) [(1, .d (.bool p)), (2, .d (.bool li)), (7, .d (.bool false)), (9, .ref 0 0 0), (10, .d (.bool b)), (11, .d (.sl (nodesD l))), (12, .d (.int .i64 l.length)), (13, .d (.int .i64 k))] [(1, .d (.bool p)), (2, .d (.bool li)), (7, .d (.bool false)), (9, .ref 0 0 0), (10, .d (.bool (inLi li l[k].name))), (11, .d (.sl (nodesD l))), (12, .d (.int .i64 l.length)), (13, .d (.int .i64 k))] := fun b h => by
        rw [h]; exact ⟨rfl, rfl, rfl, ⟨rfl, rfl, rfl⟩, rfl, rfl, rfl, rfl, trivial⟩
      by_cases h1 : l[k].name = [108, 105]
      · refine ⟨fun _ => ?_, fun h => absurd (of_decide_eq_false h) (fun h => h h1)⟩
        exact ⟨_, _, ⟨rfl, rfl⟩, Mv.of [.old 0] rfl rfl rfl ⟨⟨rfl, .inl ⟨rfl, fun row h => by rw [List.mem_singleton.1 h]; rfl⟩⟩, trivial⟩ (go true (by unfold inLi; rw [if_pos h1]))⟩
      · refine ⟨fun h => absurd (of_decide_eq_true h) h1, fun _ => ?_⟩
        by_cases h2 : l[k].name = [117, 108]
        · refine ⟨fun _ => ?_, fun h => absurd (of_decide_eq_false h) (fun h => h h2)⟩
          exact ⟨_, _, ⟨rfl, rfl⟩, Mv.of [.old 0] rfl rfl rfl ⟨⟨rfl, .inl ⟨rfl, fun row h => by rw [List.mem_singleton.1 h]; rfl⟩⟩, trivial⟩ (go false (by unfold inLi; rw [if_neg h1, if_pos (.inl h2)]))⟩
        · refine ⟨fun h => absurd (of_decide_eq_true h) h2, fun _ => ?_⟩
          by_cases h3 : l[k].name = [111, 108]
          · refine ⟨fun _ => ?_, fun h => absurd (of_decide_eq_false h) (fun h => h h3)⟩
            exact ⟨_, _, ⟨rfl, rfl⟩, Mv.of [.old 0] rfl rfl rfl ⟨⟨rfl, .inl ⟨rfl, fun row h => by rw [List.mem_singleton.1 h]; rfl⟩⟩, trivial⟩ (go false (by unfold inLi; rw [if_neg h1, if_pos (.inr h3)]))⟩
          · refine ⟨fun h => absurd (of_decide_eq_true h) h3, fun _ => ?_⟩
            exact ⟨_, _, ⟨rfl, rfl⟩, Mv.of [.old 0] rfl rfl rfl ⟨⟨rfl, .inl ⟨rfl, fun row h => by rw [List.mem_singleton.1 h]; rfl⟩⟩, trivial⟩ (go li (by unfold inLi; rw [if_neg h1, if_neg (fun h => h.elim h2 h3)]))⟩
    rintro _ _ ⟨rfl, rfl⟩
    refine E.of Try.wf Try.tab_ok ?_
    refine ⟨_, rfl, _, rfl, ?_⟩
    cases p with
    | true =>
      repeat (first | refine ⟨fun _ => ?_, fun h => absurd h (by decide)⟩ | refine ⟨fun h => absurd h (by decide), fun _ => ?_⟩)
      refine PureC.use c3 ?_
      rw [Bool.true_or] at hI
      rw [Bool.true_or]
      generalize stL false true (inLi li l[k].name) l[k].kids = b at *
      cases b with
      | false =>
        repeat (first | refine ⟨fun _ => ?_, fun h => absurd h (by decide)⟩ | refine ⟨fun h => absurd h (by decide), fun _ => ?_⟩)
        exact no _ hI.symm
      | true =>
        repeat (first | refine ⟨fun _ => ?_, fun h => absurd h (by decide)⟩ | refine ⟨fun h => absurd h (by decide), fun _ => ?_⟩)
        refine E.of Try.wf Try.tab_ok ?_
        repeat (first | refine ⟨fun _ => ?_, fun h => absurd (of_decide_eq_false h) (by omega)⟩ | refine ⟨fun h => absurd (of_decide_eq_true h) (by omega), fun _ => ?_⟩ | refine ⟨fun _ => ?_, fun h => absurd (of_decide_eq_true h) (by omega)⟩ | refine ⟨fun h => absurd (of_decide_eq_false h) (by omega), fun _ => ?_⟩ | refine .inl ⟨⟨by omega, by omega⟩, ?_⟩ | refine ⟨⟨by omega, by omega⟩, ?_⟩)
        exact ⟨_, _, _, ⟨k + 1, false, rfl, hlt, hI, rfl, rfl⟩, by omega, Mv.of [] rfl rfl rfl trivial ⟨rfl, rfl, rfl, rfl, rfl, rfl, trivial⟩⟩
    | false =>
      repeat (first | refine ⟨fun _ => ?_, fun h => absurd h (by decide)⟩ | refine ⟨fun h => absurd h (by decide), fun _ => ?_⟩)
      refine ⟨_, rfl, _, rfl, ?_⟩
      rw [Bool.false_or] at hI c3
      refine PureC.use c3 ?_
      generalize stL false (decide (l[k].name = [112])) (inLi li l[k].name) l[k].kids = b at *
      cases b with
      | false =>
        repeat (first | refine ⟨fun _ => ?_, fun h => absurd h (by decide)⟩ | refine ⟨fun h => absurd h (by decide), fun _ => ?_⟩)
        exact no _ hI.symm
      | true =>
        repeat (first | refine ⟨fun _ => ?_, fun h => absurd h (by decide)⟩ | refine ⟨fun h => absurd h (by decide), fun _ => ?_⟩)
        refine E.of Try.wf Try.tab_ok ?_
        repeat (first | refine ⟨fun _ => ?_, fun h => absurd (of_decide_eq_false h) (by omega)⟩ | refine ⟨fun h => absurd (of_decide_eq_true h) (by omega), fun _ => ?_⟩ | refine ⟨fun _ => ?_, fun h => absurd (of_decide_eq_true h) (by omega)⟩ | refine ⟨fun h => absurd (of_decide_eq_false h) (by omega), fun _ => ?_⟩ | refine .inl ⟨⟨by omega, by omega⟩, ?_⟩ | refine ⟨⟨by omega, by omega⟩, ?_⟩)
        exact ⟨_, _, _, ⟨k + 1, false, rfl, hlt, hI, rfl, rfl⟩, by omega, Mv.of [] rfl rfl rfl trivial ⟨rfl, rfl, rfl, rfl, rfl, rfl, trivial⟩⟩
  · refine E.of Try.wf Try.tab_ok ?_
    have hk' : k = l.length := by have := of_decide_eq_false h; omega
    subst hk'
    rw [List.drop_length] at hI
    exact ⟨_, _, fin_out rfl, congrArg (fun b => AV.d (.bool b)) (show true = stL false p li l from hI), rfl⟩
def stableB (l : List Node) : Bool := decide (szL l ≤ 2000) && decide (dpL l ≤ 64) && stL false false false l
set_option maxRecDepth 100000 in
theorem Stable_ok (l : List Node) (hl : szL l ≤ 1000000000) (hS : ShL l) : PureC Try.prog 15 [.d (.sl (nodesD l))] (.d (.bool (stableB l))) := by
  refine pure_okT Try.wf Try.tab_ok Try.func15 (by decide +kernel) rfl rfl rfl rfl ?_
  have c1 := Size_ok (szL l) l (Nat.le_refl _) hl
  have c2 := stable_ok (szL l) l false false (Nat.le_refl _) hl hS
  unfold sizeV at c1
  unfold stableB
  generalize szL l = a at *
  generalize dpL l = b at *
  generalize stL false false false l = c at *
  refine PureC.use c1 ?_
  by_cases h1 : a ≤ 2000
  · rw [decide_eq_true h1]
    by_cases h2 : b ≤ 64
    · rw [decide_eq_true h2]
      repeat (first | refine ⟨fun _ => ?_, fun h => absurd (of_decide_eq_false h) (by omega)⟩ | refine ⟨fun h => absurd (of_decide_eq_true h) (by omega), fun _ => ?_⟩ | refine ⟨fun _ => ?_, fun h => absurd (of_decide_eq_true h) (by omega)⟩ | refine ⟨fun h => absurd (of_decide_eq_false h) (by omega), fun _ => ?_⟩ | refine .inl ⟨⟨by omega, by omega⟩, ?_⟩ | refine ⟨⟨by omega, by omega⟩, ?_⟩)
      exact PureC.use c2 ⟨_, _, fin_out rfl, rfl⟩
    · rw [decide_eq_false h2]
      repeat (first | refine ⟨fun _ => ?_, fun h => absurd (of_decide_eq_false h) (by omega)⟩ | refine ⟨fun h => absurd (of_decide_eq_true h) (by omega), fun _ => ?_⟩ | refine ⟨fun _ => ?_, fun h => absurd (of_decide_eq_true h) (by omega)⟩ | refine ⟨fun h => absurd (of_decide_eq_false h) (by omega), fun _ => ?_⟩ | refine .inl ⟨⟨by omega, by omega⟩, ?_⟩ | refine ⟨⟨by omega, by omega⟩, ?_⟩)
      exact ⟨_, _, fin_out rfl, rfl⟩
  · rw [decide_eq_false h1]
    repeat (first | refine ⟨fun _ => ?_, fun h => absurd (of_decide_eq_false h) (by omega)⟩ | refine ⟨fun h => absurd (of_decide_eq_true h) (by omega), fun _ => ?_⟩ | refine ⟨fun _ => ?_, fun h => absurd (of_decide_eq_true h) (by omega)⟩ | refine ⟨fun h => absurd (of_decide_eq_false h) (by omega), fun _ => ?_⟩ | refine .inl ⟨⟨by omega, by omega⟩, ?_⟩ | refine ⟨⟨by omega, by omega⟩, ?_⟩)
    exact ⟨_, _, fin_out rfl, rfl⟩
end Go.Proofs.Ytcmkiancbgmmhaa

namespace Go.Proofs.Ytcmkiancbgmmhaa
open Go.Aw
set_option maxHeartbeats 1600000
set_option linter.unusedSimpArgs false
set_option linter.unusedVariables false
theorem u8n (m : Nat) (h : m ≤ 255) : (((UInt8.ofNat m).toNat : Nat) : Int) = m := by simp; omega
theorem row1 (m : Nat) (h : m ≤ 255) : ([[.d (.int .u8 (m : Int))]] : List (List AV)) = bytesA [UInt8.ofNat m] := by
  unfold bytesA; simp only [List.map_cons, List.map_nil, u8n m h]
end Go.Proofs.Ytcmkiancbgmmhaa
