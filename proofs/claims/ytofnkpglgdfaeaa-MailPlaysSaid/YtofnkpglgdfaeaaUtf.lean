import Derived.Test.YtofnkpglgdfaeaaTab
namespace Go.Proofs.Ytofnkpglgdfaeaa
open Go.Aw
set_option maxHeartbeats 1600000
set_option linter.unusedSimpArgs false
set_option linter.unusedVariables false

def lowB (c : UInt8) : UInt8 := if 65 ≤ c.toNat ∧ c.toNat ≤ 90 then c + 32 else c
def lower (s : List UInt8) : List UInt8 := s.map lowB

theorem lower_step (s : List UInt8) (k : Nat) (h : k < s.length) : lower (s.take (k + 1)) ++ s.drop (k + 1) = (lower (s.take k) ++ s.drop k).set k (lowB s[k]) := by
  have hl : (lower (s.take k)).length = k := by simp [lower]; omega
  rw [List.set_append_right _ _ (by omega), hl, Nat.sub_self]
  simp only [lower]
  rw [List.take_succ_eq_append_getElem h]
  have : (s.drop k).set 0 (lowB s[k]) = lowB s[k] :: s.drop (k + 1) := by rw [List.drop_eq_getElem_cons h]; rfl
  rw [this, List.map_append, List.append_assoc]; rfl
theorem bytesA_get (s : List UInt8) (i : Nat) (h : i < s.length) : (bytesA s)[i]? = some [.d (.int .u8 s[i].toNat)] := by simp [bytesA, h]
theorem bytesA_set (s : List UInt8) (i : Nat) (b : UInt8) : (bytesA s).set i [.d (.int .u8 b.toNat)] = bytesA (s.set i b) := by
  unfold bytesA
  exact (List.map_set (f := fun b : UInt8 => [AV.d (.int .u8 b.toNat)])).symm
theorem lowB_lo (c : UInt8) (h : ¬ (65 ≤ c.toNat ∧ c.toNat ≤ 90)) : lowB c = c := if_neg h
theorem lowB_hi (c : UInt8) (h : 65 ≤ c.toNat ∧ c.toNat ≤ 90) : ((lowB c).toNat : Int) = c.toNat + 97 - 65 := by
  unfold lowB
  rw [if_pos h, UInt8.toNat_add]
  have : (32 : UInt8).toNat = 32 := rfl
  rw [this, Nat.mod_eq_of_lt (by omega)]
  omega

theorem upd (s : List UInt8) (k : Nat) (hlt : k < s.length) (v : Int) (hv : v = ((lowB s[k]).toNat : Int)) :
    (bytesA (lower (s.take k) ++ s.drop k)).set k [.d (.int .u8 v)] = bytesA (lower (s.take (k + 1)) ++ s.drop (k + 1)) := by
  subst hv
  rw [bytesA_set, lower_step s k hlt]
theorem same (s : List UInt8) (k : Nat) (hlt : k < s.length) (hn : ¬ (65 ≤ s[k].toNat ∧ s[k].toNat ≤ 90)) : bytesA (lower (s.take (k + 1)) ++ s.drop (k + 1)) = bytesA (lower (s.take k) ++ s.drop k) := by
  have hl : (lower (s.take k)).length = k := by simp [lower]; omega
  rw [lower_step s k hlt, lowB_lo _ hn, List.set_append_right _ _ (by omega), hl, Nat.sub_self, List.drop_eq_getElem_cons hlt]; rfl
theorem at_k (s : List UInt8) (k : Nat) (hlt : k < s.length) : (bytesA (lower (s.take k) ++ s.drop k))[k]? = some [.d (.int .u8 s[k].toNat)] := by
  have hl : (lower (s.take k)).length = k := by simp [lower]; omega
  rw [bytesA_get _ _ (by simp [hl]; omega)]; simp [List.getElem_append_right, hl]
theorem at_end (s : List UInt8) : (((bytesA (lower (s.take s.length) ++ s.drop s.length)).drop 0).take s.length) = bytesA (lower s) := by
  simp only [List.take_length, List.drop_length, List.append_nil, List.drop_zero]
  exact List.take_of_length_le (by simp [bytesA, lower])

end Go.Proofs.Ytofnkpglgdfaeaa
