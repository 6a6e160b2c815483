import Derived.Test.YtcmkiancbgmmhaaTab
namespace Go.Proofs.Ytcmkiancbgmmhaa
open Go.Aw
set_option maxHeartbeats 1600000
set_option linter.unusedSimpArgs false
set_option linter.unusedVariables false

def lowB (c : UInt8) : UInt8 := if 65 ≤ c.toNat ∧ c.toNat ≤ 90 then c + 32 else c
def lower (s : List UInt8) : List UInt8 := s.map lowB

theorem lower_step (s : List UInt8) (k : Nat) (h : k < s.length) : lower (s.take (k + 1)) ++ s.drop (k + 1) = (lower (s.take k) ++ s.drop k).set k (lowB s[k]) := by
  have hl : (lower (s.take k)).length = k := by simp [lower]; omega
  rw [List.set_append_right _ _ (by omega), hl, Nat.sub_self]
  simp only [lower]
  rw [List.take_succ_eq_append_getElem h]
  have : (s.drop k).set 0 (lowB s[k]) = lowB s[k] :: s.drop (k + 1) := by rw [List.drop_eq_getElem_cons h]; rfl
  rw [this, List.map_append, List.append_assoc]; rfl
theorem bytesA_get (s : List UInt8) (i : Nat) (h : i < s.length) : (bytesA s)[i]? = some [.d (.int .u8 s[i].toNat)] := by simp [bytesA, h]
theorem bytesA_set (s : List UInt8) (i : Nat) (b : UInt8) : (bytesA s).set i [.d (.int .u8 b.toNat)] = bytesA (s.set i b) := by
  unfold bytesA
  exact (List.map_set (f := fun b : UInt8 => [AV.d (.int .u8 b.toNat)])).symm
theorem lowB_lo (c : UInt8) (h : ¬ (65 ≤ c.toNat ∧ c.toNat ≤ 90)) : lowB c = c := if_neg h
theorem lowB_hi (c : UInt8) (h : 65 ≤ c.toNat ∧ c.toNat ≤ 90) : ((lowB c).toNat : Int) = c.toNat + 97 - 65 := by
  unfold lowB
  rw [if_pos h, UInt8.toNat_add]
  have : (32 : UInt8).toNat = 32 := rfl
  rw [this, Nat.mod_eq_of_lt (by omega)]
  omega

theorem upd (s : List UInt8) (k : Nat) (hlt : k < s.length) (v : Int) (hv : v = ((lowB s[k]).toNat : Int)) :
    (bytesA (lower (s.take k) ++ s.drop k)).set k [.d (.int .u8 v)] = bytesA (lower (s.take (k + 1)) ++ s.drop (k + 1)) := by
  subst hv
  rw [bytesA_set, lower_step s k hlt]
theorem same (s : List UInt8) (k : Nat) (hlt : k < s.length) (hn : ¬ (65 ≤ s[k].toNat ∧ s[k].toNat ≤ 90)) : bytesA (lower (s.take (k + 1)) ++ s.drop (k + 1)) = bytesA (lower (s.take k) ++ s.drop k) := by
  have hl : (lower (s.take k)).length = k := by simp [lower]; omega
  rw [lower_step s k hlt, lowB_lo _ hn, List.set_append_right _ _ (by omega), hl, Nat.sub_self, List.drop_eq_getElem_cons hlt]; rfl
theorem at_k (s : List UInt8) (k : Nat) (hlt : k < s.length) : (bytesA (lower (s.take k) ++ s.drop k))[k]? = some [.d (.int .u8 s[k].toNat)] := by
  have hl : (lower (s.take k)).length = k := by simp [lower]; omega
  rw [bytesA_get _ _ (by simp [hl]; omega)]; simp [List.getElem_append_right, hl]
theorem at_end (s : List UInt8) : (((bytesA (lower (s.take s.length) ++ s.drop s.length)).drop 0).take s.length) = bytesA (lower s) := by
  simp only [List.take_length, List.drop_length, List.append_nil, List.drop_zero]
  exact List.take_of_length_le (by simp [bytesA, lower])

set_option maxRecDepth 10000 in
theorem Lower_ok (s : List UInt8) (hs : s.length ≤ 9223372036854775807) : PureC Try.prog 68 [.d (.str s)] (.d (.str (lower s))) := by
  refine pure_okT Try.wf Try.tab_ok Try.func68 (by decide +kernel) rfl rfl rfl rfl ?_
  refine ⟨hs, ?_⟩
  refine loopT Try.wf Try.tab_ok (fun n s' σ => ∃ k : Nat, k ≤ s.length ∧ n = s.length - k ∧ s' = [(3, .own 0 0 s.length), (8, .own 0 0 s.length), (9, .d (.int .i64 s.length)), (10, .d (.int .i64 k))] ∧ σ = ⟨1, [(0, .rows (1, 5) (bytesA (lower (s.take k) ++ s.drop k)))]⟩)
    ⟨0, Nat.zero_le _, rfl, rfl, rfl⟩ (Mv.of [.old 0] rfl rfl rfl ⟨⟨rfl, .inl ⟨rfl, bytesA_pure _⟩⟩, trivial⟩ ⟨⟨rfl, rfl, rfl⟩, ⟨rfl, rfl, rfl⟩, rfl, rfl, trivial⟩) ?_
  rintro n _ _ ⟨k, hk, rfl, rfl, rfl⟩
  refine ⟨fun h => ?_, fun h => ?_⟩
  · have hlt : k < s.length := by have := of_decide_eq_true h; omega
    have hu := s[k].toNat_lt
    have stay : ¬ (65 ≤ s[k].toNat ∧ s[k].toNat ≤ 90) → (Ob.rows (1, 5) (bytesA (lower (s.take (k + 1)) ++ s.drop (k + 1)))) = Ob.rows (1, 5) (bytesA (lower (s.take k) ++ s.drop k)) := fun hn => by rw [same s k hlt hn]
    refine ⟨⟨by omega, by omega⟩, _, at_k s k hlt, _, rfl, ?_⟩
    refine ⟨fun h1 => ?_, fun h1 => ?_⟩
    · have h1' := of_decide_eq_true h1
      refine ⟨fun h2 => ?_, fun h2 => ?_⟩
      · have h2' := of_decide_eq_true h2
        refine .inl ⟨⟨by omega, by omega⟩, .inl ⟨⟨by omega, by omega⟩, ⟨by omega, by omega⟩, _, at_k s k hlt, rfl, Nat.le_refl _, .inl ⟨⟨by omega, by omega⟩, ?_⟩⟩⟩
        exact ⟨_, _, _, ⟨k + 1, hlt, rfl, rfl, rfl⟩, by omega, Mv.of [.old 0] rfl rfl rfl ⟨⟨rfl, .inl ⟨(upd s k hlt _ (lowB_hi _ ⟨by omega, by omega⟩).symm).symm, bytesA_pure _⟩⟩, trivial⟩ ⟨⟨rfl, rfl, rfl⟩, ⟨rfl, rfl, rfl⟩, rfl, rfl, trivial⟩⟩
      · have h2' := of_decide_eq_false h2
        refine .inl ⟨⟨by omega, by omega⟩, ?_⟩
        exact ⟨_, _, _, ⟨k + 1, hlt, rfl, rfl, rfl⟩, by omega, Mv.of [.old 0] rfl rfl rfl ⟨⟨rfl, .inl ⟨same s k hlt (by omega), bytesA_pure _⟩⟩, trivial⟩ ⟨⟨rfl, rfl, rfl⟩, ⟨rfl, rfl, rfl⟩, rfl, rfl, trivial⟩⟩
    · have h1' := of_decide_eq_false h1
      refine .inl ⟨⟨by omega, by omega⟩, ?_⟩
      exact ⟨_, _, _, ⟨k + 1, hlt, rfl, rfl, rfl⟩, by omega, Mv.of [.old 0] rfl rfl rfl ⟨⟨rfl, .inl ⟨same s k hlt (by omega), bytesA_pure _⟩⟩, trivial⟩ ⟨⟨rfl, rfl, rfl⟩, ⟨rfl, rfl, rfl⟩, rfl, rfl, trivial⟩⟩
  · have hk' : k = s.length := by have := of_decide_eq_false h; omega
    subst hk'
    exact ⟨_, at_end s, by simp [lower], _, _, FinMove.refl _ _ _, rfl⟩

end Go.Proofs.Ytcmkiancbgmmhaa
