import Derived.Shelf.Strings.Search3
import Derived.Test.YtcmkiancbgmmhaaTokP
namespace Go.Proofs.Ytcmkiancbgmmhaa
open Go.Aw
set_option maxHeartbeats 1600000
set_option linter.unusedSimpArgs false
set_option linter.unusedVariables false

def ren : Go.Shelf.Ren := ⟨fun | 143 => 67 | 217 => 84 | 219 => 83 | 224 => 91 | 225 => 90 | 266 => 93 | 267 => 92 | 314 => 96 | n => n, fun | 3 => 3 | 4 => 4 | 5 => 5 | 9 => 9 | 46 => 111 | 51 => 117 | 146 => 118 | n => n, fun | 1 => 0 | n => n⟩
theorem lays143 : Go.Proofs.Lays.n143 Try.prog ren where
  mixed := by kernel_rfl
  f143 := Try.func67.trans (congrArg some (by kernel_rfl))
  f217 := Try.func84.trans (congrArg some (by kernel_rfl))
  f219 := Try.func83.trans (congrArg some (by kernel_rfl))
  f224 := Try.func91.trans (congrArg some (by kernel_rfl))
  f225 := Try.func90.trans (congrArg some (by kernel_rfl))
  f266 := Try.func93.trans (congrArg some (by kernel_rfl))
  f267 := Try.func92.trans (congrArg some (by kernel_rfl))
  f314 := Try.func96.trans (congrArg some (by kernel_rfl))
  t3 := Try.underlying3
  a3 := Try.isAgg3
  z3 := Try.sizeOf3
  v3 := Try.zeroValue3
  t4 := Try.underlying4
  a4 := Try.isAgg4
  z4 := Try.sizeOf4
  v4 := Try.zeroValue4
  t5 := Try.underlying5
  a5 := Try.isAgg5
  z5 := Try.sizeOf5
  v5 := Try.zeroValue5
  t9 := Try.underlying9
  a9 := Try.isAgg9
  z9 := Try.sizeOf9
  v9 := Try.zeroValue9
  t46 := Try.underlying111
  a46 := Try.isAgg111
  z46 := Try.sizeOf111
  v46 := Try.zeroValue111
  t51 := Try.underlying117
  a51 := Try.isAgg117
  z51 := Try.sizeOf117
  v51 := Try.zeroValue117
  t146 := Try.underlying118
  a146 := Try.isAgg118
  z146 := Try.sizeOf118
  v146 := Try.zeroValue118
  g1 := by kernel_rfl

theorem gl_len : Gl Try.prog 0 := by unfold Gl; kernel_rfl

/-- Where a text stands first. -/
def idxT (s t : List UInt8) : Int := if runN (fun x => !hasPre x t) s = s.length then -1 else runN (fun x => !hasPre x t) s
theorem pre_eq (s t : List UInt8) : t.isPrefixOf s = hasPre s t := by
  rw [Bool.eq_iff_iff, List.isPrefixOf_iff_prefix, List.prefix_iff_eq_take]
  simp only [hasPre, Bool.and_eq_true, decide_eq_true_eq]
  constructor
  · intro h
    refine ⟨?_, h.symm⟩
    have := congrArg List.length h
    rw [List.length_take] at this
    omega
  · exact fun h => h.2.symm
theorem idxT_eq (s t : List UInt8) (ht : t ≠ []) : Go.Lib.index s t = idxT s t := by
  have hle := runN_le (fun x => !hasPre x t) s
  unfold idxT
  split
  · rename_i h
    refine Go.Lib.index_none fun j hj => ?_
    unfold Go.Lib.occAt
    rw [pre_eq]
    rcases Nat.lt_or_ge j s.length with h1 | h1
    · have := runN_in (fun x => !hasPre x t) s j (by omega)
      simpa using this
    · have : s.drop j = [] := List.drop_eq_nil_iff.2 h1
      rw [this]
      cases t with
      | nil => exact absurd rfl ht
      | cons a r => simp [hasPre]
  · rename_i h
    refine Go.Lib.index_first hle ?_ fun j hj => ?_
    · unfold Go.Lib.occAt
      rw [pre_eq]
      have := runN_stop (fun x => !hasPre x t) s (by omega)
      simpa using this
    · unfold Go.Lib.occAt
      rw [pre_eq]
      have := runN_in (fun x => !hasPre x t) s j hj
      simpa using this

theorem Index_any (s t : List UInt8) (hs : s.length < 4294967281) (ht : t ≠ []) : PureC Try.prog 67 [.d (.str s), .d (.str t)] (.d (.int .i64 (idxT s t))) := fun σ => by
  refine .inl ⟨⟨_, Try.func67, by decide +kernel, rfl⟩, fun g w vs R hL => ?_⟩
  obtain ⟨v, r, rfl, h1, h2⟩ := hL.uncons
  obtain ⟨u, r, rfl, h3, h4⟩ := h2.uncons
  rw [h4.unnil]
  obtain ⟨_, m, hm⟩ := R.glob _ gl_len
  cases h1 with
  | d h1 =>
  cases h1
  cases h3 with
  | d h3 =>
  cases h3
  refine (Go.Proofs.Any.strings_Index lays143 ⟨s.toArray⟩ ⟨t.toArray⟩ m w hs hm).mono fun e w' ⟨he, hw⟩ => ?_
  subst he; subst hw
  refine ⟨_, g, σ, .d (.int .i64 (idxT s t)), rfl, Ext.refl _ _ _, R, ?_, rfl, rfl⟩
  rw [show (ByteArray.mk s.toArray).data.toList = s from rfl, show (ByteArray.mk t.toArray).data.toList = t from rfl, idxT_eq s t ht]
  exact .d (.int _ _)

end Go.Proofs.Ytcmkiancbgmmhaa
