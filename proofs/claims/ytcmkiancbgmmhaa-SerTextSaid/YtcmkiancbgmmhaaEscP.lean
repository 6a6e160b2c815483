import Derived.Test.YtcmkiancbgmmhaaRefsP
import Derived.Test.YtcmkiancbgmmhaaAwH
namespace Go.Proofs.Ytcmkiancbgmmhaa
open Go.Aw
set_option maxHeartbeats 1600000
set_option linter.unusedSimpArgs false
set_option linter.unusedVariables false

theorem esc1_clean (q : Bool) (c : UInt8) : ∀ d ∈ esc1 q c, d ≠ 60 ∧ d ≠ 62 ∧ (q = true → d ≠ 34) := by
  unfold esc1
  split
  · intro d hd; revert d; cases q <;> decide
  · split
    · intro d hd; revert d; cases q <;> decide
    · split
      · intro d hd; revert d; cases q <;> decide
      · split
        · intro d hd; revert d; cases q <;> decide
        · rename_i h1 h2 h3 h4
          intro d hd
          simp at hd
          subst hd
          exact ⟨h2, h3, fun hq e => h4 ⟨e, hq⟩⟩
theorem escape_clean (q : Bool) : ∀ (n : Nat) (s : List UInt8), s.length ≤ n → ∀ d ∈ escape q s, d ≠ 60 ∧ d ≠ 62 ∧ (q = true → d ≠ 34)
  | _, [], _ => by simp [escape]
  | 0, _ :: _, h => by simp at h
  | n + 1, c :: r, h => by
    simp at h
    by_cases hc : c = 194 ∧ ∃ t, r = 160 :: t
    · obtain ⟨rfl, t, rfl⟩ := hc
      rw [escape_nb]
      intro d hd
      rcases List.mem_append.1 hd with hd2 | hd
      · clear hd; revert d; cases q <;> decide
      · exact escape_clean q n t (by simp at h; omega) d hd
    · rw [escape_cons _ c r hc]
      intro d hd
      rcases List.mem_append.1 hd with hd | hd
      · exact esc1_clean q c d hd
      · exact escape_clean q n r h d hd
theorem resolve_ref (x t : List UInt8) (u : List UInt8) (h : (59 : UInt8) ∉ x) (hl : x.length ≤ 10) (hs : stands x = some u) : resolve (38 :: (x ++ 59 :: t)) = u ++ resolve t := by
  rw [resolve_amp, oneR_some x t h hl, hs]; rfl
theorem resolve_escape (q : Bool) : ∀ (n : Nat) (s : List UInt8), s.length ≤ n → resolve (escape q s) = s
  | _, [], _ => rfl
  | 0, _ :: _, h => by simp at h
  | n + 1, c :: r, h => by
    simp at h
    by_cases hc : c = 194 ∧ ∃ t, r = 160 :: t
    · obtain ⟨rfl, t, rfl⟩ := hc
      have ih := resolve_escape q n t (by simp at h; omega)
      rw [escape_nb]
      have := resolve_ref [110, 98, 115, 112] (escape q t) [194, 160] (by decide) (by decide) (by decide +kernel)
      exact this.trans (by rw [ih]; rfl)
    · rw [escape_cons _ c r hc]
      have ih := resolve_escape q n r h
      unfold esc1
      split
      · rename_i h1; subst h1
        exact (resolve_ref [97, 109, 112] (escape q r) [38] (by decide) (by decide) (by decide +kernel)).trans (by rw [ih]; rfl)
      · split
        · rename_i h1; subst h1
          exact (resolve_ref [108, 116] (escape q r) [60] (by decide) (by decide) (by decide +kernel)).trans (by rw [ih]; rfl)
        · split
          · rename_i h1; subst h1
            exact (resolve_ref [103, 116] (escape q r) [62] (by decide) (by decide) (by decide +kernel)).trans (by rw [ih]; rfl)
          · split
            · rename_i h1; obtain ⟨rfl, _⟩ := h1
              exact (resolve_ref [113, 117, 111, 116] (escape q r) [34] (by decide) (by decide) (by decide +kernel)).trans (by rw [ih]; rfl)
            · rename_i h38 _ _ _
              show resolve (c :: escape q r) = _
              rw [resolve_other c _ h38, ih]

end Go.Proofs.Ytcmkiancbgmmhaa
