import Derived.Test.YtdaheonodpkfgaaSerB
namespace Go.Proofs.Ytdaheonodpkfgaa
open Go.Aw
set_option maxHeartbeats 1600000
set_option linter.unusedSimpArgs false
set_option linter.unusedVariables false

/-- A node as a value. -/
def nodeA (n : Node) : AV := .agg [.d (.str n.name), .d (.sl (attrsD n.attrs)), .d (.str n.text), .d (.sl (nodesD n.kids))]

theorem mlook_mput (x k : List UInt8) (v : AV) : ∀ es, strKeys es → mlook x (mput k v es) = if x = k then some v else mlook x es := by
  intro es
  induction es with
  | nil => intro _; simp [mput, mlook]
  | cons e r ih =>
    intro hk
    obtain ⟨s, hs⟩ := hk e (by simp)
    obtain ⟨a, u⟩ := e
    simp only at hs
    subst hs
    have ih' := ih (fun y hy => hk y (by simp [hy]))
    simp only [mput]
    by_cases h1 : k = s
    · subst h1
      rw [if_pos rfl]
      simp only [mlook]
      by_cases h2 : x = k <;> simp [h2]
    · rw [if_neg h1]
      simp only [mlook]
      by_cases h2 : x = s
      · subst h2; rw [if_pos rfl, if_pos rfl, if_neg (fun e => h1 e.symm)]
      · rw [if_neg h2, if_neg h2, ih']
theorem strKeys_mput (k : List UInt8) (v : AV) : ∀ es, strKeys es → strKeys (mput k v es) := by
  intro es
  induction es with
  | nil => intro _ e he; simp [mput] at he; subst he; exact ⟨k, rfl⟩
  | cons e r ih =>
    intro hk
    obtain ⟨s, hs⟩ := hk e (by simp)
    obtain ⟨a, u⟩ := e
    simp only at hs
    subst hs
    have ih' := ih (fun y hy => hk y (by simp [hy]))
    simp only [mput]
    by_cases h1 : k = s
    · rw [if_pos h1]
      intro y hy
      rcases List.mem_cons.1 hy with rfl | hy
      · exact ⟨k, rfl⟩
      · exact hk y (by simp [hy])
    · rw [if_neg h1]
      intro y hy
      rcases List.mem_cons.1 hy with rfl | hy
      · exact ⟨s, rfl⟩
      · exact ih' y hy

theorem pure_mput (k : List UInt8) (v : AV) (hv : v.pure = true) : ∀ es : List (AV × AV), (∀ e ∈ es, e.1.pure = true ∧ e.2.pure = true) → ∀ e ∈ mput k v es, e.1.pure = true ∧ e.2.pure = true := by
  intro es
  induction es with
  | nil => intro _ e he; simp [mput] at he; subst he; exact ⟨rfl, hv⟩
  | cons e r ih =>
    intro hk
    have ih' := ih (fun y hy => hk y (by simp [hy]))
    have h0 := hk e (by simp)
    have h1 : ∀ y ∈ r, y.1.pure = true ∧ y.2.pure = true := fun y hy => hk y (by simp [hy])
    have other : ∀ y ∈ e :: mput k v r, y.1.pure = true ∧ y.2.pure = true := fun y hy => by
      rcases List.mem_cons.1 hy with rfl | hy
      · exact h0
      · exact ih' y hy
    unfold mput
    split
    · rename_i heq; simp at heq
    · rename_i s u r' heq
      obtain ⟨rfl, rfl⟩ := List.cons.inj heq
      split
      · intro y hy
        rcases List.mem_cons.1 hy with rfl | hy
        · exact ⟨rfl, hv⟩
        · exact h1 y hy
      · exact other
    · rename_i x r' hne heq
      obtain ⟨rfl, rfl⟩ := List.cons.inj heq
      exact other

end Go.Proofs.Ytdaheonodpkfgaa
