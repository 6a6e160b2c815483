import Derived.Test.YtdclbemjbcmhdaaPolI
namespace Go.Proofs.Ytdclbemjbcmhdaa
open Go.Aw
set_option maxHeartbeats 1600000
set_option linter.unusedSimpArgs false
set_option linter.unusedVariables false

theorem next_zero {n : Nat} {last p : Pol} (h : nextE n last p = 0) : rightB p = true ∧ p.ep = n + 1 ∧ (n = 0 ∨ stricterB p last = true) := by
  unfold nextE at h
  split at h
  · rename_i h1
    split at h
    · rename_i h2
      split at h
      · rename_i h3; exact ⟨h1, h2, h3⟩
      · cases h
    · cases h
  · cases h
theorem next_of {n : Nat} {last p : Pol} (h1 : rightB p = true) (h2 : p.ep = n + 1) (h3 : n = 0 ∨ stricterB p last = true) : nextE n last p = 0 := by
  unfold nextE; rw [if_pos h1, if_pos h2, if_pos h3]
theorem chain_cons (n : Nat) (last p : Pol) (r : List Pol) : chainFrom n last (p :: r) = if nextE n last p = 0 then chainFrom (n + 1) p r else (nextE n last p, (n : Int)) := rfl
/-- What a chain's answer is. -/
theorem chain_cases : ∀ (l : List Pol) (n : Nat) (last : Pol), ((chainFrom n last l).1 = 0 ∧ (chainFrom n last l).2 = -1) ∨ ((chainFrom n last l).1 ≠ 0 ∧ (n : Int) ≤ (chainFrom n last l).2 ∧ (chainFrom n last l).2 < n + l.length)
  | [], n, last => .inl ⟨rfl, rfl⟩
  | p :: r, n, last => by
    rw [chain_cons]
    split
    · have := chain_cases r (n + 1) p
      simp only [List.length_cons]
      rcases this with h | ⟨h1, h2, h3⟩
      · exact .inl h
      · refine .inr ⟨h1, by omega, by omega⟩
    · rename_i h
      refine .inr ⟨h, by simp, by simp; omega⟩
/-- The beginning of a list is a chain just as far as nothing is wrong. -/
theorem chain_take : ∀ (l : List Pol) (n m : Nat) (last : Pol), (chainFrom n last l).1 ≠ 0 → m ≤ l.length → ((chainFrom n last (l.take m)).1 = 0 ↔ (n : Int) + m ≤ (chainFrom n last l).2)
  | [], n, m, last, h, hm => absurd rfl h
  | p :: r, n, 0, last, h, hm => by
    have := chain_cases (p :: r) n last
    rcases this with h' | ⟨h1, h2, h3⟩
    · exact absurd h'.1 h
    · simp only [List.take_zero]
      constructor
      · intro _; simpa using h2
      · intro _; rfl
  | p :: r, n, m + 1, last, h, hm => by
    rw [List.take_succ_cons, chain_cons]
    rw [chain_cons] at h
    rw [chain_cons]
    split
    · rename_i h0
      rw [if_pos h0] at h
      rw [chain_take r (n + 1) m p h (by simpa using hm)]
      constructor <;> intro h' <;> omega
    · rename_i h0
      rw [if_neg h0] at h
      constructor
      · intro h'; exact absurd h' h0
      · intro h'; simp at h'; omega
theorem chain_take_ok : ∀ (l : List Pol) (n m : Nat) (last : Pol), (chainFrom n last l).1 = 0 → (chainFrom n last (l.take m)).1 = 0
  | [], n, m, last, h => by simpa using h
  | p :: r, n, 0, last, h => rfl
  | p :: r, n, m + 1, last, h => by
    rw [List.take_succ_cons, chain_cons]
    rw [chain_cons] at h
    split
    · rename_i h0
      rw [if_pos h0] at h
      exact chain_take_ok r (n + 1) m p h
    · rename_i h0
      rw [if_neg h0] at h
      exact absurd h h0
/-- In a chain each policy is right, of its epoch, and stricter than the one ahead. -/
theorem chain_at : ∀ (l : List Pol) (n : Nat) (last : Pol), (chainFrom n last l).1 = 0 → ∀ (i : Nat) (h : i < l.length), l[i].ep = n + i + 1 ∧ rightB l[i] = true ∧ (∀ (hi : 0 < i), stricterB l[i] (l[i - 1]'(by omega)) = true) ∧ (i = 0 → n = 0 ∨ stricterB l[i] last = true)
  | [], n, last, h, i, hi => absurd hi (by simp)
  | p :: r, n, last, h, i, hi => by
    rw [chain_cons] at h
    by_cases h0 : nextE n last p = 0
    · rw [if_pos h0] at h
      obtain ⟨q1, q2, q3⟩ := next_zero h0
      cases i with
      | zero => exact ⟨by simpa using q2, q1, fun hi => absurd hi (by omega), fun _ => q3⟩
      | succ j =>
        obtain ⟨w1, w2, w3, w4⟩ := chain_at r (n + 1) p h j (by simpa using hi)
        refine ⟨by rw [List.getElem_cons_succ, w1]; omega, by rw [List.getElem_cons_succ]; exact w2, fun _ => ?_, fun h => absurd h (by omega)⟩
        cases j with
        | zero =>
          rcases w4 rfl with h' | h'
          · omega
          · exact h'
        | succ k => exact w3 (by omega)
    · rw [if_neg h0] at h
      exact absurd h h0

theorem any_any (s : List UInt8) : anyOf (anyOf s) = anyOf s := by
  unfold anyOf
  cases h : cutDot s with
  | none => rfl
  | some x => simp [cutDot]
theorem attrs_mem {a b : List (List UInt8)} : attrsIn a b = true ↔ ∀ s ∈ a, s ∈ b ∨ anyOf s ∈ b := by
  unfold attrsIn; rw [List.all_eq_true]; simp
theorem allIn_mem {a b : List (List UInt8)} : allIn a b = true ↔ ∀ s ∈ a, s ∈ b := by
  unfold allIn; rw [List.all_eq_true]; simp
theorem stricter_iff {p q : Pol} : stricterB p q = true ↔ (∀ s ∈ p.at', s ∈ q.at' ∨ anyOf s ∈ q.at') ∧ (p.dp ≤ q.dp ∧ p.nd ≤ q.nd ∧ p.by' ≤ q.by') ∧ (∀ s ∈ p.el, s ∈ q.el) ∧ (∀ s ∈ p.sc, s ∈ q.sc) ∧ (∀ s ∈ p.cl, s ∈ q.cl) ∧ (∀ s ∈ p.pr, s ∈ q.pr) := by
  unfold stricterB
  simp only [Bool.and_eq_true, attrs_mem, allIn_mem, decide_eq_true_eq]
theorem stricter_trans {p q r : Pol} (h : stricterB p q = true) (k : stricterB q r = true) : stricterB p r = true := by
  rw [stricter_iff] at h k ⊢
  obtain ⟨h1, h2, h3, h4, h5, h6⟩ := h
  obtain ⟨k1, k2, k3, k4, k5, k6⟩ := k
  refine ⟨fun s hs => ?_, by omega, fun s hs => k3 s (h3 s hs), fun s hs => k4 s (h4 s hs), fun s hs => k5 s (h5 s hs), fun s hs => k6 s (h6 s hs)⟩
  rcases h1 s hs with h | h
  · exact k1 s h
  · rcases k1 _ h with h' | h'
    · exact .inr h'
    · rw [any_any] at h'; exact .inr h'
theorem chain_strict {l : List Pol} (h : (chainB l).1 = 0) (k : Nat) : ∀ (i : Nat) (hi : i < l.length) (hk : k < i), stricterB l[i] (l[k]'(by omega)) = true
  | 0, hi, hk => absurd hk (by omega)
  | i + 1, hi, hk => by
    have h1 := (chain_at l 0 zeroPol h (i + 1) hi).2.2.1 (by omega)
    by_cases e : k = i
    · subst e; exact h1
    · exact stricter_trans h1 (chain_strict h k i (by omega) (by omega))
theorem atP_find : ∀ (l : List Pol) (n : Nat), (∀ (i : Nat) (h : i < l.length), l[i].ep = n + i + 1) → ∀ (i : Nat) (h : i < l.length), atP (n + i + 1) l = some l[i]
  | [], n, hl, i, h => absurd h (by simp)
  | p :: r, n, hl, i, h => by
    have h0 := hl 0 (by simp)
    simp only [List.getElem_cons_zero] at h0
    rw [atP]
    cases i with
    | zero => rw [if_pos (by simpa using h0)]; rfl
    | succ j =>
      rw [if_neg (by rw [h0]; omega)]
      have := atP_find r (n + 1) (fun i hi => by have := hl (i + 1) (by simpa using hi); rw [List.getElem_cons_succ] at this; rw [this]; omega) j (by simpa using h)
      rw [List.getElem_cons_succ, ← this]
      congr 1; omega
theorem atP_none : ∀ (l : List Pol) (e : Int), (∀ p ∈ l, p.ep ≠ e) → atP e l = none
  | [], e, h => rfl
  | p :: r, e, h => by rw [atP, if_neg (h p (by simp))]; exact atP_none r e (fun q hq => h q (by simp [hq]))
theorem atP_mem : ∀ (l : List Pol) (e : Int) (p : Pol), atP e l = some p → p ∈ l
  | [], e, p, h => by cases h
  | q :: r, e, p, h => by
    rw [atP] at h
    split at h
    · cases h; simp
    · exact List.mem_cons_of_mem _ (atP_mem r e p h)

end Go.Proofs.Ytdclbemjbcmhdaa
