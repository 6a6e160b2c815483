import Derived.Test.YtcmkiancbgmmhaaDomA
namespace Go.Proofs.Ytcmkiancbgmmhaa
open Go.Aw
set_option maxHeartbeats 1600000
set_option linter.unusedSimpArgs false
set_option linter.unusedVariables false

def letB (c : UInt8) : Bool := decide (97 ≤ c.toNat) && decide (c.toNat ≤ 122)
def digB (c : UInt8) : Bool := decide (48 ≤ c.toNat) && decide (c.toNat ≤ 57)
/-- A small letter, and such, digits and others behind it. -/
def smallT (o : List UInt8) (s : List UInt8) : Bool := s.all fun c => letB c || (digB c || decide (c ∈ o))
def small (s o : List UInt8) : Bool := match s with
  | [] => false
  | c :: r => letB c && smallT o r
theorem idx_mem (c : UInt8) (o : List UInt8) (h : o.length ≤ 9223372036854775807) : (decide (0 ≤ idxB c o)) = decide (c ∈ o) := by
  by_cases hm : c ∈ o
  · obtain ⟨a, b, rfl, ha⟩ := split_first hm
    rw [idxB_some ha, decide_eq_true hm, decide_eq_true (by omega)]
  · rw [idxB_none hm, decide_eq_false hm]; rfl
/-- What holds of a text up to a place. -/
def upto (s o : List UInt8) (k : Nat) : Bool := decide (k = 0) || small (s.take k) o
theorem upto_step (s o : List UInt8) (k : Nat) (h : k < s.length) : upto s o (k + 1) = (upto s o k && (letB s[k] || decide (0 < k) && (digB s[k] || decide (s[k] ∈ o)))) := by
  cases k with
  | zero =>
    have e : s.take (0 + 1) = [s[0]] := by rw [List.take_succ_eq_append_getElem h]; rfl
    unfold upto
    rw [e]
    simp [small, smallT]
  | succ j =>
    cases s with
    | nil => simp at h
    | cons c r =>
      simp only [List.length_cons] at h
      have hj : j < r.length := by omega
      unfold upto
      simp only [List.take_succ_cons, List.getElem_cons_succ, small]
      rw [List.take_succ_eq_append_getElem hj]
      simp only [smallT, List.all_append, List.all_cons, List.all_nil, Bool.and_true]
      simp [Bool.and_assoc]
theorem upto_end (s o : List UInt8) : (upto s o s.length && !decide (s = [])) = small s o := by
  unfold upto
  cases s with
  | nil => rfl
  | cons c r => simp
theorem upto_bad : ∀ (s o : List UInt8) (k : Nat), k ≤ s.length → upto s o k = false → small s o = false := by
  intro s o k hk h
  unfold upto at h
  rw [Bool.or_eq_false_iff] at h
  have hk0 : k ≠ 0 := by simpa using h.1
  cases s with
  | nil => simp at hk; omega
  | cons c r =>
    obtain ⟨j, rfl⟩ : ∃ j, k = j + 1 := ⟨k - 1, by omega⟩
    have h2 := h.2
    simp only [List.take_succ_cons, small] at h2 ⊢
    rw [Bool.and_eq_false_iff] at h2 ⊢
    rcases h2 with h2 | h2
    · exact .inl h2
    · refine .inr ?_
      unfold smallT at h2 ⊢
      rw [← List.take_append_drop j r, List.all_append, h2]; rfl

set_option maxRecDepth 100000 in
theorem small_ok (s o : List UInt8) (hs : s.length ≤ 4611686018427387904) (ho : o.length ≤ 9223372036854775807) : PureC Try.prog 64 [.d (.str s), .d (.str o)] (.d (.bool (small s o))) := by
  refine pure_okT Try.wf Try.tab_ok Try.func64 (by decide +kernel) rfl rfl rfl rfl ?_
  refine loopT Try.wf Try.tab_ok (fun n s' σ => ∃ k : Nat, n = s.length - k ∧ k ≤ s.length ∧ upto s o k = true ∧ s' = [(0, .d (.str s)), (1, .d (.str o)), (8, .d (.int .i64 s.length)), (9, .d (.int .i64 k))] ∧ σ = ⟨0, []⟩)
    ⟨0, rfl, Nat.zero_le _, rfl, rfl, rfl⟩ (Mv.of [] rfl rfl rfl trivial ⟨rfl, rfl, rfl, rfl, trivial⟩) ?_
  rintro _ _ _ ⟨k, rfl, hk, hI, rfl, rfl⟩
  refine ⟨fun h => ?_, fun h => ?_⟩
  · have hlt : k < s.length := by have := of_decide_eq_true h; omega
    clear h
    have hg := getD_at s k hlt
    have hst := upto_step s o k hlt
    rw [hI, Bool.true_and] at hst
    refine ⟨⟨by omega, by omega⟩, ?_⟩
    rw [hg]
    generalize hc : s[k] = c at *
    have hx := idx_mem c o ho
    have no : ∀ σ : Store, (letB c || decide (0 < k) && (digB c || decide (c ∈ o))) = false → ∃ r2 σ2, FinMove ⟨0, []⟩ (AV.d (.bool false)) σ r2 σ2 ∧ r2 = AV.d (.bool (small s o)) := fun σ h => ⟨_, _, fin_out rfl, by rw [upto_bad s o (k + 1) hlt (hst.trans h)]⟩
    have go : (letB c || decide (0 < k) && (digB c || decide (c ∈ o))) = true → upto s o (k + 1) = true := fun h => hst.trans h
    by_cases hl : 97 ≤ c.toNat ∧ c.toNat ≤ 122
    · repeat (first | refine ⟨fun _ => ?_, fun h => absurd (of_decide_eq_false h) (by omega)⟩ | refine ⟨fun h => absurd (of_decide_eq_true h) (by omega), fun _ => ?_⟩ | refine ⟨fun _ => ?_, fun h => absurd (of_decide_eq_true h) (by omega)⟩ | refine ⟨fun h => absurd (of_decide_eq_false h) (by omega), fun _ => ?_⟩ | refine .inl ⟨⟨by omega, by omega⟩, ?_⟩ | refine ⟨⟨by omega, by omega⟩, ?_⟩)
      exact ⟨_, _, _, ⟨k + 1, rfl, hlt, go (by simp [letB, hl]), rfl, rfl⟩, by omega, Mv.of [] rfl rfl rfl trivial ⟨rfl, rfl, rfl, rfl, trivial⟩⟩
    · have hlb : letB c = false := by simp [letB]; omega
      rw [hlb, Bool.false_or] at no go
      have hl2 : c.toNat < 97 ∨ 122 < c.toNat := by omega
      by_cases hk0 : k = 0
      · subst hk0
        rcases hl2 with hl2 | hl2
        all_goals
          repeat (first | refine ⟨fun _ => ?_, fun h => absurd (of_decide_eq_false h) (by omega)⟩ | refine ⟨fun h => absurd (of_decide_eq_true h) (by omega), fun _ => ?_⟩ | refine ⟨fun _ => ?_, fun h => absurd (of_decide_eq_true h) (by omega)⟩ | refine ⟨fun h => absurd (of_decide_eq_false h) (by omega), fun _ => ?_⟩ | refine .inl ⟨⟨by omega, by omega⟩, ?_⟩ | refine ⟨⟨by omega, by omega⟩, ?_⟩)
          exact no _ rfl
      · rw [decide_eq_true (show 0 < k by omega), Bool.true_and] at no go
        by_cases hd : 48 ≤ c.toNat ∧ c.toNat ≤ 57
        · have hdb : digB c = true := by simp [digB, hd]
          replace hl2 : c.toNat < 97 := by omega
          repeat (first | refine ⟨fun _ => ?_, fun h => absurd (of_decide_eq_false h) (by omega)⟩ | refine ⟨fun h => absurd (of_decide_eq_true h) (by omega), fun _ => ?_⟩ | refine ⟨fun _ => ?_, fun h => absurd (of_decide_eq_true h) (by omega)⟩ | refine ⟨fun h => absurd (of_decide_eq_false h) (by omega), fun _ => ?_⟩ | refine .inl ⟨⟨by omega, by omega⟩, ?_⟩ | refine ⟨⟨by omega, by omega⟩, ?_⟩)
          exact ⟨_, _, _, ⟨k + 1, rfl, hlt, go (by rw [hdb]; rfl), rfl, rfl⟩, by omega, Mv.of [] rfl rfl rfl trivial ⟨rfl, rfl, rfl, rfl, trivial⟩⟩
        · have hdb : digB c = false := by simp [digB]; omega
          have hd2 : c.toNat < 48 ∨ 57 < c.toNat := by omega
          rw [hdb, Bool.false_or, ← hx] at no go
          have hc1 := IndexByte_ok o c
          generalize idxB c o = x at *
          have hh : (c.toNat < 97 ∧ c.toNat < 48) ∨ (c.toNat < 97 ∧ 57 < c.toNat) ∨ (122 < c.toNat ∧ 57 < c.toNat) := by omega
          clear hl2 hd2 hl hd
          rcases hh with hh | hh | hh
          all_goals
            obtain ⟨hl2, hd2⟩ := hh
            repeat (first | refine ⟨fun _ => ?_, fun h => absurd (of_decide_eq_false h) (by omega)⟩ | refine ⟨fun h => absurd (of_decide_eq_true h) (by omega), fun _ => ?_⟩ | refine ⟨fun _ => ?_, fun h => absurd (of_decide_eq_true h) (by omega)⟩ | refine ⟨fun h => absurd (of_decide_eq_false h) (by omega), fun _ => ?_⟩ | refine .inl ⟨⟨by omega, by omega⟩, ?_⟩ | refine ⟨⟨by omega, by omega⟩, ?_⟩)
            refine PureC.use hc1 ?_
            by_cases hp : 0 ≤ x
            · repeat (first | refine ⟨fun _ => ?_, fun h => absurd (of_decide_eq_false h) (by omega)⟩ | refine ⟨fun h => absurd (of_decide_eq_true h) (by omega), fun _ => ?_⟩ | refine ⟨fun _ => ?_, fun h => absurd (of_decide_eq_true h) (by omega)⟩ | refine ⟨fun h => absurd (of_decide_eq_false h) (by omega), fun _ => ?_⟩ | refine .inl ⟨⟨by omega, by omega⟩, ?_⟩ | refine ⟨⟨by omega, by omega⟩, ?_⟩)
              exact ⟨_, _, _, ⟨k + 1, rfl, hlt, go (decide_eq_true hp), rfl, rfl⟩, by omega, Mv.of [] rfl rfl rfl trivial ⟨rfl, rfl, rfl, rfl, trivial⟩⟩
            · repeat (first | refine ⟨fun _ => ?_, fun h => absurd (of_decide_eq_false h) (by omega)⟩ | refine ⟨fun h => absurd (of_decide_eq_true h) (by omega), fun _ => ?_⟩ | refine ⟨fun _ => ?_, fun h => absurd (of_decide_eq_true h) (by omega)⟩ | refine ⟨fun h => absurd (of_decide_eq_false h) (by omega), fun _ => ?_⟩ | refine .inl ⟨⟨by omega, by omega⟩, ?_⟩ | refine ⟨⟨by omega, by omega⟩, ?_⟩)
              exact no _ (decide_eq_false hp)
  · have hk' : k = s.length := by have := of_decide_eq_false h; omega
    subst hk'
    refine ⟨_, _, fin_out rfl, congrArg (fun b => AV.d (.bool b)) ?_⟩
    rw [← upto_end, hI, Bool.true_and]

end Go.Proofs.Ytcmkiancbgmmhaa
