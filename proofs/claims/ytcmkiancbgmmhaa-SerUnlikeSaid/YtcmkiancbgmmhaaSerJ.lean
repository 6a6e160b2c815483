import Derived.Test.YtcmkiancbgmmhaaSerI
namespace Go.Proofs.Ytcmkiancbgmmhaa
open Go.Aw

theorem attr_eq (a b : List UInt8 × List UInt8) : (decide (a.1 = b.1) && decide (a.2 = b.2)) = decide (a = b) := by
  rw [← Bool.decide_and, decide_eq_decide, Prod.ext_iff]

set_option maxRecDepth 100000 in
theorem SameAttrs_ok (a b : List (List UInt8 × List UInt8)) (ha1 : a.length ≤ 1000000000) : PureC Try.prog 34 [.d (.sl (attrsD a)), .d (.sl (attrsD b))] (.d (.bool (decide (a = b)))) := by
  refine pure_okT Try.wf Try.tab_ok Try.func34 (by decide +kernel) rfl rfl rfl rfl ?_
  have ha := attrsD_len a
  have hb := attrsD_len b
  have no : ∀ σ : Store, a ≠ b → ∃ r2 σ2, FinMove ⟨0, []⟩ (AV.d (.bool false)) σ r2 σ2 ∧ r2 = AV.d (.bool (decide (a = b))) := fun σ h => ⟨_, _, fin_out rfl, by rw [decide_eq_false h]⟩
  by_cases hl : a.length = b.length
  · refine ⟨fun h => absurd h (by rw [ha, hb, hl]; simp), fun _ => ?_⟩
    refine loopT Try.wf Try.tab_ok (fun m s' σ => ∃ (k : Nat), m = a.length - k ∧ k ≤ a.length ∧ a.take k = b.take k ∧ s' = [(0, .d (.sl (attrsD a))), (1, .d (.sl (attrsD b))), (5, .d (.int .i64 k))] ∧ σ = ⟨0, []⟩)
      ⟨0, rfl, Nat.zero_le _, by simp, rfl, rfl⟩ (Mv.of [] rfl rfl rfl trivial ⟨rfl, rfl, rfl, trivial⟩) ?_
    rintro _ _ _ ⟨k, rfl, hk, hI, rfl, rfl⟩
    by_cases hlt : k < a.length
    · repeat (first | refine ⟨fun _ => ?_, fun h => absurd (of_decide_eq_false h) (by omega)⟩ | refine ⟨fun h => absurd (of_decide_eq_true h) (by omega), fun _ => ?_⟩ | refine ⟨fun _ => ?_, fun h => absurd (of_decide_eq_true h) (by omega)⟩ | refine ⟨fun h => absurd (of_decide_eq_false h) (by omega), fun _ => ?_⟩ | refine .inl ⟨⟨by omega, by omega⟩, ?_⟩ | refine ⟨⟨by omega, by omega⟩, ?_⟩)
      have hlt2 : k < b.length := by omega
      refine drawnT Try.wf Try.tab_ok Try.mixed (by decide +kernel) ?_
      refine qstep rfl rfl (FinMove.refl _ _ _) ?_
      refine qstep rfl rfl (FinMove.refl _ _ _) ?_
      refine qstep rfl rfl ⟨⟨by omega, by omega⟩, _, attrsD_get a k hlt, rfl, FinMove.refl _ _ _⟩ ?_
      refine qstep rfl rfl ⟨Nat.le_refl _, FinMove.refl _ _ _⟩ ?_
      refine qstep rfl rfl (FinMove.refl _ _ _) ?_
      refine qstep rfl rfl (FinMove.refl _ _ _) ?_
      refine qstep rfl rfl ⟨⟨by omega, by omega⟩, _, attrsD_get b k hlt2, rfl, FinMove.refl _ _ _⟩ ?_
      refine qstep rfl rfl ⟨Nat.le_refl _, FinMove.refl _ _ _⟩ ?_
      refine qstep (r := .d (.bool (!decide (a[k] = b[k])))) rfl rfl (fin_eq (congrArg (fun x => AV.d (.bool (!x))) ?_)) ?_
      · rw [← attr_eq]; simp
      by_cases he : a[k] = b[k]
      · rw [decide_eq_true he]
        repeat (first | refine ⟨fun _ => ?_, fun h => absurd h (by decide)⟩ | refine ⟨fun h => absurd h (by decide), fun _ => ?_⟩)
        repeat (first | refine ⟨fun _ => ?_, fun h => absurd (of_decide_eq_false h) (by omega)⟩ | refine ⟨fun h => absurd (of_decide_eq_true h) (by omega), fun _ => ?_⟩ | refine ⟨fun _ => ?_, fun h => absurd (of_decide_eq_true h) (by omega)⟩ | refine ⟨fun h => absurd (of_decide_eq_false h) (by omega), fun _ => ?_⟩ | refine .inl ⟨⟨by omega, by omega⟩, ?_⟩ | refine ⟨⟨by omega, by omega⟩, ?_⟩)
        refine ⟨_, _, _, ⟨k + 1, rfl, hlt, ?_, rfl, rfl⟩, by omega, Mv.of [] rfl rfl rfl trivial ⟨rfl, rfl, rfl, trivial⟩⟩
        rw [List.take_succ_eq_append_getElem hlt, List.take_succ_eq_append_getElem hlt2, hI, he]
      · rw [decide_eq_false he]
        repeat (first | refine ⟨fun _ => ?_, fun h => absurd h (by decide)⟩ | refine ⟨fun h => absurd h (by decide), fun _ => ?_⟩)
        exact no _ (fun e => he (by subst e; rfl))
    · repeat (first | refine ⟨fun _ => ?_, fun h => absurd (of_decide_eq_false h) (by omega)⟩ | refine ⟨fun h => absurd (of_decide_eq_true h) (by omega), fun _ => ?_⟩ | refine ⟨fun _ => ?_, fun h => absurd (of_decide_eq_true h) (by omega)⟩ | refine ⟨fun h => absurd (of_decide_eq_false h) (by omega), fun _ => ?_⟩ | refine .inl ⟨⟨by omega, by omega⟩, ?_⟩ | refine ⟨⟨by omega, by omega⟩, ?_⟩)
      obtain rfl : k = a.length := by omega
      have e : a = b := by rw [List.take_length, hl, List.take_length] at hI; exact hI
      exact ⟨_, _, fin_out rfl, congrArg (fun b => AV.d (.bool b)) (decide_eq_true e).symm⟩
  · refine ⟨fun _ => no _ (fun e => hl (by rw [e])), fun h => absurd h (by rw [ha, hb]; simp; omega)⟩

/-- Are two trees the same? -/
noncomputable def sameB (a b : List Node) : Bool := @decide (a = b) (Classical.propDecidable _)
theorem sameB_true {a b : List Node} (h : a = b) : sameB a b = true := by unfold sameB; exact @decide_eq_true _ (Classical.propDecidable _) h
theorem sameB_false {a b : List Node} (h : a ≠ b) : sameB a b = false := by unfold sameB; exact @decide_eq_false _ (Classical.propDecidable _) h
theorem node_eta {a b : Node} (h1 : a.name = b.name) (h2 : a.attrs = b.attrs) (h3 : a.text = b.text) (h4 : a.kids = b.kids) : a = b := by
  cases a; cases b
  simp only [Node.name, Node.attrs, Node.text, Node.kids] at h1 h2 h3 h4
  rw [h1, h2, h3, h4]

set_option maxHeartbeats 1000000 in
set_option maxRecDepth 100000 in
theorem Same_ok (N : Nat) : ∀ (a b : List Node), szL a ≤ N → N ≤ 1000000000 → ShL a → PureC Try.prog 18 [.d (.sl (nodesD a)), .d (.sl (nodesD b))] (.d (.bool (sameB a b))) := by
  induction N using Nat.strongRecOn with
  | ind N ih =>
  intro a b hN hB hS
  refine pure_okT Try.wf Try.tab_ok Try.func18 (by decide +kernel) rfl rfl rfl rfl ?_
  have ha := nodesD_len a
  have hb := nodesD_len b
  have hsl := sz_len a
  have no : ∀ σ : Store, a ≠ b → ∃ r2 σ2, FinMove ⟨0, []⟩ (AV.d (.bool false)) σ r2 σ2 ∧ r2 = AV.d (.bool (sameB a b)) := fun σ h => ⟨_, _, fin_out rfl, by rw [sameB_false h]⟩
  by_cases hl : a.length = b.length
  · refine ⟨fun h => absurd h (by rw [ha, hb, hl]; simp), fun _ => ?_⟩
    refine loopT Try.wf Try.tab_ok (fun m s' σ => ∃ (k : Nat), m = a.length - k ∧ k ≤ a.length ∧ a.take k = b.take k ∧ s' = [(0, .d (.sl (nodesD a))), (1, .d (.sl (nodesD b))), (5, .d (.int .i64 k))] ∧ σ = ⟨0, []⟩)
      ⟨0, rfl, Nat.zero_le _, by simp, rfl, rfl⟩ (Mv.of [] rfl rfl rfl trivial ⟨rfl, rfl, rfl, trivial⟩) ?_
    rintro _ _ _ ⟨k, rfl, hk, hI, rfl, rfl⟩
    by_cases hlt : k < a.length
    · repeat (first | refine ⟨fun _ => ?_, fun h => absurd (of_decide_eq_false h) (by omega)⟩ | refine ⟨fun h => absurd (of_decide_eq_true h) (by omega), fun _ => ?_⟩ | refine ⟨fun _ => ?_, fun h => absurd (of_decide_eq_true h) (by omega)⟩ | refine ⟨fun h => absurd (of_decide_eq_false h) (by omega), fun _ => ?_⟩ | refine .inl ⟨⟨by omega, by omega⟩, ?_⟩ | refine ⟨⟨by omega, by omega⟩, ?_⟩)
      have hlt2 : k < b.length := by omega
      have hga := nodesD_get a k hlt
      have hgb := nodesD_get b k hlt2
      have hks := kids_lt (List.getElem_mem hlt)
      have hsn := (ShN_eq _).1 (ShL_mem hS _ (List.getElem_mem hlt))
      have c1 := SameAttrs_ok a[k].attrs b[k].attrs hsn.2.1.1
      have c2 := ih (szL a[k].kids) (by omega) a[k].kids b[k].kids (Nat.le_refl _) (by omega) hsn.2.2.2
      have bad : a[k] ≠ b[k] → a ≠ b := fun h e => h (by subst e; rfl)
      refine drawnT Try.wf Try.tab_ok Try.mixed (by decide +kernel) ?_
      refine qstep rfl rfl (FinMove.refl _ _ _) ?_
      refine qstep rfl rfl (FinMove.refl _ _ _) ?_
      refine qstep rfl rfl ⟨⟨by omega, by omega⟩, _, hga, rfl, FinMove.refl _ _ _⟩ ?_
      refine qstep rfl rfl (FinMove.refl _ _ _) ?_
      refine qstep rfl rfl ⟨_, rfl, FinMove.refl _ _ _⟩ ?_
      refine qstep rfl rfl (FinMove.refl _ _ _) ?_
      refine qstep rfl rfl (FinMove.refl _ _ _) ?_
      refine qstep rfl rfl ⟨⟨by omega, by omega⟩, _, hgb, rfl, FinMove.refl _ _ _⟩ ?_
      refine qstep rfl rfl (FinMove.refl _ _ _) ?_
      refine qstep rfl rfl ⟨_, rfl, FinMove.refl _ _ _⟩ ?_
      by_cases h1 : a[k].name = b[k].name
      · refine qstep (r := .d (.bool false)) rfl rfl (fin_eq (congrArg (fun x => AV.d (.bool (!x))) (decide_eq_true h1))) ?_
        refine qstep rfl rfl (FinMove.refl _ _ _) ?_
        refine qstep rfl rfl (FinMove.refl _ _ _) ?_
        refine qstep rfl rfl (FinMove.refl _ _ _) ?_
        refine qstep rfl rfl ⟨⟨by omega, by omega⟩, _, hga, rfl, FinMove.refl _ _ _⟩ ?_
        refine qstep rfl rfl (FinMove.refl _ _ _) ?_
        refine qstep rfl rfl ⟨_, rfl, FinMove.refl _ _ _⟩ ?_
        refine qstep rfl rfl (FinMove.refl _ _ _) ?_
        refine qstep rfl rfl (FinMove.refl _ _ _) ?_
        refine qstep rfl rfl ⟨⟨by omega, by omega⟩, _, hgb, rfl, FinMove.refl _ _ _⟩ ?_
        refine qstep rfl rfl (FinMove.refl _ _ _) ?_
        refine qstep rfl rfl ⟨_, rfl, FinMove.refl _ _ _⟩ ?_
        by_cases h2 : a[k].text = b[k].text
        · refine qstep (r := .d (.bool false)) rfl rfl (fin_eq (congrArg (fun x => AV.d (.bool (!x))) (decide_eq_true h2))) ?_
          refine qstep (r := .d (.bool false)) rfl rfl ⟨fun h => absurd h (by decide), fun _ => FinMove.refl _ _ _⟩ ?_
          refine qstep rfl rfl (FinMove.refl _ _ _) ?_
          refine qstep rfl rfl (FinMove.refl _ _ _) ?_
          refine qstep rfl rfl (FinMove.refl _ _ _) ?_
          refine qstep rfl rfl ⟨⟨by omega, by omega⟩, _, hga, rfl, FinMove.refl _ _ _⟩ ?_
          refine qstep rfl rfl (FinMove.refl _ _ _) ?_
          refine qstep rfl rfl ⟨_, rfl, FinMove.refl _ _ _⟩ ?_
          refine qstep rfl rfl (FinMove.refl _ _ _) ?_
          refine qstep rfl rfl (FinMove.refl _ _ _) ?_
          refine qstep rfl rfl ⟨⟨by omega, by omega⟩, _, hgb, rfl, FinMove.refl _ _ _⟩ ?_
          refine qstep rfl rfl (FinMove.refl _ _ _) ?_
          refine qstep rfl rfl ⟨_, rfl, FinMove.refl _ _ _⟩ ?_
          by_cases h3 : a[k].attrs = b[k].attrs
          · rw [decide_eq_true h3] at c1
            refine qstep (r := .d (.bool true)) rfl rfl (PureC.use c1 (FinMove.refl _ _ _)) ?_
            refine qstep rfl rfl (FinMove.refl _ _ _) ?_
            refine qstep (r := .d (.bool false)) rfl rfl ⟨fun h => absurd h (by decide), fun _ => FinMove.refl _ _ _⟩ ?_
            refine qstep rfl rfl (FinMove.refl _ _ _) ?_
            refine qstep rfl rfl (FinMove.refl _ _ _) ?_
            refine qstep rfl rfl (FinMove.refl _ _ _) ?_
            refine qstep rfl rfl ⟨⟨by omega, by omega⟩, _, hga, rfl, FinMove.refl _ _ _⟩ ?_
            refine qstep rfl rfl (FinMove.refl _ _ _) ?_
            refine qstep rfl rfl ⟨_, rfl, FinMove.refl _ _ _⟩ ?_
            refine qstep rfl rfl (FinMove.refl _ _ _) ?_
            refine qstep rfl rfl (FinMove.refl _ _ _) ?_
            refine qstep rfl rfl ⟨⟨by omega, by omega⟩, _, hgb, rfl, FinMove.refl _ _ _⟩ ?_
            refine qstep rfl rfl (FinMove.refl _ _ _) ?_
            refine qstep rfl rfl ⟨_, rfl, FinMove.refl _ _ _⟩ ?_
            by_cases h4 : a[k].kids = b[k].kids
            · rw [sameB_true h4] at c2
              refine qstep (r := .d (.bool true)) rfl rfl (PureC.use c2 (FinMove.refl _ _ _)) ?_
              refine qstep rfl rfl (FinMove.refl _ _ _) ?_
              refine qstep (r := .d (.bool false)) rfl rfl ⟨fun h => absurd h (by decide), fun _ => FinMove.refl _ _ _⟩ ?_
              repeat (first | refine ⟨fun _ => ?_, fun h => absurd h (by decide)⟩ | refine ⟨fun h => absurd h (by decide), fun _ => ?_⟩)
              repeat (first | refine ⟨fun _ => ?_, fun h => absurd (of_decide_eq_false h) (by omega)⟩ | refine ⟨fun h => absurd (of_decide_eq_true h) (by omega), fun _ => ?_⟩ | refine ⟨fun _ => ?_, fun h => absurd (of_decide_eq_true h) (by omega)⟩ | refine ⟨fun h => absurd (of_decide_eq_false h) (by omega), fun _ => ?_⟩ | refine .inl ⟨⟨by omega, by omega⟩, ?_⟩ | refine ⟨⟨by omega, by omega⟩, ?_⟩)
              refine ⟨_, _, _, ⟨k + 1, rfl, hlt, ?_, rfl, rfl⟩, by omega, Mv.of [] rfl rfl rfl trivial ⟨rfl, rfl, rfl, trivial⟩⟩
              rw [List.take_succ_eq_append_getElem hlt, List.take_succ_eq_append_getElem hlt2, hI, node_eta h1 h3 h2 h4]
            · rw [sameB_false h4] at c2
              refine qstep (r := .d (.bool false)) rfl rfl (PureC.use c2 (FinMove.refl _ _ _)) ?_
              refine qstep rfl rfl (FinMove.refl _ _ _) ?_
              refine qstep (r := .d (.bool true)) rfl rfl ⟨fun h => absurd h (by decide), fun _ => FinMove.refl _ _ _⟩ ?_
              repeat (first | refine ⟨fun _ => ?_, fun h => absurd h (by decide)⟩ | refine ⟨fun h => absurd h (by decide), fun _ => ?_⟩)
              exact no _ (bad (fun e => h4 (by rw [e])))
          · rw [decide_eq_false h3] at c1
            refine qstep (r := .d (.bool false)) rfl rfl (PureC.use c1 (FinMove.refl _ _ _)) ?_
            refine qstep rfl rfl (FinMove.refl _ _ _) ?_
            refine qstep (r := .d (.bool true)) rfl rfl ⟨fun h => absurd h (by decide), fun _ => FinMove.refl _ _ _⟩ ?_
            refine qstep rfl rfl (FinMove.refl _ _ _) ?_
            iterate 12 (refine qskip rfl rfl ?_)
            refine qstep (r := .tt) rfl rfl ⟨fun _ => FinMove.refl _ _ _, fun h => absurd h (by decide)⟩ ?_
            repeat (first | refine ⟨fun _ => ?_, fun h => absurd h (by decide)⟩ | refine ⟨fun h => absurd h (by decide), fun _ => ?_⟩)
            exact no _ (bad (fun e => h3 (by rw [e])))
        · refine qstep (r := .d (.bool true)) rfl rfl (fin_eq (congrArg (fun x => AV.d (.bool (!x))) (decide_eq_false h2))) ?_
          refine qstep (r := .d (.bool true)) rfl rfl ⟨fun h => absurd h (by decide), fun _ => FinMove.refl _ _ _⟩ ?_
          refine qstep rfl rfl (FinMove.refl _ _ _) ?_
          iterate 12 (refine qskip rfl rfl ?_)
          refine qstep (r := .tt) rfl rfl ⟨fun _ => FinMove.refl _ _ _, fun h => absurd h (by decide)⟩ ?_
          refine qstep rfl rfl (FinMove.refl _ _ _) ?_
          iterate 12 (refine qskip rfl rfl ?_)
          refine qstep (r := .tt) rfl rfl (FinMove.refl _ _ _) ?_
          repeat (first | refine ⟨fun _ => ?_, fun h => absurd h (by decide)⟩ | refine ⟨fun h => absurd h (by decide), fun _ => ?_⟩)
          exact no _ (bad (fun e => h2 (by rw [e])))
      · refine qstep (r := .d (.bool true)) rfl rfl (fin_eq (congrArg (fun x => AV.d (.bool (!x))) (decide_eq_false h1))) ?_
        refine qstep rfl rfl (FinMove.refl _ _ _) ?_
        iterate 11 (refine qskip rfl rfl ?_)
        refine qstep (r := .tt) rfl rfl ⟨fun _ => FinMove.refl _ _ _, fun h => absurd h (by decide)⟩ ?_
        refine qstep rfl rfl (FinMove.refl _ _ _) ?_
        iterate 12 (refine qskip rfl rfl ?_)
        refine qstep (r := .tt) rfl rfl (FinMove.refl _ _ _) ?_
        refine qstep rfl rfl (FinMove.refl _ _ _) ?_
        iterate 12 (refine qskip rfl rfl ?_)
        refine qstep (r := .tt) rfl rfl (FinMove.refl _ _ _) ?_
        repeat (first | refine ⟨fun _ => ?_, fun h => absurd h (by decide)⟩ | refine ⟨fun h => absurd h (by decide), fun _ => ?_⟩)
        exact no _ (bad (fun e => h1 (by rw [e])))
    · repeat (first | refine ⟨fun _ => ?_, fun h => absurd (of_decide_eq_false h) (by omega)⟩ | refine ⟨fun h => absurd (of_decide_eq_true h) (by omega), fun _ => ?_⟩ | refine ⟨fun _ => ?_, fun h => absurd (of_decide_eq_true h) (by omega)⟩ | refine ⟨fun h => absurd (of_decide_eq_false h) (by omega), fun _ => ?_⟩ | refine .inl ⟨⟨by omega, by omega⟩, ?_⟩ | refine ⟨⟨by omega, by omega⟩, ?_⟩)
      obtain rfl : k = a.length := by omega
      have e : a = b := by rw [List.take_length, hl, List.take_length] at hI; exact hI
      exact ⟨_, _, fin_out rfl, congrArg (fun b => AV.d (.bool b)) (sameB_true e).symm⟩
  · refine ⟨fun _ => no _ (fun e => hl (by rw [e])), fun h => absurd h (by rw [ha, hb]; simp; omega)⟩

end Go.Proofs.Ytcmkiancbgmmhaa
