import Derived.Test.YtcmkiancbgmmhaaSerF
namespace Go.Proofs.Ytcmkiancbgmmhaa
open Go.Aw
set_option maxHeartbeats 1600000
set_option linter.unusedSimpArgs false
set_option linter.unusedVariables false

set_option maxHeartbeats 1000000 in
set_option maxRecDepth 100000 in
theorem rHTML_ok (N : Nat) : ∀ (l : List Node), szL l ≤ N → N ≤ 1000000000 → ShL l → (htL l).length ≤ 10000000000 → PureC Try.prog 14 [.d (.sl (nodesD l))] (.d (.str (htL l))) := by
  induction N using Nat.strongRecOn with
  | ind N ih =>
  intro l hN hB hS hs
  refine PureC.of rfl rfl (fn_okTE Try.wf Try.tab_ok Try.func14 (by decide +kernel) rfl rfl ?_)
  have hn := nodesD_len l
  have hsl := sz_len l
  refine E.seq (E.of Try.wf Try.tab_ok ?_)
  refine E.seq (E.of Try.wf Try.tab_ok ?_)
  refine E.seq (E.of Try.wf Try.tab_ok ?_)
  refine loopE (fun m s' σ => ∃ (k : Nat), m = l.length - k ∧ k ≤ l.length ∧ s' = [(0, .d (.sl (nodesD l))), (3, .d (.str (htL (l.take k)))), (4, .d (.int .i64 k))] ∧ σ = ⟨0, []⟩)
    ⟨0, rfl, Nat.zero_le _, rfl, rfl⟩ ?_ ?_
  · exact Mv.of [] rfl rfl rfl trivial ⟨rfl, congrArg D.str (by rw [List.take_zero, htL]), rfl, trivial⟩
  rintro _ _ _ ⟨k, rfl, hk, rfl, rfl⟩
  refine E.seq (E.of Try.wf Try.tab_ok ?_)
  refine ⟨fun h => ?_, fun h => ?_⟩
  · have hlt : k < l.length := by have := of_decide_eq_true h; rw [hn] at this; omega
    clear h
    have htk := htL_take l k hlt
    have hle := htL_take_le l (k + 1)
    have hks := kids_lt (List.getElem_mem hlt)
    have hsk := ShL_mem hS _ (List.getElem_mem hlt)
    have hsn := (ShN_eq _).1 hsk
    have hget := nodesD_get l k hlt
    have hhe := htN_eq l[k]
    have htl := congrArg List.length htk
    rw [htk, List.length_append] at hle
    refine E.seq (blockE ?_)
    refine midT Try.wf Try.tab_ok (fun s' σ => s' = [(0, .d (.sl (nodesD l))), (3, .d (.str (htL (l.take k)))), (4, .d (.int .i64 k)), (5, .ref 0 0 0)] ∧ σ = ⟨1, [(0, nodeO l[k])]⟩) ?_ ?_
    · refine ⟨⟨by omega, by rw [hn]; omega⟩, _, hget, rfl, ?_⟩
      refine ⟨Nat.le_refl _, _, rfl, rfl, Nat.le_refl _, ?_⟩
      refine ⟨_, _, ⟨rfl, rfl⟩, ?_⟩
      exact Mv.of [.old 0] rfl rfl rfl ⟨⟨rfl, .inl ⟨rfl, fun row h => by rw [List.mem_singleton.1 h]; rfl⟩⟩, trivial⟩ ⟨rfl, rfl, rfl, ⟨rfl, rfl, rfl⟩, trivial⟩
    rintro _ _ ⟨rfl, rfl⟩
    generalize htL (l.take k) = acc at *
    have fin : ∀ out : List UInt8, htL (l.take (k + 1)) = out → vrelS (phi 0 []) [(0, .d (.sl (nodesD l))), (3, .d (.str out)), (4, .d (.int .i64 ((k : Int) + 1)))] [(0, .d (.sl (nodesD l))), (3, .d (.str (htL (l.take (k + 1))))), (4, .d (.int .i64 ((k + 1 : Nat) : Int)))] := fun out h => by
      rw [h]; exact ⟨rfl, rfl, rfl, trivial⟩
    refine midT Try.wf Try.tab_ok (fun s' σ => l[k].name ≠ [] ∧ s' = [(0, .d (.sl (nodesD l))), (3, .d (.str acc)), (4, .d (.int .i64 k)), (5, .ref 0 0 0)] ∧ σ = ⟨1, [(0, nodeO l[k])]⟩) ?_ ?_
    · refine ⟨_, rfl, _, rfl, ?_⟩
      by_cases hne : l[k].name = []
      · refine ⟨fun _ => ?_, fun h => absurd (of_decide_eq_false h) (fun h => h hne)⟩
        rw [if_pos hne] at hhe
        refine ⟨_, rfl, _, rfl, ?_⟩
        refine PureC.use (rEscape_ok l[k].text false (by omega)) ?_
        rw [← hhe]
        refine ⟨by omega, ?_⟩
        refine E.of Try.wf Try.tab_ok ?_
        repeat (first | refine ⟨fun _ => ?_, fun h => absurd (of_decide_eq_false h) (by omega)⟩ | refine ⟨fun h => absurd (of_decide_eq_true h) (by omega), fun _ => ?_⟩ | refine ⟨fun _ => ?_, fun h => absurd (of_decide_eq_true h) (by omega)⟩ | refine ⟨fun h => absurd (of_decide_eq_false h) (by omega), fun _ => ?_⟩ | refine .inl ⟨⟨by omega, by omega⟩, ?_⟩ | refine ⟨⟨by omega, by omega⟩, ?_⟩)
        exact ⟨_, _, _, ⟨k + 1, rfl, hlt, rfl, rfl⟩, by omega, Mv.of [] rfl rfl rfl trivial (fin _ htk)⟩
      · refine ⟨fun h => absurd (of_decide_eq_true h) hne, fun _ => ?_⟩
        exact ⟨_, _, ⟨hne, rfl, rfl⟩, Mv.of [.old 0] rfl rfl rfl ⟨⟨rfl, .inl ⟨rfl, fun row h => by rw [List.mem_singleton.1 h]; rfl⟩⟩, trivial⟩ ⟨rfl, rfl, rfl, ⟨rfl, rfl, rfl⟩, trivial⟩⟩
    rintro _ _ ⟨hne, rfl, rfl⟩
    rw [if_neg hne] at hhe
    have hL := congrArg List.length hhe
    simp only [List.length_append, List.length_cons, List.length_nil] at hL
    have hal := attrsD_len l[k].attrs
    have hatt := hsn.2.1.1
    refine E.seq (E.of Try.wf Try.tab_ok ?_)
    refine ⟨by simp only [List.length_append, List.length_cons, List.length_nil]; omega, ?_⟩
    refine ⟨_, rfl, _, rfl, ?_⟩
    refine ⟨by simp only [List.length_append, List.length_cons, List.length_nil]; omega, ?_⟩
    refine midE (fun s' σ => s' = [(0, .d (.sl (nodesD l))), (3, .d (.str (acc ++ [60] ++ l[k].name ++ attrsH l[k].attrs))), (4, .d (.int .i64 k)), (5, .ref 0 0 0)] ∧ σ = ⟨1, [(0, nodeO l[k])]⟩) ?_ ?_
    · refine E.seq (E.of Try.wf Try.tab_ok ?_)
      refine blockE ?_
      refine loopE (fun m s' σ => ∃ (j : Nat), m = l[k].attrs.length - j ∧ j ≤ l[k].attrs.length ∧ s' = [(0, .d (.sl (nodesD l))), (3, .d (.str (acc ++ [60] ++ l[k].name ++ attrsH (l[k].attrs.take j)))), (4, .d (.int .i64 k)), (5, .ref 0 0 0), (6, .d (.int .i64 j))] ∧ σ = ⟨1, [(0, nodeO l[k])]⟩)
        ⟨0, rfl, Nat.zero_le _, rfl, rfl⟩ ?_ ?_
      · exact Mv.of [.old 0] rfl rfl rfl ⟨⟨rfl, .inl ⟨rfl, fun row h => by rw [List.mem_singleton.1 h]; rfl⟩⟩, trivial⟩ ⟨rfl, congrArg D.str (by simp [attrsH]), rfl, ⟨rfl, rfl, rfl⟩, rfl, trivial⟩
      rintro _ _ _ ⟨j, rfl, hj, rfl, rfl⟩
      refine E.seq (E.of Try.wf Try.tab_ok ?_)
      refine ⟨_, rfl, _, rfl, ?_⟩
      refine ⟨fun h => ?_, fun h => ?_⟩
      · have hltj : j < l[k].attrs.length := by have := of_decide_eq_true h; rw [hal] at this; omega
        clear h
        have hjk := attrsH_take l[k].attrs j hltj
        have hjle := attrsH_take_le l[k].attrs (j + 1)
        have hsa := hsn.2.1.2 _ (List.getElem_mem hltj)
        have hgetj := attrsD_get l[k].attrs j hltj
        have hel := (escape_len l[k].attrs[j].2.length true l[k].attrs[j].2 (Nat.le_refl _)).2
        rw [hjk, List.length_append] at hjle
        have hAl : (attrH l[k].attrs[j]).length = 1 + l[k].attrs[j].1.length + 2 + (escape true l[k].attrs[j].2).length + 1 := by
          unfold attrH; simp only [List.length_append, List.length_cons, List.length_nil]
        have c1 := rEscape_ok l[k].attrs[j].2 true (by omega)
        refine E.seq (blockE (drawnT Try.wf Try.tab_ok Try.mixed (by decide +kernel) ?_))
        repeat (first | refine qstep rfl rfl (FinMove.refl _ _ _) ?_ | refine qstep rfl rfl ⟨_, rfl, FinMove.refl _ _ _⟩ ?_ | refine qstep rfl rfl ⟨_, rfl, _, rfl, FinMove.refl _ _ _⟩ ?_ | refine qstep rfl rfl ⟨by simp only [List.length_append, List.length_cons, List.length_nil]; omega, FinMove.refl _ _ _⟩ ?_)
        refine qstep rfl rfl ⟨⟨by omega, by rw [hal]; omega⟩, _, hgetj, rfl, FinMove.refl _ _ _⟩ ?_
        repeat (first | refine qstep rfl rfl (FinMove.refl _ _ _) ?_ | refine qstep rfl rfl ⟨_, rfl, FinMove.refl _ _ _⟩ ?_ | refine qstep rfl rfl ⟨_, rfl, _, rfl, FinMove.refl _ _ _⟩ ?_ | refine qstep rfl rfl ⟨by simp only [List.length_append, List.length_cons, List.length_nil]; omega, FinMove.refl _ _ _⟩ ?_)
        refine qstep rfl rfl ⟨⟨by omega, by rw [hal]; omega⟩, _, hgetj, rfl, FinMove.refl _ _ _⟩ ?_
        repeat (first | refine qstep rfl rfl (FinMove.refl _ _ _) ?_ | refine qstep rfl rfl ⟨_, rfl, FinMove.refl _ _ _⟩ ?_ | refine qstep rfl rfl ⟨_, rfl, _, rfl, FinMove.refl _ _ _⟩ ?_ | refine qstep rfl rfl ⟨by simp only [List.length_append, List.length_cons, List.length_nil]; omega, FinMove.refl _ _ _⟩ ?_)
        refine qstep rfl rfl (PureC.use c1 (FinMove.refl _ _ _)) ?_
        repeat (first | refine qstep rfl rfl (FinMove.refl _ _ _) ?_ | refine qstep rfl rfl ⟨_, rfl, FinMove.refl _ _ _⟩ ?_ | refine qstep rfl rfl ⟨_, rfl, _, rfl, FinMove.refl _ _ _⟩ ?_ | refine qstep rfl rfl ⟨by simp only [List.length_append, List.length_cons, List.length_nil]; omega, FinMove.refl _ _ _⟩ ?_)
        refine E.of Try.wf Try.tab_ok ?_
        repeat (first | refine ⟨fun _ => ?_, fun h => absurd (of_decide_eq_false h) (by omega)⟩ | refine ⟨fun h => absurd (of_decide_eq_true h) (by omega), fun _ => ?_⟩ | refine ⟨fun _ => ?_, fun h => absurd (of_decide_eq_true h) (by omega)⟩ | refine ⟨fun h => absurd (of_decide_eq_false h) (by omega), fun _ => ?_⟩ | refine .inl ⟨⟨by omega, by omega⟩, ?_⟩ | refine ⟨⟨by omega, by omega⟩, ?_⟩)
        refine ⟨_, _, _, ⟨j + 1, rfl, hltj, rfl, rfl⟩, by omega, ?_⟩
        exact Mv.of [.old 0] rfl rfl rfl ⟨⟨rfl, .inl ⟨rfl, fun row h => by rw [List.mem_singleton.1 h]; rfl⟩⟩, trivial⟩ ⟨rfl, congrArg D.str (by rw [hjk]; unfold attrH; simp only [List.append_assoc]), rfl, ⟨rfl, rfl, rfl⟩, rfl, trivial⟩
      · have hj' : j = l[k].attrs.length := by have := of_decide_eq_false h; rw [hal] at this; omega
        subst hj'
        rw [List.take_length]
        exact ⟨_, _, ⟨rfl, rfl⟩, Mv.of [.old 0] rfl rfl rfl ⟨⟨rfl, .inl ⟨rfl, fun row h => by rw [List.mem_singleton.1 h]; rfl⟩⟩, trivial⟩ ⟨rfl, rfl, rfl, ⟨rfl, rfl, rfl⟩, trivial⟩⟩
    rintro _ _ ⟨rfl, rfl⟩
    refine E.seq (E.of Try.wf Try.tab_ok ?_)
    refine ⟨by simp only [List.length_append, List.length_cons, List.length_nil]; omega, ?_⟩
    refine E.seq (E.of Try.wf Try.tab_ok ?_)
    refine ⟨_, rfl, _, rfl, ?_⟩
    refine PureC.use (rVoid_ok l[k].name) ?_
    refine E.of Try.wf Try.tab_ok ?_
    by_cases hv : l[k].name ∈ voids
    · rw [if_pos hv] at hhe
      rw [decide_eq_true hv]
      repeat (first | refine ⟨fun _ => ?_, fun h => absurd h (by decide)⟩ | refine ⟨fun h => absurd h (by decide), fun _ => ?_⟩)
      refine E.of Try.wf Try.tab_ok ?_
      repeat (first | refine ⟨fun _ => ?_, fun h => absurd (of_decide_eq_false h) (by omega)⟩ | refine ⟨fun h => absurd (of_decide_eq_true h) (by omega), fun _ => ?_⟩ | refine ⟨fun _ => ?_, fun h => absurd (of_decide_eq_true h) (by omega)⟩ | refine ⟨fun h => absurd (of_decide_eq_false h) (by omega), fun _ => ?_⟩ | refine .inl ⟨⟨by omega, by omega⟩, ?_⟩ | refine ⟨⟨by omega, by omega⟩, ?_⟩)
      refine ⟨_, _, _, ⟨k + 1, rfl, hlt, rfl, rfl⟩, by omega, Mv.of [] rfl rfl rfl trivial (fin _ ?_)⟩
      rw [htk, hhe]; simp only [List.append_assoc, List.append_nil]
    · rw [if_neg hv] at hhe hL
      simp only [List.length_append, List.length_cons, List.length_nil] at hL
      rw [decide_eq_false hv]
      have c5 := ih (szL l[k].kids) (by omega) l[k].kids (Nat.le_refl _) (by omega) hsn.2.2.2 (by omega)
      repeat (first | refine ⟨fun _ => ?_, fun h => absurd h (by decide)⟩ | refine ⟨fun h => absurd h (by decide), fun _ => ?_⟩)
      refine drawnT Try.wf Try.tab_ok Try.mixed (by decide +kernel) ?_
      repeat (first | refine qstep rfl rfl (FinMove.refl _ _ _) ?_ | refine qstep rfl rfl ⟨_, rfl, FinMove.refl _ _ _⟩ ?_ | refine qstep rfl rfl ⟨_, rfl, _, rfl, FinMove.refl _ _ _⟩ ?_ | refine qstep rfl rfl ⟨by simp only [List.length_append, List.length_cons, List.length_nil]; omega, FinMove.refl _ _ _⟩ ?_)
      refine qstep rfl rfl (PureC.use c5 (FinMove.refl _ _ _)) ?_
      repeat (first | refine qstep rfl rfl (FinMove.refl _ _ _) ?_ | refine qstep rfl rfl ⟨_, rfl, FinMove.refl _ _ _⟩ ?_ | refine qstep rfl rfl ⟨_, rfl, _, rfl, FinMove.refl _ _ _⟩ ?_ | refine qstep rfl rfl ⟨by simp only [List.length_append, List.length_cons, List.length_nil]; omega, FinMove.refl _ _ _⟩ ?_)
      refine E.of Try.wf Try.tab_ok ?_
      repeat (first | refine ⟨fun _ => ?_, fun h => absurd (of_decide_eq_false h) (by omega)⟩ | refine ⟨fun h => absurd (of_decide_eq_true h) (by omega), fun _ => ?_⟩ | refine ⟨fun _ => ?_, fun h => absurd (of_decide_eq_true h) (by omega)⟩ | refine ⟨fun h => absurd (of_decide_eq_false h) (by omega), fun _ => ?_⟩ | refine .inl ⟨⟨by omega, by omega⟩, ?_⟩ | refine ⟨⟨by omega, by omega⟩, ?_⟩)
      refine ⟨_, _, _, ⟨k + 1, rfl, hlt, rfl, rfl⟩, by omega, Mv.of [] rfl rfl rfl trivial (fin _ ?_)⟩
      rw [htk, hhe]; simp only [List.append_assoc]
  · refine E.of Try.wf Try.tab_ok ?_
    have hk' : k = l.length := by have := of_decide_eq_false h; rw [hn] at this; omega
    subst hk'
    rw [List.take_length]
    exact ⟨_, _, fin_out rfl, rfl, rfl⟩

end Go.Proofs.Ytcmkiancbgmmhaa
