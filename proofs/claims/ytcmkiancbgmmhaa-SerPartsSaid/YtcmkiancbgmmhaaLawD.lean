import Derived.Test.YtcmkiancbgmmhaaSerI
namespace Go.Proofs.Ytcmkiancbgmmhaa
open Go.Aw

abbrev dRows (l : List (List D)) : List (List AV) := l.map fun r => r.map AV.d
theorem toDs_map : ∀ r : List D, toDs (r.map AV.d) = some r
  | [] => rfl
  | x :: r => by simp only [List.map_cons, toDs, toDs_map r]; rfl
theorem rowsD_map : ∀ l : List (List D), rowsD (dRows l) = some l
  | [] => rfl
  | r :: l => by
    have := rowsD_map l
    simp only [dRows, List.map_cons, rowsD, toDs_map] at this ⊢
    rw [this]
theorem dRows_append (a b : List (List D)) : dRows a ++ dRows b = dRows (a ++ b) := by simp [dRows]
theorem nodes_append (a b : List Node) : nodesD a ++ nodesD b = nodesD (a ++ b) := by simp [nodesD_map]
theorem nodes_rows (l : List Node) : ∀ row ∈ dRows (nodesD l), row.length = 4 ∧ ∀ x ∈ row, x.one = true := by
  intro row h
  obtain ⟨r, hr, rfl⟩ := List.mem_map.1 h
  rw [nodesD_map] at hr
  obtain ⟨n, _, rfl⟩ := List.mem_map.1 hr
  rw [nodeD_eq]
  refine ⟨rfl, fun x hx => ?_⟩
  simp at hx
  rcases hx with rfl | rfl | rfl | rfl <;> rfl
theorem dRows_pure (l : List (List D)) : ∀ row ∈ dRows l, pureL row = true := by
  intro row h
  obtain ⟨r, hr, rfl⟩ := List.mem_map.1 h
  clear h hr
  induction r with
  | nil => rfl
  | cons x r ih => exact ih

set_option maxHeartbeats 1000000 in
set_option maxRecDepth 100000 in
theorem SerParts_ok (a b : List Node) (nm : List UInt8) : PureC Try.prog 4 [.d (.sl (nodesD a)), .d (.sl (nodesD b)), .d (.str nm)] (.d (.bool true)) := by
  refine PureC.of rfl rfl (fn_okTE Try.wf Try.tab_ok Try.func4 (by decide +kernel) rfl rfl ?_)
  have ha := nodesD_len a
  have hb := nodesD_len b
  refine E.seq (E.of Try.wf Try.tab_ok ?_)
  refine E.seq (E.of Try.wf Try.tab_ok ?_)
  refine PureC.use awake_ok ?_
  refine E.seq (E.of Try.wf Try.tab_ok ?_)
  refine (Light_ok a).mono ?_
  rintro _ _ ⟨⟨x, rfl, hx⟩, rfl⟩
  refine E.seq (E.of Try.wf Try.tab_ok ?_)
  refine (Light_ok b).mono ?_
  rintro _ _ ⟨⟨y, rfl, hy⟩, rfl⟩
  have up : ∀ σ : Store, ∃ r2 σ2, FinMove ⟨0, []⟩ (AV.d (.bool true)) σ r2 σ2 ∧ r2 = AV.d (.bool true) ∧ σ2.n = 0 := fun σ => ⟨_, _, fin_out rfl, rfl, rfl⟩
  refine midT Try.wf Try.tab_ok (fun s' σ => x = true ∧ y = true ∧ 1 ≤ nm.length ∧ nm.length ≤ 100 ∧ s' = [(0, .d (.sl (nodesD a))), (1, .d (.sl (nodesD b))), (2, .d (.str nm)), (7, .d (.bool true))] ∧ σ = ⟨0, []⟩) ?_ ?_
  · cases x with
    | false =>
      repeat (first | refine ⟨fun _ => ?_, fun h => absurd h (by decide)⟩ | refine ⟨fun h => absurd h (by decide), fun _ => ?_⟩)
      exact up _
    | true =>
      repeat (first | refine ⟨fun _ => ?_, fun h => absurd h (by decide)⟩ | refine ⟨fun h => absurd h (by decide), fun _ => ?_⟩)
      cases y with
      | false =>
        repeat (first | refine ⟨fun _ => ?_, fun h => absurd h (by decide)⟩ | refine ⟨fun h => absurd h (by decide), fun _ => ?_⟩)
        exact up _
      | true =>
        repeat (first | refine ⟨fun _ => ?_, fun h => absurd h (by decide)⟩ | refine ⟨fun h => absurd h (by decide), fun _ => ?_⟩)
        by_cases h1 : nm.length = 0
        · repeat (first | refine ⟨fun _ => ?_, fun h => absurd (of_decide_eq_false h) (by omega)⟩ | refine ⟨fun h => absurd (of_decide_eq_true h) (by omega), fun _ => ?_⟩ | refine ⟨fun _ => ?_, fun h => absurd (of_decide_eq_true h) (by omega)⟩ | refine ⟨fun h => absurd (of_decide_eq_false h) (by omega), fun _ => ?_⟩ | refine .inl ⟨⟨by omega, by omega⟩, ?_⟩ | refine ⟨⟨by omega, by omega⟩, ?_⟩)
          repeat (first | refine ⟨fun _ => ?_, fun h => absurd h (by decide)⟩ | refine ⟨fun h => absurd h (by decide), fun _ => ?_⟩)
          exact up _
        · by_cases h2 : nm.length ≤ 100
          · repeat (first | refine ⟨fun _ => ?_, fun h => absurd (of_decide_eq_false h) (by omega)⟩ | refine ⟨fun h => absurd (of_decide_eq_true h) (by omega), fun _ => ?_⟩ | refine ⟨fun _ => ?_, fun h => absurd (of_decide_eq_true h) (by omega)⟩ | refine ⟨fun h => absurd (of_decide_eq_false h) (by omega), fun _ => ?_⟩ | refine .inl ⟨⟨by omega, by omega⟩, ?_⟩ | refine ⟨⟨by omega, by omega⟩, ?_⟩)
            exact ⟨_, _, ⟨rfl, rfl, by omega, h2, rfl, rfl⟩, Mv.of [] rfl rfl rfl trivial ⟨rfl, rfl, rfl, rfl, trivial⟩⟩
          · repeat (first | refine ⟨fun _ => ?_, fun h => absurd (of_decide_eq_false h) (by omega)⟩ | refine ⟨fun h => absurd (of_decide_eq_true h) (by omega), fun _ => ?_⟩ | refine ⟨fun _ => ?_, fun h => absurd (of_decide_eq_true h) (by omega)⟩ | refine ⟨fun h => absurd (of_decide_eq_false h) (by omega), fun _ => ?_⟩ | refine .inl ⟨⟨by omega, by omega⟩, ?_⟩ | refine ⟨⟨by omega, by omega⟩, ?_⟩)
            exact up _
  rintro _ _ ⟨rfl, rfl, h1, h2, rfl, rfl⟩
  have hwa := hx rfl
  have hwb := hy rfl
  have hza := sz_len a
  have hzb := sz_len b
  have hsa := sz_wtL a
  have hsb := sz_wtL b
  have hla : (dRows (nodesD a)).length = a.length := by rw [List.length_map, ha]
  have hlb : (dRows (nodesD b)).length = b.length := by rw [List.length_map, hb]
  refine midE (fun s' σ => s' = [(0, .d (.sl (nodesD a))), (1, .d (.sl (nodesD b))), (2, .d (.str nm)), (7, .d (.bool true)), (10, .d (.sl (nodesD (a ++ b))))] ∧ σ = ⟨0, []⟩) ?_ ?_
  · refine textT Try.wf Try.tab_ok ?_
    refine pstep (r := .own 0 0 0) ⟨1, [(0, .rows (4, 29) [])]⟩ rfl rfl (FinMove.refl _ _ _) ?_
    refine pstep _ rfl rfl (FinMove.refl _ _ _) ?_
    refine pstep (r := .own 1 0 (0 + (dRows (nodesD a)).length)) ⟨2, [(1, .rows (4, 29) (dRows (nodesD a)))]⟩ rfl rfl ?_ ?_
    · refine ⟨[], dRows (nodesD a), rfl, rfl, rfl, trivial, (by rw [hla]; show (0 + a.length) * 80 ≤ _; omega), Nat.le_of_ble_eq_true rfl, Nat.le_of_ble_eq_true rfl, rfl, rfl, rowsNone, nodes_rows a, ?_⟩
      show FinMove (⟨1, [(0, .rows (4, 29) [])]⟩ : Store) (.own 1 0 (0 + (dRows (nodesD a)).length)) ⟨2, [(1, .rows (4, 29) ([] ++ dRows (nodesD a))), (0, .dead), (0, .rows (4, 29) [])]⟩ (.own 1 0 (0 + (dRows (nodesD a)).length)) ⟨2, [(1, .rows (4, 29) (dRows (nodesD a)))]⟩
      exact fin_mv [.old 1] rfl rfl rfl ⟨⟨rfl, .inl ⟨rfl, dRows_pure _⟩⟩, trivial⟩ ⟨rfl, rfl, rfl⟩
    refine pstep _ rfl rfl (FinMove.refl _ _ _) ?_
    refine pstep (r := .d (.sl (nodesD (a ++ b)))) ⟨2, []⟩ rfl rfl ?_ ?_
    · refine ⟨dRows (nodesD a), dRows (nodesD b), congrArg some (takeAll (Nat.zero_add _).symm), rfl, (by dsimp only [ev, putS, look, Nat.beq]; exact (show srcLen (.own 1 0 (0 + (dRows (nodesD a)).length)) (dRows (nodesD a)).length from (Nat.zero_add _).symm)), trivial, (by rw [hla, hlb]; show (a.length + b.length) * 80 ≤ _; omega), Nat.le_of_ble_eq_true rfl, Nat.le_of_ble_eq_true rfl, rfl, rfl, nodes_rows a, nodes_rows b, ?_⟩
      show FinMove (⟨2, [(1, .rows (4, 29) (dRows (nodesD a)))]⟩ : Store) (.own 2 0 ((dRows (nodesD a)).length + (dRows (nodesD b)).length)) ⟨3, [(2, .rows (4, 29) (dRows (nodesD a) ++ dRows (nodesD b))), (1, .dead), (1, .rows (4, 29) (dRows (nodesD a)))]⟩ (.d (.sl (nodesD (a ++ b)))) ⟨2, []⟩
      have hrd : rowsD (dRows (nodesD a) ++ dRows (nodesD b)) = some (nodesD (a ++ b)) := by rw [dRows_append, nodes_append, rowsD_map]
      have h1 := fin_freeze (σ0 := (⟨2, [(1, .rows (4, 29) (dRows (nodesD a)))]⟩ : Store)) (r := .own 2 0 ((dRows (nodesD a)).length + (dRows (nodesD b)).length)) (σ := ⟨3, [(2, .rows (4, 29) (dRows (nodesD a) ++ dRows (nodesD b))), (1, .dead), (1, .rows (4, 29) (dRows (nodesD a)))]⟩) 2 rfl hrd (fun _ => by simp)
      rw [frz_whole 2 _ _ (by rw [hla, hlb, nodesD_len, List.length_append])] at h1
      exact h1.trans (fin_mv [] rfl rfl rfl trivial rfl)
    refine pstep _ rfl rfl (FinMove.refl _ _ _) ?_
    exact ⟨_, _, ⟨rfl, rfl⟩, Mv.of [] rfl rfl rfl trivial ⟨rfl, rfl, rfl, rfl, rfl, trivial⟩⟩
  rintro _ _ ⟨rfl, rfl⟩
  have hne : nm ≠ [] := by rintro rfl; simp at h1
  have hab := wtL_append a b
  have hsab := sz_wtL (a ++ b)
  have hta := ht_wtL a
  have htb := ht_wtL b
  have htab := ht_wtL (a ++ b)
  have hwo : wtL [.mk nm [] [] a] = 1 + nm.length + wtL a := by simp [wtL, wtN, wtA]
  have hso := sz_wtL [.mk nm [] [] a]
  have hto := ht_wtL [.mk nm [] [] a]
  have c1 := HTML_ok (a ++ b) (Sh_wtL _ (by omega)) (by omega) (by omega)
  have c2 := HTML_ok a (Sh_wtL _ (by omega)) (by omega) (by omega)
  have c3 := HTML_ok b (Sh_wtL _ (by omega)) (by omega) (by omega)
  have c4 := HTML_ok [.mk nm [] [] a] (Sh_wtL _ (by omega)) (by omega) (by omega)
  have c5 := Void_ok nm
  have eo : htL [.mk nm [] [] a] = [60] ++ nm ++ [62] ++ (if nm ∈ voids then [] else htL a ++ ([60, 47] ++ nm ++ [62])) := by
    simp [htL, htN, hne, attrsH]
  rw [htL_append] at c1
  rw [eo] at c4
  refine E.seq (E.of Try.wf Try.tab_ok ?_)
  refine PureC.use c1 (PureC.use c2 (PureC.use c3 ?_))
  refine ⟨by omega, ?_⟩
  refine ⟨fun h => absurd h (by simp), fun _ => ?_⟩
  refine E.seq (textT Try.wf Try.tab_ok ?_)
  refine pstep _ rfl rfl (FinMove.refl _ _ _) ?_
  refine pstep _ rfl rfl (FinMove.refl _ _ _) ?_
  refine pstep _ rfl rfl (FinMove.refl _ _ _) ?_
  refine pstep (r := .d (.sl (nodesD [.mk nm [] [] a]))) ⟨0, []⟩ rfl rfl (fin_lit rfl rfl rfl trivial) ?_
  refine pstep _ rfl rfl (PureC.use c4 (FinMove.refl _ _ _)) ?_
  refine pstep _ rfl rfl (FinMove.refl _ _ _) ?_
  refine E.of Try.wf Try.tab_ok ?_
  refine PureC.use c5 ?_
  by_cases hv : nm ∈ voids
  · rw [decide_eq_true hv, if_pos hv]
    repeat (first | refine ⟨fun _ => ?_, fun h => absurd h (by decide)⟩ | refine ⟨fun h => absurd h (by decide), fun _ => ?_⟩)
    refine ⟨by simp only [List.length_append, List.length_cons, List.length_nil]; omega, ?_⟩
    refine ⟨by simp only [List.length_append, List.length_cons, List.length_nil]; omega, ?_⟩
    exact ⟨_, _, fin_out rfl, congrArg (fun b => AV.d (.bool b)) (by simp), rfl⟩
  · rw [decide_eq_false hv, if_neg hv]
    repeat (first | refine ⟨fun _ => ?_, fun h => absurd h (by decide)⟩ | refine ⟨fun h => absurd h (by decide), fun _ => ?_⟩)
    refine ⟨by simp only [List.length_append, List.length_cons, List.length_nil]; omega, ?_⟩
    refine ⟨by simp only [List.length_append, List.length_cons, List.length_nil]; omega, ?_⟩
    refine PureC.use c2 ?_
    refine ⟨by simp only [List.length_append, List.length_cons, List.length_nil]; omega, ?_⟩
    refine ⟨by simp only [List.length_append, List.length_cons, List.length_nil]; omega, ?_⟩
    refine ⟨by simp only [List.length_append, List.length_cons, List.length_nil]; omega, ?_⟩
    refine ⟨by simp only [List.length_append, List.length_cons, List.length_nil]; omega, ?_⟩
    exact ⟨_, _, fin_out rfl, congrArg (fun b => AV.d (.bool b)) (by simp), rfl⟩

theorem SerParts_law {n m o : Nat} {r q p : List D} (h : DOk Try.prog n 22 r) (k : DOk Try.prog m 22 q) (j : DOk Try.prog o 9 p) : PureC Try.prog 4 [argAV Try.prog 22 r, argAV Try.prog 22 q, argAV Try.prog 9 p] (.d (.bool true)) := by
  obtain ⟨l, rfl⟩ := dok_nodes n h
  obtain ⟨l2, rfl⟩ := dok_nodes m k
  obtain ⟨s, rfl, _⟩ := dok_str j
  rw [arg_nodes, arg_nodes, arg_str]; exact SerParts_ok l l2 s

end Go.Proofs.Ytcmkiancbgmmhaa
