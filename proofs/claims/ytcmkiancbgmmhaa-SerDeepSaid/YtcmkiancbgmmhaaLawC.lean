import Derived.Test.YtcmkiancbgmmhaaSerI
namespace Go.Proofs.Ytcmkiancbgmmhaa
open Go.Aw

/-- So many elements within one another, a text within the last. -/
def nest (nm : List UInt8) : Nat → List Node
  | 0 => [.mk [] [] [120] []]
  | k + 1 => [.mk nm [] [] (nest nm k)]
theorem nest_sz (nm : List UInt8) : ∀ k, szL (nest nm k) = k + 1
  | 0 => by simp [nest, szL, szN]
  | k + 1 => by have := nest_sz nm k; simp only [nest, szL, szN]; omega
theorem nest_dp (nm : List UInt8) (h : nm ≠ []) : ∀ k, dpL (nest nm k) = k
  | 0 => by simp [nest, dpL, dpN]
  | k + 1 => by have := nest_dp nm h k; simp only [nest, dpL, dpN, if_neg h]; omega
theorem nest_Sh (nm : List UInt8) (h : nm.length ≤ 1000000000) : ∀ k, ShL (nest nm k)
  | 0 => by simp [nest, ShL, ShN, Short]
  | k + 1 => by
    have := nest_Sh nm h k
    simp only [nest, ShL, ShN]
    exact ⟨⟨h, ⟨Nat.zero_le _, fun _ h => by cases h⟩, Nat.zero_le _, this⟩, trivial⟩
theorem nest_st (nm : List UInt8) (hs : small nm [45] = true) (hr : rawB nm = false) (hv : nm ∉ voids) (hb : nm ∉ blocks) : ∀ k, stL false false false (nest nm k) = true
  | 0 => (by decide +kernel : stL false false false [.mk [] [] [120] []] = true)
  | k + 1 => by
    have ih := nest_st nm hs hr hv hb k
    have hne : nm ≠ [] := by rintro rfl; cases hs
    have h1 : nm ≠ [112] := by rintro rfl; exact hb (by decide)
    have h2 : nm ≠ [108, 105] := by rintro rfl; exact hb (by decide)
    have h3 : nm ≠ [117, 108] := by rintro rfl; exact hb (by decide)
    have h4 : nm ≠ [111, 108] := by rintro rfl; exact hb (by decide)
    have hl : inLi false nm = false := by unfold inLi; rw [if_neg h2, if_neg (fun h => h.elim h3 h4)]
    have ho : ownB (.mk nm [] [] (nest nm k)) = true := by
      simp [ownB, Node.name, Node.attrs, Node.text, Node.kids, hs, hr, hv, attrsFrom]
    rw [nest, stL_cons, if_neg (show (Node.mk nm [] [] (nest nm k)).name ≠ [] from hne), stN_eq, ho]
    show (true && !(false && decide (nm ∈ blocks)) && !(false && decide (nm = [108, 105])) && stL false (false || decide (nm = [112])) (inLi false nm) (nest nm k)) && stL false false false [] = true
    rw [decide_eq_false h1, hl, Bool.false_or, ih]
    simp [stL]
theorem nest_stable (nm : List UInt8) (hs : small nm [45] = true) (hr : rawB nm = false) (hv : nm ∉ voids) (hb : nm ∉ blocks) (k : Nat) (hk : k ≤ 80) : stableB (nest nm k) = decide (k ≤ 64) := by
  have hne : nm ≠ [] := by rintro rfl; cases hs
  unfold stableB
  rw [nest_sz, nest_dp nm hne, nest_st nm hs hr hv hb, decide_eq_true (show k + 1 ≤ 2000 by omega)]
  simp

set_option maxHeartbeats 1000000 in
set_option maxRecDepth 100000 in
theorem SerDeep_ok (n : Int) (nm : List UInt8) (hnl : nm.length ≤ 140737488351232) : PureC Try.prog 6 [.d (.int .i64 n), .d (.str nm)] (.d (.bool true)) := by
  refine PureC.of rfl rfl (fn_okTE Try.wf Try.tab_ok Try.func6 (by decide +kernel) rfl rfl ?_)
  have c1 := Element_ok nm (by omega)
  have c2 := Void_ok nm
  have c3 := Block_ok nm
  refine E.seq (E.of Try.wf Try.tab_ok ?_)
  refine E.seq (E.of Try.wf Try.tab_ok ?_)
  refine PureC.use awake_ok ?_
  refine E.seq (E.of Try.wf Try.tab_ok ?_)
  refine PureC.use c1 ?_
  refine midT Try.wf Try.tab_ok (fun s' σ => 1 ≤ n ∧ n ≤ 80 ∧ small nm [45] = true ∧ rawB nm = false ∧ nm.length ≤ 50 ∧ nm ∉ voids ∧ nm ∉ blocks ∧ s' = [(0, .d (.int .i64 n)), (1, .d (.str nm)), (5, .d (.bool true))] ∧ σ = ⟨0, []⟩) ?_ ?_
  · have up : ∀ σ : Store, ∃ r2 σ2, FinMove ⟨0, []⟩ (AV.d (.bool true)) σ r2 σ2 ∧ r2 = AV.d (.bool true) ∧ σ2.n = 0 := fun σ => ⟨_, _, fin_out rfl, rfl, rfl⟩
    by_cases h1 : 1 ≤ n
    · by_cases h2 : n ≤ 80
      · repeat (first | refine ⟨fun _ => ?_, fun h => absurd (of_decide_eq_false h) (by omega)⟩ | refine ⟨fun h => absurd (of_decide_eq_true h) (by omega), fun _ => ?_⟩ | refine ⟨fun _ => ?_, fun h => absurd (of_decide_eq_true h) (by omega)⟩ | refine ⟨fun h => absurd (of_decide_eq_false h) (by omega), fun _ => ?_⟩ | refine .inl ⟨⟨by omega, by omega⟩, ?_⟩ | refine ⟨⟨by omega, by omega⟩, ?_⟩)
        cases h3 : (small nm [45] && !rawB nm) with
        | false =>
          repeat (first | refine ⟨fun _ => ?_, fun h => absurd h (by decide)⟩ | refine ⟨fun h => absurd h (by decide), fun _ => ?_⟩)
          exact up _
        | true =>
          repeat (first | refine ⟨fun _ => ?_, fun h => absurd h (by decide)⟩ | refine ⟨fun h => absurd h (by decide), fun _ => ?_⟩)
          rw [Bool.and_eq_true] at h3
          by_cases h4 : nm.length ≤ 50
          · repeat (first | refine ⟨fun _ => ?_, fun h => absurd (of_decide_eq_false h) (by omega)⟩ | refine ⟨fun h => absurd (of_decide_eq_true h) (by omega), fun _ => ?_⟩ | refine ⟨fun _ => ?_, fun h => absurd (of_decide_eq_true h) (by omega)⟩ | refine ⟨fun h => absurd (of_decide_eq_false h) (by omega), fun _ => ?_⟩ | refine .inl ⟨⟨by omega, by omega⟩, ?_⟩ | refine ⟨⟨by omega, by omega⟩, ?_⟩)
            refine PureC.use c2 ?_
            by_cases h5 : nm ∈ voids
            · rw [decide_eq_true h5]
              repeat (first | refine ⟨fun _ => ?_, fun h => absurd h (by decide)⟩ | refine ⟨fun h => absurd h (by decide), fun _ => ?_⟩)
              exact up _
            · rw [decide_eq_false h5]
              repeat (first | refine ⟨fun _ => ?_, fun h => absurd h (by decide)⟩ | refine ⟨fun h => absurd h (by decide), fun _ => ?_⟩)
              refine PureC.use c3 ?_
              by_cases h6 : nm ∈ blocks
              · rw [decide_eq_true h6]
                repeat (first | refine ⟨fun _ => ?_, fun h => absurd h (by decide)⟩ | refine ⟨fun h => absurd h (by decide), fun _ => ?_⟩)
                exact up _
              · rw [decide_eq_false h6]
                repeat (first | refine ⟨fun _ => ?_, fun h => absurd h (by decide)⟩ | refine ⟨fun h => absurd h (by decide), fun _ => ?_⟩)
                exact ⟨_, _, ⟨h1, h2, h3.1, by simpa using h3.2, h4, h5, h6, rfl, rfl⟩, Mv.of [] rfl rfl rfl trivial ⟨rfl, rfl, rfl, trivial⟩⟩
          · repeat (first | refine ⟨fun _ => ?_, fun h => absurd (of_decide_eq_false h) (by omega)⟩ | refine ⟨fun h => absurd (of_decide_eq_true h) (by omega), fun _ => ?_⟩ | refine ⟨fun _ => ?_, fun h => absurd (of_decide_eq_true h) (by omega)⟩ | refine ⟨fun h => absurd (of_decide_eq_false h) (by omega), fun _ => ?_⟩ | refine .inl ⟨⟨by omega, by omega⟩, ?_⟩ | refine ⟨⟨by omega, by omega⟩, ?_⟩)
            repeat (first | refine ⟨fun _ => ?_, fun h => absurd h (by decide)⟩ | refine ⟨fun h => absurd h (by decide), fun _ => ?_⟩)
            exact up _
      · repeat (first | refine ⟨fun _ => ?_, fun h => absurd (of_decide_eq_false h) (by omega)⟩ | refine ⟨fun h => absurd (of_decide_eq_true h) (by omega), fun _ => ?_⟩ | refine ⟨fun _ => ?_, fun h => absurd (of_decide_eq_true h) (by omega)⟩ | refine ⟨fun h => absurd (of_decide_eq_false h) (by omega), fun _ => ?_⟩ | refine .inl ⟨⟨by omega, by omega⟩, ?_⟩ | refine ⟨⟨by omega, by omega⟩, ?_⟩)
        repeat (first | refine ⟨fun _ => ?_, fun h => absurd h (by decide)⟩ | refine ⟨fun h => absurd h (by decide), fun _ => ?_⟩)
        exact up _
    · repeat (first | refine ⟨fun _ => ?_, fun h => absurd (of_decide_eq_false h) (by omega)⟩ | refine ⟨fun h => absurd (of_decide_eq_true h) (by omega), fun _ => ?_⟩ | refine ⟨fun _ => ?_, fun h => absurd (of_decide_eq_true h) (by omega)⟩ | refine ⟨fun h => absurd (of_decide_eq_false h) (by omega), fun _ => ?_⟩ | refine .inl ⟨⟨by omega, by omega⟩, ?_⟩ | refine ⟨⟨by omega, by omega⟩, ?_⟩)
      repeat (first | refine ⟨fun _ => ?_, fun h => absurd h (by decide)⟩ | refine ⟨fun h => absurd h (by decide), fun _ => ?_⟩)
      exact up _
  rintro _ _ ⟨h1, h2, h3, h4, h5, h6, h7, rfl, rfl⟩
  refine E.seq (textT Try.wf Try.tab_ok ?_)
  refine pstep _ rfl rfl (FinMove.refl _ _ _) ?_
  refine pstep (r := .d (.sl (nodesD (nest nm 0)))) ⟨0, []⟩ rfl rfl (fin_lit rfl rfl rfl trivial) ?_
  refine pstep _ rfl rfl (FinMove.refl _ _ _) ?_
  refine midE (fun s' σ => s' = [(0, .d (.int .i64 n)), (5, .d (.bool true)), (7, .d (.sl (nodesD (nest nm n.toNat))))] ∧ σ = ⟨0, []⟩) ?_ ?_
  · refine E.seq (E.of Try.wf Try.tab_ok ?_)
    refine blockE ?_
    refine loopE (fun m s' σ => ∃ (k : Nat), m = n.toNat - k ∧ k ≤ n.toNat ∧ s' = [(0, .d (.int .i64 n)), (1, .d (.str nm)), (5, .d (.bool true)), (7, .d (.sl (nodesD (nest nm k)))), (8, .d (.int .i64 k))] ∧ σ = ⟨0, []⟩)
      ⟨0, rfl, Nat.zero_le _, rfl, rfl⟩ ?_ ?_
    · exact Mv.of [] rfl rfl rfl trivial ⟨rfl, rfl, rfl, rfl, rfl, trivial⟩
    rintro _ _ _ ⟨k, rfl, hk, rfl, rfl⟩
    refine E.seq (E.of Try.wf Try.tab_ok ?_)
    by_cases hlt : k < n.toNat
    · repeat (first | refine ⟨fun _ => ?_, fun h => absurd (of_decide_eq_false h) (by omega)⟩ | refine ⟨fun h => absurd (of_decide_eq_true h) (by omega), fun _ => ?_⟩ | refine ⟨fun _ => ?_, fun h => absurd (of_decide_eq_true h) (by omega)⟩ | refine ⟨fun h => absurd (of_decide_eq_false h) (by omega), fun _ => ?_⟩ | refine .inl ⟨⟨by omega, by omega⟩, ?_⟩ | refine ⟨⟨by omega, by omega⟩, ?_⟩)
      refine E.seq (blockE (textT Try.wf Try.tab_ok ?_))
      refine pstep _ rfl rfl (FinMove.refl _ _ _) ?_
      refine pstep _ rfl rfl (FinMove.refl _ _ _) ?_
      refine pstep _ rfl rfl (FinMove.refl _ _ _) ?_
      refine pstep (r := .d (.sl (nodesD (nest nm (k + 1))))) ⟨0, []⟩ rfl rfl (fin_lit rfl rfl rfl trivial) ?_
      refine pstep _ rfl rfl (FinMove.refl _ _ _) ?_
      refine E.of Try.wf Try.tab_ok ?_
      repeat (first | refine ⟨fun _ => ?_, fun h => absurd (of_decide_eq_false h) (by omega)⟩ | refine ⟨fun h => absurd (of_decide_eq_true h) (by omega), fun _ => ?_⟩ | refine ⟨fun _ => ?_, fun h => absurd (of_decide_eq_true h) (by omega)⟩ | refine ⟨fun h => absurd (of_decide_eq_false h) (by omega), fun _ => ?_⟩ | refine .inl ⟨⟨by omega, by omega⟩, ?_⟩ | refine ⟨⟨by omega, by omega⟩, ?_⟩)
      exact ⟨_, _, _, ⟨k + 1, rfl, hlt, rfl, rfl⟩, by omega, Mv.of [] rfl rfl rfl trivial ⟨rfl, rfl, rfl, rfl, rfl, trivial⟩⟩
    · repeat (first | refine ⟨fun _ => ?_, fun h => absurd (of_decide_eq_false h) (by omega)⟩ | refine ⟨fun h => absurd (of_decide_eq_true h) (by omega), fun _ => ?_⟩ | refine ⟨fun _ => ?_, fun h => absurd (of_decide_eq_true h) (by omega)⟩ | refine ⟨fun h => absurd (of_decide_eq_false h) (by omega), fun _ => ?_⟩ | refine .inl ⟨⟨by omega, by omega⟩, ?_⟩ | refine ⟨⟨by omega, by omega⟩, ?_⟩)
      obtain rfl : k = n.toNat := by omega
      exact ⟨_, _, ⟨rfl, rfl⟩, Mv.of [] rfl rfl rfl trivial ⟨rfl, rfl, rfl, trivial⟩⟩
  rintro _ _ ⟨rfl, rfl⟩
  have c4 := Stable_ok (nest nm n.toNat) (by rw [nest_sz]; omega) (nest_Sh nm (by omega) _)
  rw [nest_stable nm h3 h4 h6 h7 _ (by omega)] at c4
  refine E.of Try.wf Try.tab_ok ?_
  repeat (first | refine ⟨fun _ => ?_, fun h => absurd h (by decide)⟩ | refine ⟨fun h => absurd h (by decide), fun _ => ?_⟩)
  refine PureC.use c4 ?_
  refine ⟨_, _, fin_out rfl, congrArg (fun b => AV.d (.bool b)) ?_, rfl⟩
  have e : decide (n ≤ 64) = decide (n.toNat ≤ 64) := by rw [decide_eq_decide]; omega
  show (decide (n.toNat ≤ 64) == decide (n ≤ 64)) = true
  rw [e]; simp

theorem SerDeep_law {n m : Nat} {r q : List D} (h : DOk Try.prog n 3 r) (k : DOk Try.prog m 9 q) : PureC Try.prog 6 [argAV Try.prog 3 r, argAV Try.prog 9 q] (.d (.bool true)) := by
  obtain ⟨x, rfl, _, _⟩ := dok_int h
  obtain ⟨s, rfl, hs⟩ := dok_str k
  rw [arg_int, arg_str]; exact SerDeep_ok x s hs

end Go.Proofs.Ytcmkiancbgmmhaa
