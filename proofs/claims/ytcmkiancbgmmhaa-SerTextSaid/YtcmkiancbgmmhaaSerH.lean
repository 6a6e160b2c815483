import Derived.Test.YtcmkiancbgmmhaaSerD
namespace Go.Proofs.Ytcmkiancbgmmhaa
open Go.Aw
set_option maxHeartbeats 1600000
set_option linter.unusedSimpArgs false
set_option linter.unusedVariables false

def wtA (l : List (List UInt8 × List UInt8)) : Nat := (l.map fun a => 1 + a.1.length + a.2.length).sum
mutual
def wtN : Node → Nat
  | .mk nm a t k => 1 + nm.length + t.length + wtA a + wtL k
def wtL : List Node → Nat
  | [] => 0
  | n :: r => wtN n + wtL r
end
theorem wtN_eq (n : Node) : wtN n = 1 + n.name.length + n.text.length + wtA n.attrs + wtL n.kids := by cases n; unfold wtN; rfl
theorem wtL_cons (n : Node) (r : List Node) : wtL (n :: r) = wtN n + wtL r := by rw [wtL]
theorem wtL_append : ∀ a b : List Node, wtL (a ++ b) = wtL a + wtL b
  | [], b => by rw [wtL, List.nil_append, Nat.zero_add]
  | n :: r, b => by rw [List.cons_append, wtL_cons, wtL_cons, wtL_append r b, Nat.add_assoc]
theorem wtL_take (l : List Node) (k : Nat) (h : k < l.length) : wtL (l.take (k + 1)) = wtL (l.take k) + wtN l[k] := by
  rw [List.take_succ_eq_append_getElem h, wtL_append, wtL_cons]; simp [wtL]
theorem wtA_take (l : List (List UInt8 × List UInt8)) (k : Nat) (h : k < l.length) : wtA (l.take (k + 1)) = wtA (l.take k) + (1 + l[k].1.length + l[k].2.length) := by
  unfold wtA
  rw [List.take_succ_eq_append_getElem h, List.map_append, List.sum_append]; rfl
theorem min_is (n : Nat) : ∃ m : Nat, (if (20000 : Int) < ((n : Nat) : Int) then (20000 : Int) else ((n : Nat) : Int)) = ((m : Nat) : Int) ∧ m ≤ 20000 ∧ (m < 20000 → m = n) := by
  by_cases h : (20000 : Int) < ((n : Nat) : Int)
  · exact ⟨20000, by rw [if_pos h]; rfl, Nat.le_refl _, fun h => absurd h (by omega)⟩
  · exact ⟨n, by rw [if_neg h], by omega, fun _ => rfl⟩

set_option maxHeartbeats 1000000 in
set_option maxRecDepth 100000 in
theorem weight_ok (N : Nat) : ∀ (l : List Node) (d : Nat), szL l ≤ N → d ≤ 81 → CallsAbs Try.prog 26 [.d (.sl (nodesD l)), .d (.int .i64 d)] ⟨0, []⟩ fun r σ' => (∃ x : Nat, r = .d (.int .i64 x) ∧ x ≤ 20000 + 90000 * (81 - d) ∧ (x < 20000 → x = wtL l)) ∧ σ' = ⟨0, []⟩ := by
  induction N using Nat.strongRecOn with
  | ind N ih =>
  intro l d hN hd
  refine fn_okTE Try.wf Try.tab_ok Try.func26 (by decide +kernel) rfl rfl ?_
  have hn := nodesD_len l
  refine E.seq (E.of Try.wf Try.tab_ok ?_)
  refine E.seq (E.of Try.wf Try.tab_ok ?_)
  refine E.seq (E.of Try.wf Try.tab_ok ?_)
  refine loopE (fun m s' σ => ∃ (k w : Nat), m = l.length - k ∧ k ≤ l.length ∧ k ≤ w ∧ w ≤ 20000 + 90000 * (81 - d) ∧ (w < 20000 → w = wtL (l.take k)) ∧ s' = [(0, .d (.sl (nodesD l))), (1, .d (.int .i64 d)), (5, .d (.int .i64 w)), (6, .d (.int .i64 k))] ∧ σ = ⟨0, []⟩)
    ⟨0, 0, rfl, Nat.zero_le _, Nat.zero_le _, Nat.zero_le _, fun _ => by simp [wtL], rfl, rfl⟩ (Mv.of [] rfl rfl rfl trivial ⟨rfl, rfl, rfl, rfl, trivial⟩) ?_
  rintro _ _ _ ⟨k, w, rfl, hk, hkw, hwB, hw, rfl, rfl⟩
  have done : ∀ (x : Nat) (σ : Store), x ≤ 20000 + 90000 * (81 - d) → (x < 20000 → x = wtL l) → ∃ r2 σ2, FinMove ⟨0, []⟩ (AV.d (.int .i64 (x : Int))) σ r2 σ2 ∧ ((∃ x : Nat, r2 = .d (.int .i64 x) ∧ x ≤ 20000 + 90000 * (81 - d) ∧ (x < 20000 → x = wtL l)) ∧ σ2 = ⟨0, []⟩) := fun x σ h1 h2 => ⟨_, _, fin_out rfl, ⟨x, rfl, h1, h2⟩, rfl⟩
  refine E.seq (E.of Try.wf Try.tab_ok ?_)
  by_cases hlt : k < l.length
  · by_cases hw2 : w < 20000
    · have hwk := hw hw2
      repeat (first | refine ⟨fun _ => ?_, fun h => absurd (of_decide_eq_false h) (by omega)⟩ | refine ⟨fun h => absurd (of_decide_eq_true h) (by omega), fun _ => ?_⟩ | refine ⟨fun _ => ?_, fun h => absurd (of_decide_eq_true h) (by omega)⟩ | refine ⟨fun h => absurd (of_decide_eq_false h) (by omega), fun _ => ?_⟩ | refine .inl ⟨⟨by omega, by omega⟩, ?_⟩ | refine ⟨⟨by omega, by omega⟩, ?_⟩)
      have hget := nodesD_get l k hlt
      have hks := kids_lt (List.getElem_mem hlt)
      have htk := wtL_take l k hlt
      have hne := wtN_eq l[k]
      have hal := attrsD_len l[k].attrs
      refine E.seq (blockE ?_)
      by_cases hdd : d = 81
      · subst hdd
        refine E.seq (E.of Try.wf Try.tab_ok ?_)
        repeat (first | refine ⟨fun _ => ?_, fun h => absurd (of_decide_eq_false h) (by omega)⟩ | refine ⟨fun h => absurd (of_decide_eq_true h) (by omega), fun _ => ?_⟩ | refine ⟨fun _ => ?_, fun h => absurd (of_decide_eq_true h) (by omega)⟩ | refine ⟨fun h => absurd (of_decide_eq_false h) (by omega), fun _ => ?_⟩ | refine .inl ⟨⟨by omega, by omega⟩, ?_⟩ | refine ⟨⟨by omega, by omega⟩, ?_⟩)
        exact done 20000 _ (by omega) (fun h => absurd h (by omega))
      · refine E.seq (E.of Try.wf Try.tab_ok ?_)
        repeat (first | refine ⟨fun _ => ?_, fun h => absurd (of_decide_eq_false h) (by omega)⟩ | refine ⟨fun h => absurd (of_decide_eq_true h) (by omega), fun _ => ?_⟩ | refine ⟨fun _ => ?_, fun h => absurd (of_decide_eq_true h) (by omega)⟩ | refine ⟨fun h => absurd (of_decide_eq_false h) (by omega), fun _ => ?_⟩ | refine .inl ⟨⟨by omega, by omega⟩, ?_⟩ | refine ⟨⟨by omega, by omega⟩, ?_⟩)
        obtain ⟨m1, e1, h1, g1⟩ := min_is l[k].name.length
        obtain ⟨m2, e2, h2, g2⟩ := min_is l[k].text.length
        refine E.seq (drawnT Try.wf Try.tab_ok Try.mixed (by decide +kernel) ?_)
        repeat (first | refine qstep rfl rfl (FinMove.refl _ _ _) ?_ | refine qstep rfl rfl ⟨_, rfl, FinMove.refl _ _ _⟩ ?_ | refine qstep rfl rfl ⟨_, rfl, _, rfl, FinMove.refl _ _ _⟩ ?_ | refine qstep rfl rfl ⟨by simp only [List.length_append, List.length_cons, List.length_nil]; omega, FinMove.refl _ _ _⟩ ?_)
        refine qstep rfl rfl (.inl ⟨⟨by omega, by omega⟩, FinMove.refl _ _ _⟩) ?_
        repeat (first | refine qstep rfl rfl (FinMove.refl _ _ _) ?_ | refine qstep rfl rfl ⟨_, rfl, FinMove.refl _ _ _⟩ ?_ | refine qstep rfl rfl ⟨_, rfl, _, rfl, FinMove.refl _ _ _⟩ ?_ | refine qstep rfl rfl ⟨by simp only [List.length_append, List.length_cons, List.length_nil]; omega, FinMove.refl _ _ _⟩ ?_)
        refine qstep rfl rfl ⟨⟨by omega, by omega⟩, _, hget, rfl, FinMove.refl _ _ _⟩ ?_
        refine qstep rfl rfl (FinMove.refl _ _ _) ?_
        refine qstep rfl rfl ⟨_, rfl, FinMove.refl _ _ _⟩ ?_
        refine qstep rfl rfl (FinMove.refl _ _ _) ?_
        refine qstep (r := .d (.int .i64 (m1 : Int))) rfl rfl (fin_eq (congrArg (fun x => AV.d (.int .i64 x)) e1)) ?_
        refine qstep rfl rfl (.inl ⟨⟨by omega, by omega⟩, FinMove.refl _ _ _⟩) ?_
        refine qstep rfl rfl (FinMove.refl _ _ _) ?_
        refine qstep rfl rfl (FinMove.refl _ _ _) ?_
        refine qstep rfl rfl ⟨⟨by omega, by omega⟩, _, hget, rfl, FinMove.refl _ _ _⟩ ?_
        refine qstep rfl rfl (FinMove.refl _ _ _) ?_
        refine qstep rfl rfl ⟨_, rfl, FinMove.refl _ _ _⟩ ?_
        refine qstep rfl rfl (FinMove.refl _ _ _) ?_
        refine qstep (r := .d (.int .i64 (m2 : Int))) rfl rfl (fin_eq (congrArg (fun x => AV.d (.int .i64 x)) e2)) ?_
        refine qstep rfl rfl (.inl ⟨⟨by omega, by omega⟩, FinMove.refl _ _ _⟩) ?_
        refine qstep rfl rfl (FinMove.refl _ _ _) ?_
        refine midE (fun s' σ => ∃ w3 : Nat, k + 1 ≤ w3 ∧ w3 ≤ 90000 ∧ (w3 < 20000 → w3 = wtL (l.take k) + (1 + l[k].name.length + l[k].text.length + wtA l[k].attrs)) ∧ s' = [(0, .d (.sl (nodesD l))), (1, .d (.int .i64 d)), (5, .d (.int .i64 w3)), (6, .d (.int .i64 k))] ∧ σ = ⟨0, []⟩) ?_ ?_
        · refine E.seq (E.of Try.wf Try.tab_ok ?_)
          refine blockE ?_
          refine loopE (fun m s' σ => ∃ (j w3 : Nat), m = l[k].attrs.length - j ∧ j ≤ l[k].attrs.length ∧ k + 1 ≤ w3 ∧ j ≤ w3 ∧ w3 ≤ 90000 ∧ (w3 < 20000 → w3 = wtL (l.take k) + (1 + l[k].name.length + l[k].text.length + wtA (l[k].attrs.take j))) ∧ s' = [(0, .d (.sl (nodesD l))), (1, .d (.int .i64 d)), (5, .d (.int .i64 w3)), (6, .d (.int .i64 k)), (7, .d (.int .i64 j))] ∧ σ = ⟨0, []⟩)
            ⟨0, w + 1 + m1 + m2, rfl, Nat.zero_le _, by omega, Nat.zero_le _, by omega, fun h => ?_, rfl, rfl⟩ ?_ ?_
          · have a1 := g1 (by omega)
            have a2 := g2 (by omega)
            rw [List.take_zero]
            show _ = _ + (_ + 0)
            omega
          · exact Mv.of [] rfl rfl rfl trivial ⟨rfl, rfl, rfl, rfl, rfl, trivial⟩
          rintro _ _ _ ⟨j, w3, rfl, hj, hkw3, hjw, hw3B, hw3, rfl, rfl⟩
          refine E.seq (E.of Try.wf Try.tab_ok ?_)
          by_cases hltj : j < l[k].attrs.length
          · refine ⟨⟨by omega, by omega⟩, _, hget, rfl, _, rfl, ?_⟩
            by_cases hw32 : w3 < 20000
            · have hwj := hw3 hw32
              repeat (first | refine ⟨fun _ => ?_, fun h => absurd (of_decide_eq_false h) (by omega)⟩ | refine ⟨fun h => absurd (of_decide_eq_true h) (by omega), fun _ => ?_⟩ | refine ⟨fun _ => ?_, fun h => absurd (of_decide_eq_true h) (by omega)⟩ | refine ⟨fun h => absurd (of_decide_eq_false h) (by omega), fun _ => ?_⟩ | refine .inl ⟨⟨by omega, by omega⟩, ?_⟩ | refine ⟨⟨by omega, by omega⟩, ?_⟩)
              have hgetj := attrsD_get l[k].attrs j hltj
              have hjk := wtA_take l[k].attrs j hltj
              obtain ⟨m3, e3, h3, g3⟩ := min_is l[k].attrs[j].1.length
              obtain ⟨m4, e4, h4, g4⟩ := min_is l[k].attrs[j].2.length
              refine E.seq (blockE (drawnT Try.wf Try.tab_ok Try.mixed (by decide +kernel) ?_))
              refine qstep rfl rfl (FinMove.refl _ _ _) ?_
              refine qstep rfl rfl (.inl ⟨⟨by omega, by omega⟩, FinMove.refl _ _ _⟩) ?_
              refine qstep rfl rfl (FinMove.refl _ _ _) ?_
              refine qstep rfl rfl (FinMove.refl _ _ _) ?_
              refine qstep rfl rfl ⟨⟨by omega, by omega⟩, _, hget, rfl, FinMove.refl _ _ _⟩ ?_
              refine qstep rfl rfl (FinMove.refl _ _ _) ?_
              refine qstep rfl rfl ⟨_, rfl, FinMove.refl _ _ _⟩ ?_
              refine qstep rfl rfl (FinMove.refl _ _ _) ?_
              refine qstep rfl rfl ⟨⟨by omega, by omega⟩, _, hgetj, rfl, FinMove.refl _ _ _⟩ ?_
              refine qstep rfl rfl (FinMove.refl _ _ _) ?_
              refine qstep rfl rfl ⟨_, rfl, FinMove.refl _ _ _⟩ ?_
              refine qstep rfl rfl (FinMove.refl _ _ _) ?_
              refine qstep (r := .d (.int .i64 (m3 : Int))) rfl rfl (fin_eq (congrArg (fun x => AV.d (.int .i64 x)) e3)) ?_
              refine qstep rfl rfl (.inl ⟨⟨by omega, by omega⟩, FinMove.refl _ _ _⟩) ?_
              refine qstep rfl rfl (FinMove.refl _ _ _) ?_
              refine qstep rfl rfl (FinMove.refl _ _ _) ?_
              refine qstep rfl rfl ⟨⟨by omega, by omega⟩, _, hget, rfl, FinMove.refl _ _ _⟩ ?_
              refine qstep rfl rfl (FinMove.refl _ _ _) ?_
              refine qstep rfl rfl ⟨_, rfl, FinMove.refl _ _ _⟩ ?_
              refine qstep rfl rfl (FinMove.refl _ _ _) ?_
              refine qstep rfl rfl ⟨⟨by omega, by omega⟩, _, hgetj, rfl, FinMove.refl _ _ _⟩ ?_
              refine qstep rfl rfl (FinMove.refl _ _ _) ?_
              refine qstep rfl rfl ⟨_, rfl, FinMove.refl _ _ _⟩ ?_
              refine qstep rfl rfl (FinMove.refl _ _ _) ?_
              refine qstep (r := .d (.int .i64 (m4 : Int))) rfl rfl (fin_eq (congrArg (fun x => AV.d (.int .i64 x)) e4)) ?_
              refine qstep rfl rfl (.inl ⟨⟨by omega, by omega⟩, FinMove.refl _ _ _⟩) ?_
              refine qstep rfl rfl (FinMove.refl _ _ _) ?_
              refine E.of Try.wf Try.tab_ok ?_
              repeat (first | refine ⟨fun _ => ?_, fun h => absurd (of_decide_eq_false h) (by omega)⟩ | refine ⟨fun h => absurd (of_decide_eq_true h) (by omega), fun _ => ?_⟩ | refine ⟨fun _ => ?_, fun h => absurd (of_decide_eq_true h) (by omega)⟩ | refine ⟨fun h => absurd (of_decide_eq_false h) (by omega), fun _ => ?_⟩ | refine .inl ⟨⟨by omega, by omega⟩, ?_⟩ | refine ⟨⟨by omega, by omega⟩, ?_⟩)
              refine ⟨_, _, _, ⟨j + 1, w3 + 1 + m3 + m4, rfl, hltj, by omega, by omega, by omega, fun h => ?_, rfl, rfl⟩, by omega, Mv.of [] rfl rfl rfl trivial ⟨rfl, rfl, rfl, rfl, rfl, trivial⟩⟩
              have a3 := g3 (by omega)
              have a4 := g4 (by omega)
              rw [hjk]
              omega
            · repeat (first | refine ⟨fun _ => ?_, fun h => absurd (of_decide_eq_false h) (by omega)⟩ | refine ⟨fun h => absurd (of_decide_eq_true h) (by omega), fun _ => ?_⟩ | refine ⟨fun _ => ?_, fun h => absurd (of_decide_eq_true h) (by omega)⟩ | refine ⟨fun h => absurd (of_decide_eq_false h) (by omega), fun _ => ?_⟩ | refine .inl ⟨⟨by omega, by omega⟩, ?_⟩ | refine ⟨⟨by omega, by omega⟩, ?_⟩)
              exact ⟨_, _, ⟨w3, hkw3, hw3B, fun h => absurd h hw32, rfl, rfl⟩, Mv.of [] rfl rfl rfl trivial ⟨rfl, rfl, rfl, rfl, trivial⟩⟩
          · refine ⟨⟨by omega, by omega⟩, _, hget, rfl, _, rfl, ?_⟩
            repeat (first | refine ⟨fun _ => ?_, fun h => absurd (of_decide_eq_false h) (by omega)⟩ | refine ⟨fun h => absurd (of_decide_eq_true h) (by omega), fun _ => ?_⟩ | refine ⟨fun _ => ?_, fun h => absurd (of_decide_eq_true h) (by omega)⟩ | refine ⟨fun h => absurd (of_decide_eq_false h) (by omega), fun _ => ?_⟩ | refine .inl ⟨⟨by omega, by omega⟩, ?_⟩ | refine ⟨⟨by omega, by omega⟩, ?_⟩)
            repeat (first | refine ⟨fun _ => ?_, fun h => absurd h (by decide)⟩ | refine ⟨fun h => absurd h (by decide), fun _ => ?_⟩)
            obtain rfl : j = l[k].attrs.length := by omega
            rw [List.take_length] at hw3
            exact ⟨_, _, ⟨w3, hkw3, hw3B, hw3, rfl, rfl⟩, Mv.of [] rfl rfl rfl trivial ⟨rfl, rfl, rfl, rfl, trivial⟩⟩
        rintro _ _ ⟨w3, hkw3, hw3B, hw3, rfl, rfl⟩
        refine E.of Try.wf Try.tab_ok ?_
        refine ⟨⟨by omega, by omega⟩, _, hget, rfl, _, rfl, ?_⟩
        repeat (first | refine ⟨fun _ => ?_, fun h => absurd (of_decide_eq_false h) (by omega)⟩ | refine ⟨fun h => absurd (of_decide_eq_true h) (by omega), fun _ => ?_⟩ | refine ⟨fun _ => ?_, fun h => absurd (of_decide_eq_true h) (by omega)⟩ | refine ⟨fun h => absurd (of_decide_eq_false h) (by omega), fun _ => ?_⟩ | refine .inl ⟨⟨by omega, by omega⟩, ?_⟩ | refine ⟨⟨by omega, by omega⟩, ?_⟩)
        refine (ih (szL l[k].kids) (by omega) l[k].kids (d + 1) (Nat.le_refl _) (by omega)).mono ?_
        rintro _ _ ⟨⟨x, rfl, hx1, hx2⟩, rfl⟩
        refine .inl ⟨⟨by omega, by omega⟩, ?_⟩
        refine E.of Try.wf Try.tab_ok ?_
        repeat (first | refine ⟨fun _ => ?_, fun h => absurd (of_decide_eq_false h) (by omega)⟩ | refine ⟨fun h => absurd (of_decide_eq_true h) (by omega), fun _ => ?_⟩ | refine ⟨fun _ => ?_, fun h => absurd (of_decide_eq_true h) (by omega)⟩ | refine ⟨fun h => absurd (of_decide_eq_false h) (by omega), fun _ => ?_⟩ | refine .inl ⟨⟨by omega, by omega⟩, ?_⟩ | refine ⟨⟨by omega, by omega⟩, ?_⟩)
        refine ⟨_, _, _, ⟨k + 1, w3 + x, rfl, hlt, by omega, by omega, fun h => ?_, rfl, rfl⟩, by omega, Mv.of [] rfl rfl rfl trivial ⟨rfl, rfl, rfl, rfl, trivial⟩⟩
        have a5 := hw3 (by omega)
        have a6 := hx2 (by omega)
        rw [htk, hne]
        omega
    · repeat (first | refine ⟨fun _ => ?_, fun h => absurd (of_decide_eq_false h) (by omega)⟩ | refine ⟨fun h => absurd (of_decide_eq_true h) (by omega), fun _ => ?_⟩ | refine ⟨fun _ => ?_, fun h => absurd (of_decide_eq_true h) (by omega)⟩ | refine ⟨fun h => absurd (of_decide_eq_false h) (by omega), fun _ => ?_⟩ | refine .inl ⟨⟨by omega, by omega⟩, ?_⟩ | refine ⟨⟨by omega, by omega⟩, ?_⟩)
      refine E.of Try.wf Try.tab_ok ?_
      exact done w _ hwB (fun h => absurd h hw2)
  · repeat (first | refine ⟨fun _ => ?_, fun h => absurd (of_decide_eq_false h) (by omega)⟩ | refine ⟨fun h => absurd (of_decide_eq_true h) (by omega), fun _ => ?_⟩ | refine ⟨fun _ => ?_, fun h => absurd (of_decide_eq_true h) (by omega)⟩ | refine ⟨fun h => absurd (of_decide_eq_false h) (by omega), fun _ => ?_⟩ | refine .inl ⟨⟨by omega, by omega⟩, ?_⟩ | refine ⟨⟨by omega, by omega⟩, ?_⟩)
    repeat (first | refine ⟨fun _ => ?_, fun h => absurd h (by decide)⟩ | refine ⟨fun h => absurd h (by decide), fun _ => ?_⟩)
    refine E.of Try.wf Try.tab_ok ?_
    obtain rfl : k = l.length := by omega
    rw [List.take_length] at hw
    exact done w _ hwB hw

set_option maxRecDepth 100000 in
/-- Of a tree that passes, all sizes are known to be small. -/
theorem Light_ok (l : List Node) : CallsAbs Try.prog 12 [.d (.sl (nodesD l)), .d (.int .i64 0)] ⟨0, []⟩ fun r σ' => (∃ b : Bool, r = .d (.bool b) ∧ (b = true → wtL l < 20000)) ∧ σ' = ⟨0, []⟩ := by
  refine fn_okTE Try.wf Try.tab_ok Try.func12 (by decide +kernel) rfl rfl ?_
  refine E.of Try.wf Try.tab_ok ?_
  refine (weight_ok (szL l) l 0 (Nat.le_refl _) (by omega)).mono ?_
  rintro _ _ ⟨⟨x, rfl, hx1, hx2⟩, rfl⟩
  refine ⟨_, _, fin_out rfl, ⟨decide (((x : Nat) : Int) < 20000), rfl, fun h => ?_⟩, rfl⟩
  have := of_decide_eq_true h
  have := hx2 (by omega)
  omega

mutual
theorem sz_wtN : ∀ n : Node, szN n ≤ wtN n
  | .mk nm a t k => by
    have := sz_wtL k
    unfold szN wtN
    omega
theorem sz_wtL : ∀ l : List Node, szL l ≤ wtL l
  | [] => by simp [szL]
  | n :: r => by
    have h1 := sz_wtN n
    have h2 := sz_wtL r
    unfold szL wtL
    omega
end
theorem wtA_mem {l : List (List UInt8 × List UInt8)} {a : List UInt8 × List UInt8} (h : a ∈ l) : 1 + a.1.length + a.2.length ≤ wtA l := by
  induction l with
  | nil => cases h
  | cons b r ih =>
    have e : wtA (b :: r) = (1 + b.1.length + b.2.length) + wtA r := rfl
    rcases List.mem_cons.1 h with rfl | h
    · omega
    · have := ih h; omega
theorem wtA_len (l : List (List UInt8 × List UInt8)) : l.length ≤ wtA l := by
  induction l with
  | nil => exact Nat.le_refl _
  | cons b r ih =>
    have e : wtA (b :: r) = (1 + b.1.length + b.2.length) + wtA r := rfl
    simp only [List.length_cons]; omega
theorem Short_wt {l : List (List UInt8 × List UInt8)} (h : wtA l ≤ 1000000000) : Short l :=
  ⟨by have := wtA_len l; omega, fun a ha => by have := wtA_mem ha; omega⟩
mutual
theorem Sh_wtN : ∀ n : Node, wtN n ≤ 1000000000 → ShN n
  | .mk nm a t k => fun h => by
    unfold wtN at h
    unfold ShN
    exact ⟨by omega, Short_wt (by omega), by omega, Sh_wtL k (by omega)⟩
theorem Sh_wtL : ∀ l : List Node, wtL l ≤ 1000000000 → ShL l
  | [] => fun _ => by simp [ShL]
  | n :: r => fun h => by
    unfold wtL at h
    unfold ShL
    exact ⟨Sh_wtN n (by omega), Sh_wtL r (by omega)⟩
end

end Go.Proofs.Ytcmkiancbgmmhaa
