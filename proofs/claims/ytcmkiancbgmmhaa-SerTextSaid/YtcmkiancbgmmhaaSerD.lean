import Derived.Test.YtcmkiancbgmmhaaSerC
namespace Go.Proofs.Ytcmkiancbgmmhaa
open Go.Aw
set_option maxHeartbeats 1600000
set_option linter.unusedSimpArgs false
set_option linter.unusedVariables false

mutual
def dpN : Node → Nat
  | .mk nm _ _ k => if nm = [] then 0 else dpL k + 1
def dpL : List Node → Nat
  | [] => 0
  | n :: r => max (dpN n) (dpL r)
end
theorem dpN_eq (n : Node) : dpN n = if n.name = [] then 0 else dpL n.kids + 1 := by cases n; unfold dpN; rfl
theorem dpL_cons (n : Node) (r : List Node) : dpL (n :: r) = max (dpN n) (dpL r) := by rw [dpL]
mutual
theorem dp_sz : ∀ n : Node, dpN n ≤ szN n
  | .mk nm a t k => by
    have := dp_szL k
    unfold dpN szN
    split <;> omega
theorem dp_szL : ∀ l : List Node, dpL l ≤ szL l
  | [] => by simp [dpL]
  | n :: r => by
    have h1 := dp_sz n
    have h2 := dp_szL r
    unfold dpL szL
    omega
end
theorem szN_pos (n : Node) : 1 ≤ szN n := by rw [szN_eq]; omega
theorem sz_len : ∀ l : List Node, l.length ≤ szL l
  | [] => by simp
  | n :: r => by have := sz_len r; have := szN_pos n; rw [szL_cons]; simp only [List.length_cons]; omega
def sizeV (l : List Node) : AV := .tup [.d (.int .i64 (szL l)), .d (.int .i64 (dpL l))]
theorem max_is (a b : Nat) : (if ((b : Nat) : Int) > ((a : Nat) : Int) then ((b : Nat) : Int) else ((a : Nat) : Int)) = ((max a b : Nat) : Int) := by
  rw [Nat.max_def]
  by_cases h : b > a
  · rw [if_pos (by omega), if_pos (by omega)]
  · rw [if_neg (by omega)]
    by_cases h2 : a ≤ b
    · rw [if_pos h2]; omega
    · rw [if_neg h2]

theorem max_is1 (a b : Nat) : ((max a (b + 1) : Nat) : Int) = (if (1 + ((b : Nat) : Int)) > ((a : Nat) : Int) then (1 + ((b : Nat) : Int)) else ((a : Nat) : Int)) := by
  rw [← max_is a (b + 1), show (1 + ((b : Nat) : Int)) = ((b + 1 : Nat) : Int) by omega]
theorem max_is2 (a b : Nat) : ((max a (b + 1) : Nat) : Int) = (if (((b : Nat) : Int) + 1) > ((a : Nat) : Int) then (((b : Nat) : Int) + 1) else ((a : Nat) : Int)) := by
  rw [← max_is a (b + 1)]; rfl

set_option maxRecDepth 100000 in
theorem Size_ok (N : Nat) : ∀ (l : List Node), szL l ≤ N → N ≤ 1000000000 → PureC Try.prog 25 [.d (.sl (nodesD l))] (sizeV l) := by
  induction N using Nat.strongRecOn with
  | ind N ih =>
  intro l hN hB
  refine pure_okT Try.wf Try.tab_ok Try.func25 (by decide +kernel) rfl rfl rfl rfl ?_
  have hn := nodesD_len l
  have hdp := dp_szL l
  have hsl := sz_len l
  refine loopT Try.wf Try.tab_ok (fun m s' σ => ∃ (k a b : Nat), m = l.length - k ∧ k ≤ l.length ∧ a + szL (l.drop k) = szL l ∧ max b (dpL (l.drop k)) = dpL l ∧ s' = [(4, .d (.int .i64 a)), (5, .d (.int .i64 b)), (10, .d (.sl (nodesD l))), (11, .d (.int .i64 l.length)), (12, .d (.int .i64 k))] ∧ σ = ⟨0, []⟩)
    ⟨0, 0, 0, rfl, Nat.zero_le _, by simp, by simp, rfl, rfl⟩ (Mv.of [] rfl rfl rfl trivial ⟨rfl, rfl, rfl, by rw [← hn]; rfl, rfl, trivial⟩) ?_
  rintro _ _ _ ⟨k, a, b, rfl, hk, hA, hB2, rfl, rfl⟩
  refine ⟨fun h => ?_, fun h => ?_⟩
  · have hlt : k < l.length := by have := of_decide_eq_true h; omega
    clear h
    rw [List.drop_eq_getElem_cons hlt] at hA hB2
    rw [szL_cons, szN_eq] at hA
    rw [dpL_cons, dpN_eq] at hB2
    refine ⟨⟨by omega, by rw [hn]; omega⟩, _, nodesD_get l k hlt, rfl, ?_⟩
    refine ⟨Nat.le_refl _, _, rfl, rfl, Nat.le_refl _, ?_⟩
    refine ⟨_, rfl, _, rfl, ?_⟩
    have hks := kids_lt (List.getElem_mem hlt)
    have c1 := ih (szL l[k].kids) (by omega) l[k].kids (Nat.le_refl _) (by omega)
    have hdk := dp_szL l[k].kids
    refine PureC.use c1 ?_
    repeat (first | refine ⟨fun _ => ?_, fun h => absurd (of_decide_eq_false h) (by omega)⟩ | refine ⟨fun h => absurd (of_decide_eq_true h) (by omega), fun _ => ?_⟩ | refine ⟨fun _ => ?_, fun h => absurd (of_decide_eq_true h) (by omega)⟩ | refine ⟨fun h => absurd (of_decide_eq_false h) (by omega), fun _ => ?_⟩ | refine .inl ⟨⟨by omega, by omega⟩, ?_⟩ | refine ⟨⟨by omega, by omega⟩, ?_⟩)
    refine ⟨_, rfl, _, rfl, ?_⟩
    have hA' : (a + 1 + szL l[k].kids) + szL (l.drop (k + 1)) = szL l := by omega
    refine ⟨fun h => ?_, fun h => ?_⟩
    · have hne : ¬ l[k].name = [] := of_decide_eq_false (by simpa using h)
      rw [if_neg hne] at hB2
      repeat (first | refine ⟨fun _ => ?_, fun h => absurd (of_decide_eq_false h) (by omega)⟩ | refine ⟨fun h => absurd (of_decide_eq_true h) (by omega), fun _ => ?_⟩ | refine ⟨fun _ => ?_, fun h => absurd (of_decide_eq_true h) (by omega)⟩ | refine ⟨fun h => absurd (of_decide_eq_false h) (by omega), fun _ => ?_⟩ | refine .inl ⟨⟨by omega, by omega⟩, ?_⟩ | refine ⟨⟨by omega, by omega⟩, ?_⟩)
      refine ⟨_, _, _, ⟨k + 1, a + 1 + szL l[k].kids, max b (dpL l[k].kids + 1), rfl, hlt, hA', ?_, rfl, rfl⟩, by omega, Mv.of [] rfl rfl rfl trivial ⟨congrArg (D.int .i64) (show ((a + 1 + szL l[k].kids : Nat) : Int) = _ by omega), congrArg (D.int .i64) (max_is1 _ _), rfl, rfl, rfl, trivial⟩⟩
      rw [Nat.max_assoc]; exact hB2
    · have hne : l[k].name = [] := of_decide_eq_true (by simpa using h)
      rw [if_pos hne] at hB2
      repeat (first | refine ⟨fun _ => ?_, fun h => absurd (of_decide_eq_false h) (by omega)⟩ | refine ⟨fun h => absurd (of_decide_eq_true h) (by omega), fun _ => ?_⟩ | refine ⟨fun _ => ?_, fun h => absurd (of_decide_eq_true h) (by omega)⟩ | refine ⟨fun h => absurd (of_decide_eq_false h) (by omega), fun _ => ?_⟩ | refine .inl ⟨⟨by omega, by omega⟩, ?_⟩ | refine ⟨⟨by omega, by omega⟩, ?_⟩)
      refine ⟨_, _, _, ⟨k + 1, a + 1 + szL l[k].kids, b, rfl, hlt, hA', ?_, rfl, rfl⟩, by omega, Mv.of [] rfl rfl rfl trivial ⟨congrArg (D.int .i64) (show ((a + 1 + szL l[k].kids : Nat) : Int) = _ by omega), rfl, rfl, rfl, rfl, trivial⟩⟩
      rw [← hB2, Nat.zero_max]
  · have hk' : k = l.length := by have := of_decide_eq_false h; omega
    subst hk'
    rw [List.drop_length] at hA hB2
    have e1 : a = szL l := by rw [← hA]; rfl
    have e2 : b = dpL l := by rw [← hB2]; simp [dpL]
    subst e1
    subst e2
    exact ⟨_, _, fin_out rfl, rfl⟩

set_option maxRecDepth 100000 in
theorem rSize_ok (N : Nat) : ∀ (l : List Node), szL l ≤ N → N ≤ 1000000000 → PureC Try.prog 32 [.d (.sl (nodesD l))] (sizeV l) := by
  induction N using Nat.strongRecOn with
  | ind N ih =>
  intro l hN hB
  refine pure_okT Try.wf Try.tab_ok Try.func32 (by decide +kernel) rfl rfl rfl rfl ?_
  have hn := nodesD_len l
  have hdp := dp_szL l
  have hsl := sz_len l
  refine loopT Try.wf Try.tab_ok (fun m s' σ => ∃ (k a b : Nat), m = l.length - k ∧ k ≤ l.length ∧ a + szL (l.drop k) = szL l ∧ max b (dpL (l.drop k)) = dpL l ∧ s' = [(0, .d (.sl (nodesD l))), (4, .d (.int .i64 a)), (5, .d (.int .i64 b)), (6, .d (.int .i64 k))] ∧ σ = ⟨0, []⟩)
    ⟨0, 0, 0, rfl, Nat.zero_le _, by simp, by simp, rfl, rfl⟩ (Mv.of [] rfl rfl rfl trivial ⟨rfl, rfl, rfl, rfl, trivial⟩) ?_
  rintro _ _ _ ⟨k, a, b, rfl, hk, hA, hB2, rfl, rfl⟩
  refine ⟨fun h => ?_, fun h => ?_⟩
  · have hlt : k < l.length := by have := of_decide_eq_true h; rw [hn] at this; omega
    clear h
    rw [List.drop_eq_getElem_cons hlt] at hA hB2
    rw [szL_cons, szN_eq] at hA
    rw [dpL_cons, dpN_eq] at hB2
    refine ⟨⟨by omega, by rw [hn]; omega⟩, _, nodesD_get l k hlt, rfl, _, rfl, ?_⟩
    have hks := kids_lt (List.getElem_mem hlt)
    have c1 := ih (szL l[k].kids) (by omega) l[k].kids (Nat.le_refl _) (by omega)
    have hdk := dp_szL l[k].kids
    refine PureC.use c1 ?_
    repeat (first | refine ⟨fun _ => ?_, fun h => absurd (of_decide_eq_false h) (by omega)⟩ | refine ⟨fun h => absurd (of_decide_eq_true h) (by omega), fun _ => ?_⟩ | refine ⟨fun _ => ?_, fun h => absurd (of_decide_eq_true h) (by omega)⟩ | refine ⟨fun h => absurd (of_decide_eq_false h) (by omega), fun _ => ?_⟩ | refine .inl ⟨⟨by omega, by omega⟩, ?_⟩ | refine ⟨⟨by omega, by omega⟩, ?_⟩)
    have hA' : (a + 1 + szL l[k].kids) + szL (l.drop (k + 1)) = szL l := by omega
    refine ⟨_, nodesD_get l k hlt, rfl, _, rfl, ?_⟩
    refine ⟨fun h => ?_, fun h => ?_⟩
    · have hne : ¬ l[k].name = [] := of_decide_eq_false (by simpa using h)
      rw [if_neg hne] at hB2
      repeat (first | refine ⟨fun _ => ?_, fun h => absurd (of_decide_eq_false h) (by omega)⟩ | refine ⟨fun h => absurd (of_decide_eq_true h) (by omega), fun _ => ?_⟩ | refine ⟨fun _ => ?_, fun h => absurd (of_decide_eq_true h) (by omega)⟩ | refine ⟨fun h => absurd (of_decide_eq_false h) (by omega), fun _ => ?_⟩ | refine .inl ⟨⟨by omega, by omega⟩, ?_⟩ | refine ⟨⟨by omega, by omega⟩, ?_⟩)
      refine ⟨_, _, _, ⟨k + 1, a + 1 + szL l[k].kids, max b (dpL l[k].kids + 1), rfl, hlt, hA', ?_, rfl, rfl⟩, by omega, Mv.of [] rfl rfl rfl trivial ⟨rfl, rfl, congrArg (D.int .i64) (max_is2 _ _), rfl, trivial⟩⟩
      rw [Nat.max_assoc]; exact hB2
    · have hne : l[k].name = [] := of_decide_eq_true (by simpa using h)
      rw [if_pos hne] at hB2
      repeat (first | refine ⟨fun _ => ?_, fun h => absurd (of_decide_eq_false h) (by omega)⟩ | refine ⟨fun h => absurd (of_decide_eq_true h) (by omega), fun _ => ?_⟩ | refine ⟨fun _ => ?_, fun h => absurd (of_decide_eq_true h) (by omega)⟩ | refine ⟨fun h => absurd (of_decide_eq_false h) (by omega), fun _ => ?_⟩ | refine .inl ⟨⟨by omega, by omega⟩, ?_⟩ | refine ⟨⟨by omega, by omega⟩, ?_⟩)
      refine ⟨_, _, _, ⟨k + 1, a + 1 + szL l[k].kids, b, rfl, hlt, hA', ?_, rfl, rfl⟩, by omega, Mv.of [] rfl rfl rfl trivial ⟨rfl, rfl, rfl, rfl, trivial⟩⟩
      rw [← hB2, Nat.zero_max]
  · have hk' : k = l.length := by have := of_decide_eq_false h; rw [hn] at this; omega
    subst hk'
    rw [List.drop_length] at hA hB2
    have e1 : a = szL l := by rw [← hA]; rfl
    have e2 : b = dpL l := by rw [← hB2]; simp [dpL]
    subst e1
    subst e2
    exact ⟨_, _, fin_out rfl, rfl⟩

def inLi (li : Bool) (nm : List UInt8) : Bool := if nm = [108, 105] then true else if nm = [117, 108] ∨ nm = [111, 108] then false else li
mutual
/-- A named node within; a node of text. -/
def stN (p li : Bool) : Node → Bool
  | .mk nm a t k => ownB (.mk nm a t k) && !(p && decide (nm ∈ blocks)) && !(li && decide (nm = [108, 105])) && stL false (p || decide (nm = [112])) (inLi li nm) k
def stL (tx p li : Bool) : List Node → Bool
  | [] => true
  | n :: r => if n.name = [] then (!tx && !decide (n.text = []) && decide (n.attrs = []) && decide (n.kids = [])) && stL true p li r else stN p li n && stL false p li r
end
theorem stN_eq (p li : Bool) (n : Node) : stN p li n = (ownB n && !(p && decide (n.name ∈ blocks)) && !(li && decide (n.name = [108, 105])) && stL false (p || decide (n.name = [112])) (inLi li n.name) n.kids) := by
  cases n; unfold stN; rfl
theorem stL_cons (tx p li : Bool) (n : Node) (r : List Node) : stL tx p li (n :: r) = if n.name = [] then (!tx && !decide (n.text = []) && decide (n.attrs = []) && decide (n.kids = [])) && stL true p li r else stN p li n && stL false p li r := by rw [stL]
mutual
/-- All texts are short. -/
def ShN : Node → Prop
  | .mk nm a t k => nm.length ≤ 1000000000 ∧ Short a ∧ t.length ≤ 1000000000 ∧ ShL k
def ShL : List Node → Prop
  | [] => True
  | n :: r => ShN n ∧ ShL r
end
theorem ShN_eq (n : Node) : ShN n ↔ (n.name.length ≤ 1000000000 ∧ Short n.attrs ∧ n.text.length ≤ 1000000000 ∧ ShL n.kids) := by cases n; unfold ShN; rfl
theorem ShL_mem : ∀ {l : List Node}, ShL l → ∀ n ∈ l, ShN n
  | [], _, n, h => by simp at h
  | m :: r, hs, n, h => by
    unfold ShL at hs
    rcases List.mem_cons.1 h with rfl | h
    · exact hs.1
    · exact ShL_mem hs.2 n h

set_option maxRecDepth 100000 in
theorem stable_ok (N : Nat) : ∀ (l : List Node) (p li : Bool), szL l ≤ N → N ≤ 1000000000 → ShL l → PureC Try.prog 31 [.d (.sl (nodesD l)), .d (.bool p), .d (.bool li)] (.d (.bool (stL false p li l))) := by
  induction N using Nat.strongRecOn with
  | ind N ih =>
  intro l p li hN hB hS
  refine PureC.of rfl rfl (fn_okTE Try.wf Try.tab_ok Try.func31 (by decide +kernel) rfl rfl ?_)
  have hn := nodesD_len l
  have hsl := sz_len l
  refine E.seq (E.of Try.wf Try.tab_ok ?_)
  refine E.seq (E.of Try.wf Try.tab_ok ?_)
  refine E.seq (E.of Try.wf Try.tab_ok ?_)
  refine loopE (fun m s' σ => ∃ (k : Nat) (tx : Bool), m = l.length - k ∧ k ≤ l.length ∧ stL tx p li (l.drop k) = stL false p li l ∧ s' = [(1, .d (.bool p)), (2, .d (.bool li)), (7, .d (.bool tx)), (11, .d (.sl (nodesD l))), (12, .d (.int .i64 l.length)), (13, .d (.int .i64 k))] ∧ σ = ⟨0, []⟩)
    ⟨0, false, rfl, Nat.zero_le _, rfl, rfl, rfl⟩ (Mv.of [] rfl rfl rfl trivial ⟨rfl, rfl, rfl, rfl, by rw [← hn]; rfl, rfl, trivial⟩) ?_
  rintro _ _ _ ⟨k, tx, rfl, hk, hI, rfl, rfl⟩
  have no : ∀ σ : Store, stL false p li l = false → ∃ r2 σ2, FinMove ⟨0, []⟩ (AV.d (.bool false)) σ r2 σ2 ∧ r2 = AV.d (.bool (stL false p li l)) ∧ σ2.n = 0 := fun σ h => ⟨_, _, fin_out rfl, by rw [h], rfl⟩
  refine E.seq (E.of Try.wf Try.tab_ok ?_)
  refine E.seq (E.of Try.wf Try.tab_ok ?_)
  refine ⟨fun h => ?_, fun h => ?_⟩
  · have hlt : k < l.length := by have := of_decide_eq_true h; omega
    clear h
    rw [List.drop_eq_getElem_cons hlt, stL_cons] at hI
    have hks := kids_lt (List.getElem_mem hlt)
    have hsn := (ShN_eq _).1 (ShL_mem hS _ (List.getElem_mem hlt))
    have hget := nodesD_get l k hlt
    have hkl := nodesD_len l[k].kids
    have hal := attrsD_len l[k].attrs
    have c1 := own_ok l[k] hsn.1 hsn.2.1
    have c2 := Block_ok l[k].name
    have c3 := ih (szL l[k].kids) (by omega) l[k].kids (p || decide (l[k].name = [112])) (inLi li l[k].name) (Nat.le_refl _) (by omega) hsn.2.2.2
    refine E.seq (blockE ?_)
    refine E.seq (E.of Try.wf Try.tab_ok ?_)
    refine ⟨⟨by omega, by rw [hn]; omega⟩, _, hget, rfl, ?_⟩
    refine ⟨Nat.le_refl _, _, rfl, rfl, Nat.le_refl _, ?_⟩
    refine midT Try.wf Try.tab_ok (fun s' σ => l[k].name ≠ [] ∧ s' = [(1, .d (.bool p)), (2, .d (.bool li)), (9, .ref 0 0 0), (11, .d (.sl (nodesD l))), (12, .d (.int .i64 l.length)), (13, .d (.int .i64 k))] ∧ σ = ⟨1, [(0, nodeO l[k])]⟩) ?_ ?_
    · refine ⟨_, rfl, _, rfl, ?_⟩
      have haz : decide ((0 : Int) < ((attrsD l[k].attrs).length : Nat)) = !decide (l[k].attrs = []) := by
        rw [hal]; cases l[k].attrs <;> simp
      have hkz : decide ((0 : Int) < ((nodesD l[k].kids).length : Nat)) = !decide (l[k].kids = []) := by
        rw [hkl]; cases l[k].kids <;> simp
      by_cases hne : l[k].name = []
      · rw [if_pos hne] at hI
        refine ⟨fun _ => ?_, fun h => absurd (of_decide_eq_false h) (fun h => h hne)⟩
        cases tx with
        | true =>
          repeat (first | refine ⟨fun _ => ?_, fun h => absurd h (by decide)⟩ | refine ⟨fun h => absurd h (by decide), fun _ => ?_⟩)
          exact no _ hI.symm
        | false =>
          repeat (first | refine ⟨fun _ => ?_, fun h => absurd h (by decide)⟩ | refine ⟨fun h => absurd h (by decide), fun _ => ?_⟩)
          refine ⟨_, rfl, _, rfl, ?_⟩
          by_cases ht : l[k].text = []
          · rw [decide_eq_true ht] at hI
            refine ⟨fun h => absurd (of_decide_eq_false h) (fun h => h ht), fun _ => ?_⟩
            repeat (first | refine ⟨fun _ => ?_, fun h => absurd h (by decide)⟩ | refine ⟨fun h => absurd h (by decide), fun _ => ?_⟩)
            exact no _ hI.symm
          · rw [decide_eq_false ht] at hI
            refine ⟨fun _ => ?_, fun h => absurd (of_decide_eq_true h) ht⟩
            refine ⟨_, rfl, _, rfl, ?_⟩
            by_cases hza : l[k].attrs = []
            · rw [decide_eq_true hza] at hI haz
              refine ⟨fun _ => ?_, fun h => absurd (h.symm.trans haz) (by decide)⟩
              refine ⟨_, rfl, _, rfl, ?_⟩
              by_cases hzk : l[k].kids = []
              · rw [decide_eq_true hzk] at hI hkz
                refine ⟨fun h => absurd (h.symm.trans hkz) (by decide), fun _ => ?_⟩
                refine E.of Try.wf Try.tab_ok ?_
                repeat (first | refine ⟨fun _ => ?_, fun h => absurd (of_decide_eq_false h) (by omega)⟩ | refine ⟨fun h => absurd (of_decide_eq_true h) (by omega), fun _ => ?_⟩ | refine ⟨fun _ => ?_, fun h => absurd (of_decide_eq_true h) (by omega)⟩ | refine ⟨fun h => absurd (of_decide_eq_false h) (by omega), fun _ => ?_⟩ | refine .inl ⟨⟨by omega, by omega⟩, ?_⟩ | refine ⟨⟨by omega, by omega⟩, ?_⟩)
                refine ⟨_, _, _, ⟨k + 1, true, rfl, hlt, hI, rfl, rfl⟩, by omega, Mv.of [] rfl rfl rfl trivial ⟨rfl, rfl, rfl, rfl, rfl, rfl, trivial⟩⟩
              · rw [decide_eq_false hzk] at hI hkz
                refine ⟨fun _ => ?_, fun h => absurd (h.symm.trans hkz) (by decide)⟩
                exact no _ hI.symm
            · rw [decide_eq_false hza] at hI haz
              refine ⟨fun h => absurd (h.symm.trans haz) (by decide), fun _ => ?_⟩
              repeat (first | refine ⟨fun _ => ?_, fun h => absurd h (by decide)⟩ | refine ⟨fun h => absurd h (by decide), fun _ => ?_⟩)
              exact no _ hI.symm
      · refine ⟨fun h => absurd (of_decide_eq_true h) hne, fun _ => ?_⟩
        exact ⟨_, _, ⟨hne, rfl, rfl⟩, Mv.of [.old 0] rfl rfl rfl ⟨⟨rfl, .inl ⟨rfl, fun row h => by rw [List.mem_singleton.1 h]; rfl⟩⟩, trivial⟩ ⟨rfl, rfl, ⟨rfl, rfl, rfl⟩, rfl, rfl, rfl, trivial⟩⟩
    rintro _ _ ⟨hne, rfl, rfl⟩
    rw [if_neg hne, stN_eq] at hI
    refine E.seq (E.of Try.wf Try.tab_ok ?_)
    refine midT Try.wf Try.tab_ok (fun s' σ => (ownB l[k] && !(p && decide (l[k].name ∈ blocks)) && !(li && decide (l[k].name = [108, 105]))) = true ∧ s' = [(1, .d (.bool p)), (2, .d (.bool li)), (7, .d (.bool false)), (9, .ref 0 0 0), (11, .d (.sl (nodesD l))), (12, .d (.int .i64 l.length)), (13, .d (.int .i64 k))] ∧ σ = ⟨1, [(0, nodeO l[k])]⟩) ?_ ?_
    · have hnm : nodeA l[k] = .agg [.d (.str l[k].name), .d (.sl (attrsD l[k].attrs)), .d (.str l[k].text), .d (.sl (nodesD l[k].kids))] := rfl
      refine ⟨_, rfl, Nat.le_refl _, ?_⟩
      refine PureC.use c1 ?_
      generalize ownB l[k] = o at *
      cases o with
      | false =>
        repeat (first | refine ⟨fun _ => ?_, fun h => absurd h (by decide)⟩ | refine ⟨fun h => absurd h (by decide), fun _ => ?_⟩)
        exact no _ hI.symm
      | true =>
        repeat (first | refine ⟨fun _ => ?_, fun h => absurd h (by decide)⟩ | refine ⟨fun h => absurd h (by decide), fun _ => ?_⟩)
        cases p with
        | true =>
          repeat (first | refine ⟨fun _ => ?_, fun h => absurd h (by decide)⟩ | refine ⟨fun h => absurd h (by decide), fun _ => ?_⟩)
          refine ⟨_, rfl, _, rfl, ?_⟩
          refine PureC.use c2 ?_
          generalize decide (l[k].name ∈ blocks) = bl at *
          cases bl with
          | true =>
            repeat (first | refine ⟨fun _ => ?_, fun h => absurd h (by decide)⟩ | refine ⟨fun h => absurd h (by decide), fun _ => ?_⟩)
            exact no _ hI.symm
          | false =>
            repeat (first | refine ⟨fun _ => ?_, fun h => absurd h (by decide)⟩ | refine ⟨fun h => absurd h (by decide), fun _ => ?_⟩)
            cases li with
            | true =>
              repeat (first | refine ⟨fun _ => ?_, fun h => absurd h (by decide)⟩ | refine ⟨fun h => absurd h (by decide), fun _ => ?_⟩)
              refine ⟨_, rfl, _, rfl, ?_⟩
              by_cases hli : l[k].name = [108, 105]
              · rw [decide_eq_true hli] at hI
                refine ⟨fun _ => ?_, fun h => absurd (of_decide_eq_false h) (fun h => h hli)⟩
                exact no _ hI.symm
              · rw [decide_eq_false hli]
                refine ⟨fun h => absurd (of_decide_eq_true h) hli, fun _ => ?_⟩
                exact ⟨_, _, ⟨rfl, rfl, rfl⟩, Mv.of [.old 0] rfl rfl rfl ⟨⟨rfl, .inl ⟨rfl, fun row h => by rw [List.mem_singleton.1 h]; rfl⟩⟩, trivial⟩ ⟨rfl, rfl, rfl, ⟨rfl, rfl, rfl⟩, rfl, rfl, rfl, trivial⟩⟩
            | false =>
              repeat (first | refine ⟨fun _ => ?_, fun h => absurd h (by decide)⟩ | refine ⟨fun h => absurd h (by decide), fun _ => ?_⟩)
              exact ⟨_, _, ⟨rfl, rfl, rfl⟩, Mv.of [.old 0] rfl rfl rfl ⟨⟨rfl, .inl ⟨rfl, fun row h => by rw [List.mem_singleton.1 h]; rfl⟩⟩, trivial⟩ ⟨rfl, rfl, rfl, ⟨rfl, rfl, rfl⟩, rfl, rfl, rfl, trivial⟩⟩
        | false =>
          repeat (first | refine ⟨fun _ => ?_, fun h => absurd h (by decide)⟩ | refine ⟨fun h => absurd h (by decide), fun _ => ?_⟩)
          cases li with
          | true =>
            repeat (first | refine ⟨fun _ => ?_, fun h => absurd h (by decide)⟩ | refine ⟨fun h => absurd h (by decide), fun _ => ?_⟩)
            refine ⟨_, rfl, _, rfl, ?_⟩
            by_cases hli : l[k].name = [108, 105]
            · rw [decide_eq_true hli] at hI
              refine ⟨fun _ => ?_, fun h => absurd (of_decide_eq_false h) (fun h => h hli)⟩
              exact no _ hI.symm
            · rw [decide_eq_false hli]
              refine ⟨fun h => absurd (of_decide_eq_true h) hli, fun _ => ?_⟩
              exact ⟨_, _, ⟨rfl, rfl, rfl⟩, Mv.of [.old 0] rfl rfl rfl ⟨⟨rfl, .inl ⟨rfl, fun row h => by rw [List.mem_singleton.1 h]; rfl⟩⟩, trivial⟩ ⟨rfl, rfl, rfl, ⟨rfl, rfl, rfl⟩, rfl, rfl, rfl, trivial⟩⟩
          | false =>
            repeat (first | refine ⟨fun _ => ?_, fun h => absurd h (by decide)⟩ | refine ⟨fun h => absurd h (by decide), fun _ => ?_⟩)
            exact ⟨_, _, ⟨rfl, rfl, rfl⟩, Mv.of [.old 0] rfl rfl rfl ⟨⟨rfl, .inl ⟨rfl, fun row h => by rw [List.mem_singleton.1 h]; rfl⟩⟩, trivial⟩ ⟨rfl, rfl, rfl, ⟨rfl, rfl, rfl⟩, rfl, rfl, rfl, trivial⟩⟩
    rintro _ _ ⟨hQ, rfl, rfl⟩
    rw [hQ, Bool.true_and] at hI
    refine E.seq (E.of Try.wf Try.tab_ok ?_)
    refine midT Try.wf Try.tab_ok (fun s' σ => s' = [(1, .d (.bool p)), (2, .d (.bool li)), (7, .d (.bool false)), (9, .ref 0 0 0), (10, .d (.bool (inLi li l[k].name))), (11, .d (.sl (nodesD l))), (12, .d (.int .i64 l.length)), (13, .d (.int .i64 k))] ∧ σ = ⟨1, [(0, nodeO l[k])]⟩) ?_ ?_
    · refine ⟨_, rfl, _, rfl, ?_⟩
      have go : ∀ b : Bool, inLi li l[k].name = b → vrelS (phi 0 [.old 0]) [(1, .d (.bool p)), (2, .d (.bool li)), (7, .d (.bool false)), (9, .ref 0 0 0), (10, .d (.bool b)), (11, .d (.sl (nodesD l))), (12, .d (.int .i64 l.length)), (13, .d (.int .i64 k))] [(1, .d (.bool p)), (2, .d (.bool li)), (7, .d (.bool false)), (9, .ref 0 0 0), (10, .d (.bool (inLi li l[k].name))), (11, .d (.sl (nodesD l))), (12, .d (.int .i64 l.length)), (13, .d (.int .i64 k))] := fun b h => by
        rw [h]; exact ⟨rfl, rfl, rfl, ⟨rfl, rfl, rfl⟩, rfl, rfl, rfl, rfl, trivial⟩
      by_cases h1 : l[k].name = [108, 105]
      · refine ⟨fun _ => ?_, fun h => absurd (of_decide_eq_false h) (fun h => h h1)⟩
        exact ⟨_, _, ⟨rfl, rfl⟩, Mv.of [.old 0] rfl rfl rfl ⟨⟨rfl, .inl ⟨rfl, fun row h => by rw [List.mem_singleton.1 h]; rfl⟩⟩, trivial⟩ (go true (by unfold inLi; rw [if_pos h1]))⟩
      · refine ⟨fun h => absurd (of_decide_eq_true h) h1, fun _ => ?_⟩
        by_cases h2 : l[k].name = [117, 108]
        · refine ⟨fun _ => ?_, fun h => absurd (of_decide_eq_false h) (fun h => h h2)⟩
          exact ⟨_, _, ⟨rfl, rfl⟩, Mv.of [.old 0] rfl rfl rfl ⟨⟨rfl, .inl ⟨rfl, fun row h => by rw [List.mem_singleton.1 h]; rfl⟩⟩, trivial⟩ (go false (by unfold inLi; rw [if_neg h1, if_pos (.inl h2)]))⟩
        · refine ⟨fun h => absurd (of_decide_eq_true h) h2, fun _ => ?_⟩
          by_cases h3 : l[k].name = [111, 108]
          · refine ⟨fun _ => ?_, fun h => absurd (of_decide_eq_false h) (fun h => h h3)⟩
            exact ⟨_, _, ⟨rfl, rfl⟩, Mv.of [.old 0] rfl rfl rfl ⟨⟨rfl, .inl ⟨rfl, fun row h => by rw [List.mem_singleton.1 h]; rfl⟩⟩, trivial⟩ (go false (by unfold inLi; rw [if_neg h1, if_pos (.inr h3)]))⟩
          · refine ⟨fun h => absurd (of_decide_eq_true h) h3, fun _ => ?_⟩
            exact ⟨_, _, ⟨rfl, rfl⟩, Mv.of [.old 0] rfl rfl rfl ⟨⟨rfl, .inl ⟨rfl, fun row h => by rw [List.mem_singleton.1 h]; rfl⟩⟩, trivial⟩ (go li (by unfold inLi; rw [if_neg h1, if_neg (fun h => h.elim h2 h3)]))⟩
    rintro _ _ ⟨rfl, rfl⟩
    refine E.of Try.wf Try.tab_ok ?_
    refine ⟨_, rfl, _, rfl, ?_⟩
    cases p with
    | true =>
      repeat (first | refine ⟨fun _ => ?_, fun h => absurd h (by decide)⟩ | refine ⟨fun h => absurd h (by decide), fun _ => ?_⟩)
      refine PureC.use c3 ?_
      rw [Bool.true_or] at hI
      rw [Bool.true_or]
      generalize stL false true (inLi li l[k].name) l[k].kids = b at *
      cases b with
      | false =>
        repeat (first | refine ⟨fun _ => ?_, fun h => absurd h (by decide)⟩ | refine ⟨fun h => absurd h (by decide), fun _ => ?_⟩)
        exact no _ hI.symm
      | true =>
        repeat (first | refine ⟨fun _ => ?_, fun h => absurd h (by decide)⟩ | refine ⟨fun h => absurd h (by decide), fun _ => ?_⟩)
        refine E.of Try.wf Try.tab_ok ?_
        repeat (first | refine ⟨fun _ => ?_, fun h => absurd (of_decide_eq_false h) (by omega)⟩ | refine ⟨fun h => absurd (of_decide_eq_true h) (by omega), fun _ => ?_⟩ | refine ⟨fun _ => ?_, fun h => absurd (of_decide_eq_true h) (by omega)⟩ | refine ⟨fun h => absurd (of_decide_eq_false h) (by omega), fun _ => ?_⟩ | refine .inl ⟨⟨by omega, by omega⟩, ?_⟩ | refine ⟨⟨by omega, by omega⟩, ?_⟩)
        exact ⟨_, _, _, ⟨k + 1, false, rfl, hlt, hI, rfl, rfl⟩, by omega, Mv.of [] rfl rfl rfl trivial ⟨rfl, rfl, rfl, rfl, rfl, rfl, trivial⟩⟩
    | false =>
      repeat (first | refine ⟨fun _ => ?_, fun h => absurd h (by decide)⟩ | refine ⟨fun h => absurd h (by decide), fun _ => ?_⟩)
      refine ⟨_, rfl, _, rfl, ?_⟩
      rw [Bool.false_or] at hI c3
      refine PureC.use c3 ?_
      generalize stL false (decide (l[k].name = [112])) (inLi li l[k].name) l[k].kids = b at *
      cases b with
      | false =>
        repeat (first | refine ⟨fun _ => ?_, fun h => absurd h (by decide)⟩ | refine ⟨fun h => absurd h (by decide), fun _ => ?_⟩)
        exact no _ hI.symm
      | true =>
        repeat (first | refine ⟨fun _ => ?_, fun h => absurd h (by decide)⟩ | refine ⟨fun h => absurd h (by decide), fun _ => ?_⟩)
        refine E.of Try.wf Try.tab_ok ?_
        repeat (first | refine ⟨fun _ => ?_, fun h => absurd (of_decide_eq_false h) (by omega)⟩ | refine ⟨fun h => absurd (of_decide_eq_true h) (by omega), fun _ => ?_⟩ | refine ⟨fun _ => ?_, fun h => absurd (of_decide_eq_true h) (by omega)⟩ | refine ⟨fun h => absurd (of_decide_eq_false h) (by omega), fun _ => ?_⟩ | refine .inl ⟨⟨by omega, by omega⟩, ?_⟩ | refine ⟨⟨by omega, by omega⟩, ?_⟩)
        exact ⟨_, _, _, ⟨k + 1, false, rfl, hlt, hI, rfl, rfl⟩, by omega, Mv.of [] rfl rfl rfl trivial ⟨rfl, rfl, rfl, rfl, rfl, rfl, trivial⟩⟩
  · refine E.of Try.wf Try.tab_ok ?_
    have hk' : k = l.length := by have := of_decide_eq_false h; omega
    subst hk'
    rw [List.drop_length] at hI
    exact ⟨_, _, fin_out rfl, congrArg (fun b => AV.d (.bool b)) (show true = stL false p li l from hI), rfl⟩

def stableB (l : List Node) : Bool := decide (szL l ≤ 2000) && decide (dpL l ≤ 64) && stL false false false l
set_option maxRecDepth 100000 in
theorem Stable_ok (l : List Node) (hl : szL l ≤ 1000000000) (hS : ShL l) : PureC Try.prog 15 [.d (.sl (nodesD l))] (.d (.bool (stableB l))) := by
  refine pure_okT Try.wf Try.tab_ok Try.func15 (by decide +kernel) rfl rfl rfl rfl ?_
  have c1 := Size_ok (szL l) l (Nat.le_refl _) hl
  have c2 := stable_ok (szL l) l false false (Nat.le_refl _) hl hS
  unfold sizeV at c1
  unfold stableB
  generalize szL l = a at *
  generalize dpL l = b at *
  generalize stL false false false l = c at *
  refine PureC.use c1 ?_
  by_cases h1 : a ≤ 2000
  · rw [decide_eq_true h1]
    by_cases h2 : b ≤ 64
    · rw [decide_eq_true h2]
      repeat (first | refine ⟨fun _ => ?_, fun h => absurd (of_decide_eq_false h) (by omega)⟩ | refine ⟨fun h => absurd (of_decide_eq_true h) (by omega), fun _ => ?_⟩ | refine ⟨fun _ => ?_, fun h => absurd (of_decide_eq_true h) (by omega)⟩ | refine ⟨fun h => absurd (of_decide_eq_false h) (by omega), fun _ => ?_⟩ | refine .inl ⟨⟨by omega, by omega⟩, ?_⟩ | refine ⟨⟨by omega, by omega⟩, ?_⟩)
      exact PureC.use c2 ⟨_, _, fin_out rfl, rfl⟩
    · rw [decide_eq_false h2]
      repeat (first | refine ⟨fun _ => ?_, fun h => absurd (of_decide_eq_false h) (by omega)⟩ | refine ⟨fun h => absurd (of_decide_eq_true h) (by omega), fun _ => ?_⟩ | refine ⟨fun _ => ?_, fun h => absurd (of_decide_eq_true h) (by omega)⟩ | refine ⟨fun h => absurd (of_decide_eq_false h) (by omega), fun _ => ?_⟩ | refine .inl ⟨⟨by omega, by omega⟩, ?_⟩ | refine ⟨⟨by omega, by omega⟩, ?_⟩)
      exact ⟨_, _, fin_out rfl, rfl⟩
  · rw [decide_eq_false h1]
    repeat (first | refine ⟨fun _ => ?_, fun h => absurd (of_decide_eq_false h) (by omega)⟩ | refine ⟨fun h => absurd (of_decide_eq_true h) (by omega), fun _ => ?_⟩ | refine ⟨fun _ => ?_, fun h => absurd (of_decide_eq_true h) (by omega)⟩ | refine ⟨fun h => absurd (of_decide_eq_false h) (by omega), fun _ => ?_⟩ | refine .inl ⟨⟨by omega, by omega⟩, ?_⟩ | refine ⟨⟨by omega, by omega⟩, ?_⟩)
    exact ⟨_, _, fin_out rfl, rfl⟩

end Go.Proofs.Ytcmkiancbgmmhaa
