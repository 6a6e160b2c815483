/- What is proved here serves the claim: the walk over the code and the plain laws, part 15 of 15. -/
import Derived.Test.YtfchacihhljfhaaGreatDoorPkSat14
namespace Go.Proofs.YtfchacihhljfhaaGreatDoor
open Go.Aw
set_option maxHeartbeats 1600000
set_option linter.unusedSimpArgs false
set_option linter.unusedVariables false
/-- A node as a value. -/
def nodeA (n : Node) : AV := .agg [.d (.str n.name), .d (.sl (attrsD n.attrs)), .d (.str n.text), .d (.sl (nodesD n.kids))]
theorem mlook_mput (x k : List UInt8) (v : AV) : ∀ es, strKeys es → mlook x (mput k v es) = if x = k then some v else mlook x es := by
 intro es
 induction es with
 | nil => intro _; simp [mput, mlook]
 | cons e r ih =>
  intro hk
  obtain ⟨s, hs⟩ := hk e (by simp)
  obtain ⟨a, u⟩ := e
  simp only at hs
  subst hs
  have ih' := ih (fun y hy => hk y (by simp [hy]))
  simp only [mput]
  by_cases h1 : k = s
  ·subst h1
   rw [if_pos rfl]
   simp only [mlook]
   by_cases h2 : x = k <;> simp [h2]
  ·rw [if_neg h1]
   simp only [mlook]
   by_cases h2 : x = s
   ·subst h2; rw [if_pos rfl, if_pos rfl, if_neg (fun e => h1 e.symm)]
   ·rw [if_neg h2, if_neg h2, ih']
theorem strKeys_mput (k : List UInt8) (v : AV) : ∀ es, strKeys es → strKeys (mput k v es) := by
 intro es
 induction es with
 | nil => intro _ e he; simp [mput] at he; subst he; exact ⟨k, rfl⟩
 | cons e r ih =>
  intro hk
  obtain ⟨s, hs⟩ := hk e (by simp)
  obtain ⟨a, u⟩ := e
  simp only at hs
  subst hs
  have ih' := ih (fun y hy => hk y (by simp [hy]))
  simp only [mput]
  by_cases h1 : k = s
  ·rw [if_pos h1]
   intro y hy
   rcases List.mem_cons.1 hy with rfl | hy
   ·exact ⟨k, rfl⟩
   ·exact hk y (by simp [hy])
  ·rw [if_neg h1]
   intro y hy
   rcases List.mem_cons.1 hy with rfl | hy
   ·exact ⟨s, rfl⟩
   ·exact ih' y hy
theorem pure_mput (k : List UInt8) (v : AV) (hv : v.pure = true) : ∀ es : List (AV × AV), (∀ e ∈ es, e.1.pure = true ∧ e.2.pure = true) → ∀ e ∈ mput k v es, e.1.pure = true ∧ e.2.pure = true := by
 intro es
 induction es with
 | nil => intro _ e he; simp [mput] at he; subst he; exact ⟨rfl, hv⟩
 | cons e r ih =>
  intro hk
  have ih' := ih (fun y hy => hk y (by simp [hy]))
  have h0 := hk e (by simp)
  have h1 : ∀ y ∈ r, y.1.pure = true ∧ y.2.pure = true := fun y hy => hk y (by simp [hy])
  have other : ∀ y ∈ e :: mput k v r, y.1.pure = true ∧ y.2.pure = true := fun y hy => by
   rcases List.mem_cons.1 hy with rfl | hy
   ·exact h0
   ·exact ih' y hy
  unfold mput
  split
  ·rename_i heq; simp at heq
  ·rename_i s u r' heq
   obtain ⟨rfl, rfl⟩ := List.cons.inj heq
   split
   ·intro y hy
    rcases List.mem_cons.1 hy with rfl | hy
    ·exact ⟨rfl, hv⟩
    ·exact h1 y hy
   ·exact other
  ·rename_i x r' hne heq
   obtain ⟨rfl, rfl⟩ := List.cons.inj heq
   exact other
def nodeO (n : Node) : Ob := .rows (4, 34) [[.d (.str n.name), .d (.sl (attrsD n.attrs)), .d (.str n.text), .d (.sl (nodesD n.kids))]]
set_option maxRecDepth 100000 in
theorem own_ok (n : Node) (hn : n.name.length ≤ 1000000000) (hl : Short n.attrs) : PureC Tryz.prog 24 [nodeA n] (.d (.bool (ownB n))) := by
 refine PureC.of rfl rfl (fn_okTE Tryz.wf Tryz.tab_ok Tryz.func24 (by decide +kernel) rfl rfl ?_)
 have ha := attrsD_len n.attrs
 have hk := nodesD_len n.kids
 have c1 := tRaw_ok n.name
 rw [rawV_fst] at c1
 have c2 := small_ok n.name [45] (by omega) (by decide)
 have c3 := Void_ok n.name
 have hO : ownB n = (!(rawB n.name || !small n.name [45] || !decide (n.text = []) || decide (n.name ∈ voids) && !decide (n.kids = [])) && attrsFrom [] n.attrs) := rfl
 have hkz : decide ((0 : Int) < ((nodesD n.kids).length : Nat)) = !decide (n.kids = []) := by
  rw [hk]; cases n.kids <;> simp
 have no : ∀ σ : Store, ownB n = false → ∃ r2 σ2, FinMove ⟨0, []⟩ (AV.d (.bool false)) σ r2 σ2 ∧ r2 = AV.d (.bool (ownB n)) ∧ σ2.n = 0 := fun σ h => ⟨_, _, fin_out rfl, by rw [h], rfl⟩
 refine E.seq (E.of Tryz.wf Tryz.tab_ok ?_)
 rw [hO] at no ⊢
 refine midT Tryz.wf Tryz.tab_ok (fun s' σ => (!(rawB n.name || !small n.name [45] || !decide (n.text = []) || decide (n.name ∈ voids) && !decide (n.kids = []))) = true ∧ s' = [(1, .ref 0 0 0)] ∧ σ = ⟨1, [(0, nodeO n)]⟩) ?_ ?_
 ·have hz0 : n.kids = [] → decide (n.kids = []) = true := fun h => decide_eq_true h
  refine ⟨_, rfl, _, rfl, ?_⟩
  refine PureC.use c1 ?_
  generalize rawB n.name = b1 at *
  cases b1 with
  | true =>
   repeat (first | refine ⟨fun _ => ?_, fun h => absurd h (by decide)⟩ | refine ⟨fun h => absurd h (by decide), fun _ => ?_⟩)
   exact no _ rfl
  | false =>
   repeat (first | refine ⟨fun _ => ?_, fun h => absurd h (by decide)⟩ | refine ⟨fun h => absurd h (by decide), fun _ => ?_⟩)
   refine ⟨_, rfl, _, rfl, ?_⟩
   refine PureC.use c2 ?_
   generalize small n.name [45] = b2 at *
   cases b2 with
   | false =>
    repeat (first | refine ⟨fun _ => ?_, fun h => absurd h (by decide)⟩ | refine ⟨fun h => absurd h (by decide), fun _ => ?_⟩)
    exact no _ rfl
   | true =>
    repeat (first | refine ⟨fun _ => ?_, fun h => absurd h (by decide)⟩ | refine ⟨fun h => absurd h (by decide), fun _ => ?_⟩)
    refine ⟨_, rfl, _, rfl, ?_⟩
    by_cases ht : n.text = []
    ·rw [decide_eq_true ht] at no ⊢
     refine ⟨fun _ => ?_, fun h => absurd h (by rw [ht]; decide)⟩
     refine ⟨_, rfl, _, rfl, ?_⟩
     refine PureC.use c3 ?_
     generalize decide (n.name ∈ voids) = b3 at *
     cases b3 with
     | true =>
      repeat (first | refine ⟨fun _ => ?_, fun h => absurd h (by decide)⟩ | refine ⟨fun h => absurd h (by decide), fun _ => ?_⟩)
      refine ⟨_, rfl, _, rfl, ?_⟩
      by_cases hz : n.kids = []
      ·rw [decide_eq_true hz] at hkz ⊢
       refine ⟨fun h => absurd (h.symm.trans hkz) (by decide), fun _ => ?_⟩
       exact ⟨_, _, ⟨rfl, rfl, rfl⟩, Mv.of [.old 0] rfl rfl rfl ⟨⟨rfl, .inl ⟨rfl, fun row h => by rw [List.mem_singleton.1 h]; rfl⟩⟩, trivial⟩ ⟨⟨rfl, rfl, rfl⟩, trivial⟩⟩
      ·rw [decide_eq_false hz] at no hkz ⊢
       refine ⟨fun _ => no _ rfl, fun h => absurd (h.symm.trans hkz) (by decide)⟩
     | false =>
      repeat (first | refine ⟨fun _ => ?_, fun h => absurd h (by decide)⟩ | refine ⟨fun h => absurd h (by decide), fun _ => ?_⟩)
      exact ⟨_, _, ⟨rfl, rfl, rfl⟩, Mv.of [.old 0] rfl rfl rfl ⟨⟨rfl, .inl ⟨rfl, fun row h => by rw [List.mem_singleton.1 h]; rfl⟩⟩, trivial⟩ ⟨⟨rfl, rfl, rfl⟩, trivial⟩⟩
    ·rw [decide_eq_false ht] at no ⊢
     refine ⟨fun h => absurd h (by show ¬ (!decide (n.text = [])) = false; rw [decide_eq_false ht]; decide), fun _ => ?_⟩
     exact no _ rfl
 ·rintro _ _ ⟨hQ, rfl, rfl⟩
  rw [hQ] at no ⊢
  rw [Bool.true_and] at no ⊢
  unfold nodeO
  generalize n.attrs = l at *
  generalize n.name = na at *
  generalize n.text = nt at *
  generalize nodesD n.kids = nk at *
  refine E.seq (E.of Tryz.wf Tryz.tab_ok ?_)
  refine E.seq (E.of Tryz.wf Tryz.tab_ok ?_)
  refine ⟨_, rfl, _, rfl, ?_⟩
  refine loopT Tryz.wf Tryz.tab_ok (fun m s' σ => ∃ (k : Nat) (es : List (AV × AV)), m = l.length - k ∧ k ≤ l.length ∧ attrsFrom ((l.take k).map Prod.fst) (l.drop k) = attrsFrom [] l ∧ strKeys es ∧ (∀ e ∈ es, e.1.pure = true ∧ e.2.pure = true) ∧ (∀ x, mlook x es = if x ∈ (l.take k).map Prod.fst then some (.d (.bool true)) else none) ∧ s' = [(5, .mp 0), (39, .d (.sl (attrsD l))), (40, .d (.int .i64 l.length)), (41, .d (.int .i64 k))] ∧ σ = ⟨1, [(0, .map es)]⟩)
   ⟨0, [], rfl, Nat.zero_le _, rfl, fun e he => by simp at he, fun e he => by simp at he, fun x => by simp [mlook], rfl, rfl⟩ (Mv.of [.old 1] rfl rfl rfl ⟨.inl ⟨rfl, fun e he => by simp at he⟩, trivial⟩ ⟨rfl, rfl, by rw [← ha]; rfl, rfl, trivial⟩) ?_
  rintro _ _ _ ⟨k, es, rfl, hk', hI, hes, hpu, hml, rfl, rfl⟩
  have hl1 := hl.1
  refine ⟨fun h => ?_, fun h => ?_⟩
  ·have hlt : k < l.length := by have := of_decide_eq_true h; omega
   clear h
   rw [List.drop_eq_getElem_cons hlt, attrsFrom] at hI
   have hsm : attrsFrom ((l.take (k + 1)).map Prod.fst) (l.drop (k + 1)) = attrsFrom ((l.take k).map Prod.fst ++ [l[k].1]) (l.drop (k + 1)) := by rw [List.take_succ_eq_append_getElem hlt, List.map_append]; rfl
   have htk : (l.take (k + 1)).map Prod.fst = (l.take k).map Prod.fst ++ [l[k].1] := by rw [List.take_succ_eq_append_getElem hlt, List.map_append]; rfl
   have c5 := small_ok l[k].1 [45, 95, 58] (by have := (hl.2 _ (List.getElem_mem hlt)).1; omega) (by decide)
   refine ⟨⟨by omega, by rw [ha]; omega⟩, _, attrsD_get l k hlt, rfl, ?_⟩
   refine ⟨Nat.le_refl _, _, rfl, rfl, Nat.le_refl _, ?_⟩
   refine ⟨_, rfl, _, rfl, ?_⟩
   refine PureC.use c5 ?_
   generalize small l[k].1 [45, 95, 58] = b1 at *
   have no2 : ∀ σ : Store, attrsFrom [] l = false → ∃ r2 σ2, FinMove ⟨0, []⟩ (AV.d (.bool false)) σ r2 σ2 ∧ r2 = AV.d (.bool (attrsFrom [] l)) ∧ σ2.n = 0 := fun σ h => ⟨_, _, fin_out rfl, by rw [h], rfl⟩
   cases b1 with
   | false =>
    repeat (first | refine ⟨fun _ => ?_, fun h => absurd h (by decide)⟩ | refine ⟨fun h => absurd h (by decide), fun _ => ?_⟩)
    exact no2 _ hI.symm
   | true =>
    repeat (first | refine ⟨fun _ => ?_, fun h => absurd h (by decide)⟩ | refine ⟨fun h => absurd h (by decide), fun _ => ?_⟩)
    refine ⟨_, rfl, _, rfl, ?_⟩
    have hm := hml l[k].1
    refine ⟨rfl, es, _, rfl, hes, rfl, rfl, ?_⟩
    by_cases hin : l[k].1 ∈ (l.take k).map Prod.fst
    ·rw [if_pos hin] at hm
     rw [decide_eq_true hin] at hI
     rw [hm]
     repeat (first | refine ⟨fun _ => ?_, fun h => absurd h (by decide)⟩ | refine ⟨fun h => absurd h (by decide), fun _ => ?_⟩)
     exact no2 _ hI.symm
    ·rw [if_neg hin] at hm
     rw [decide_eq_false hin] at hI
     rw [hm]
     repeat (first | refine ⟨fun _ => ?_, fun h => absurd h (by decide)⟩ | refine ⟨fun h => absurd h (by decide), fun _ => ?_⟩)
     refine ⟨_, rfl, _, rfl, ?_⟩
     refine ⟨rfl, es, rfl, hes, ?_⟩
     repeat (first | refine ⟨fun _ => ?_, fun h => absurd (of_decide_eq_false h) (by omega)⟩ | refine ⟨fun h => absurd (of_decide_eq_true h) (by omega), fun _ => ?_⟩ | refine ⟨fun _ => ?_, fun h => absurd (of_decide_eq_true h) (by omega)⟩ | refine ⟨fun h => absurd (of_decide_eq_false h) (by omega), fun _ => ?_⟩ | refine .inl ⟨⟨by omega, by omega⟩, ?_⟩ | refine ⟨⟨by omega, by omega⟩, ?_⟩)
     refine ⟨_, _, _, ⟨k + 1, _, rfl, hlt, hsm.trans hI, strKeys_mput _ _ _ hes, pure_mput _ _ rfl _ hpu, fun x => ?_, rfl, rfl⟩, by omega, Mv.of [.old 0] rfl rfl rfl ⟨.inl ⟨rfl, pure_mput _ _ rfl _ hpu⟩, trivial⟩ ⟨rfl, rfl, rfl, rfl, trivial⟩⟩
     rw [mlook_mput _ _ _ _ hes, htk]
     simp only [List.mem_append, List.mem_singleton]
     by_cases hx : x = l[k].1
     ·rw [if_pos hx, if_pos (Or.inr hx)]; rfl
     ·rw [if_neg hx, hml x]
      by_cases hx2 : x ∈ (l.take k).map Prod.fst
      ·rw [if_pos hx2, if_pos (Or.inl hx2)]
      ·rw [if_neg hx2, if_neg (fun h => h.elim hx2 hx)]
  ·refine E.of Tryz.wf Tryz.tab_ok ?_
   have hk2 : k = l.length := by have := of_decide_eq_false h; omega
   subst hk2
   refine ⟨_, _, fin_out rfl, congrArg (fun b => AV.d (.bool b)) ?_, rfl⟩
   rw [← hI, List.drop_length]; rfl
end Go.Proofs.YtfchacihhljfhaaGreatDoor
namespace Go.Proofs.YtfchacihhljfhaaGreatDoor
open Go.Aw
set_option maxHeartbeats 1600000
set_option linter.unusedSimpArgs false
set_option linter.unusedVariables false
mutual
def dpN : Node → Nat
 | .mk nm _ _ k => if nm = [] then 0 else dpL k + 1
def dpL : List Node → Nat
 | [] => 0
 | n :: r => max (dpN n) (dpL r)
end
theorem dpN_eq (n : Node) : dpN n = if n.name = [] then 0 else dpL n.kids + 1 := by cases n; unfold dpN; rfl
theorem dpL_cons (n : Node) (r : List Node) : dpL (n :: r) = max (dpN n) (dpL r) := by rw [dpL]
mutual
theorem dp_sz : ∀ n : Node, dpN n ≤ szN n
 | .mk nm a t k => by
  have := dp_szL k
  unfold dpN szN
  split <;> omega
theorem dp_szL : ∀ l : List Node, dpL l ≤ szL l
 | [] => by simp [dpL]
 | n :: r => by
  have h1 := dp_sz n
  have h2 := dp_szL r
  unfold dpL szL
  omega
end
theorem szN_pos (n : Node) : 1 ≤ szN n := by rw [szN_eq]; omega
theorem sz_len : ∀ l : List Node, l.length ≤ szL l
 | [] => by simp
 | n :: r => by have := sz_len r; have := szN_pos n; rw [szL_cons]; simp only [List.length_cons]; omega
def sizeV (l : List Node) : AV := .tup [.d (.int .i64 (szL l)), .d (.int .i64 (dpL l))]
theorem max_is (a b : Nat) : (if ((b : Nat) : Int) > ((a : Nat) : Int) then ((b : Nat) : Int) else ((a : Nat) : Int)) = ((max a b : Nat) : Int) := by
 rw [Nat.max_def]
 by_cases h : b > a
 ·rw [if_pos (by omega), if_pos (by omega)]
 ·rw [if_neg (by omega)]
  by_cases h2 : a ≤ b
  ·rw [if_pos h2]; omega
  ·rw [if_neg h2]
theorem max_is1 (a b : Nat) : ((max a (b + 1) : Nat) : Int) = (if (1 + ((b : Nat) : Int)) > ((a : Nat) : Int) then (1 + ((b : Nat) : Int)) else ((a : Nat) : Int)) := by
 rw [← max_is a (b + 1), show (1 + ((b : Nat) : Int)) = ((b + 1 : Nat) : Int) by omega]
theorem max_is2 (a b : Nat) : ((max a (b + 1) : Nat) : Int) = (if (((b : Nat) : Int) + 1) > ((a : Nat) : Int) then (((b : Nat) : Int) + 1) else ((a : Nat) : Int)) := by
 rw [← max_is a (b + 1)]; rfl
set_option maxRecDepth 100000 in
theorem Size_ok (N : Nat) : ∀ (l : List Node), szL l ≤ N → N ≤ 1000000000 → PureC Tryz.prog 10 [.d (.sl (nodesD l))] (sizeV l) := by
 induction N using Nat.strongRecOn with
 | ind N ih =>
 intro l hN hB
 refine pure_okT Tryz.wf Tryz.tab_ok Tryz.func10 (by decide +kernel) rfl rfl rfl rfl ?_
 have hn := nodesD_len l
 have hdp := dp_szL l
 have hsl := sz_len l
 refine loopT Tryz.wf Tryz.tab_ok (fun m s' σ => ∃ (k a b : Nat), m = l.length - k ∧ k ≤ l.length ∧ a + szL (l.drop k) = szL l ∧ max b (dpL (l.drop k)) = dpL l ∧ s' = [(4, .d (.int .i64 a)), (5, .d (.int .i64 b)), (10, .d (.sl (nodesD l))), (11, .d (.int .i64 l.length)), (12, .d (.int .i64 k))] ∧ σ = ⟨0, []⟩)
  ⟨0, 0, 0, rfl, Nat.zero_le _, by simp, by simp, rfl, rfl⟩ (Mv.of [] rfl rfl rfl trivial ⟨rfl, rfl, rfl, by rw [← hn]; rfl, rfl, trivial⟩) ?_
 rintro _ _ _ ⟨k, a, b, rfl, hk, hA, hB2, rfl, rfl⟩
 refine ⟨fun h => ?_, fun h => ?_⟩
 ·have hlt : k < l.length := by have := of_decide_eq_true h; omega
  clear h
  rw [List.drop_eq_getElem_cons hlt] at hA hB2
  rw [szL_cons, szN_eq] at hA
  rw [dpL_cons, dpN_eq] at hB2
  refine ⟨⟨by omega, by rw [hn]; omega⟩, _, nodesD_get l k hlt, rfl, ?_⟩
  refine ⟨Nat.le_refl _, _, rfl, rfl, Nat.le_refl _, ?_⟩
  refine ⟨_, rfl, _, rfl, ?_⟩
  have hks := kids_lt (List.getElem_mem hlt)
  have c1 := ih (szL l[k].kids) (by omega) l[k].kids (Nat.le_refl _) (by omega)
  have hdk := dp_szL l[k].kids
  refine PureC.use c1 ?_
  repeat (first | refine ⟨fun _ => ?_, fun h => absurd (of_decide_eq_false h) (by omega)⟩ | refine ⟨fun h => absurd (of_decide_eq_true h) (by omega), fun _ => ?_⟩ | refine ⟨fun _ => ?_, fun h => absurd (of_decide_eq_true h) (by omega)⟩ | refine ⟨fun h => absurd (of_decide_eq_false h) (by omega), fun _ => ?_⟩ | refine .inl ⟨⟨by omega, by omega⟩, ?_⟩ | refine ⟨⟨by omega, by omega⟩, ?_⟩)
  refine ⟨_, rfl, _, rfl, ?_⟩
  have hA' : (a + 1 + szL l[k].kids) + szL (l.drop (k + 1)) = szL l := by omega
  refine ⟨fun h => ?_, fun h => ?_⟩
  ·have hne : ¬ l[k].name = [] := of_decide_eq_false (by simpa using h)
   rw [if_neg hne] at hB2
   repeat (first | refine ⟨fun _ => ?_, fun h => absurd (of_decide_eq_false h) (by omega)⟩ | refine ⟨fun h => absurd (of_decide_eq_true h) (by omega), fun _ => ?_⟩ | refine ⟨fun _ => ?_, fun h => absurd (of_decide_eq_true h) (by omega)⟩ | refine ⟨fun h => absurd (of_decide_eq_false h) (by omega), fun _ => ?_⟩ | refine .inl ⟨⟨by omega, by omega⟩, ?_⟩ | refine ⟨⟨by omega, by omega⟩, ?_⟩)
   refine ⟨_, _, _, ⟨k + 1, a + 1 + szL l[k].kids, max b (dpL l[k].kids + 1), rfl, hlt, hA', ?_, rfl, rfl⟩, by omega, Mv.of [] rfl rfl rfl trivial ⟨congrArg (D.int .i64) (show ((a + 1 + szL l[k].kids : Nat) : Int) = _ by omega), congrArg (D.int .i64) (max_is1 _ _), rfl, rfl, rfl, trivial⟩⟩
   rw [Nat.max_assoc]; exact hB2
  ·have hne : l[k].name = [] := of_decide_eq_true (by simpa using h)
   rw [if_pos hne] at hB2
   repeat (first | refine ⟨fun _ => ?_, fun h => absurd (of_decide_eq_false h) (by omega)⟩ | refine ⟨fun h => absurd (of_decide_eq_true h) (by omega), fun _ => ?_⟩ | refine ⟨fun _ => ?_, fun h => absurd (of_decide_eq_true h) (by omega)⟩ | refine ⟨fun h => absurd (of_decide_eq_false h) (by omega), fun _ => ?_⟩ | refine .inl ⟨⟨by omega, by omega⟩, ?_⟩ | refine ⟨⟨by omega, by omega⟩, ?_⟩)
   refine ⟨_, _, _, ⟨k + 1, a + 1 + szL l[k].kids, b, rfl, hlt, hA', ?_, rfl, rfl⟩, by omega, Mv.of [] rfl rfl rfl trivial ⟨congrArg (D.int .i64) (show ((a + 1 + szL l[k].kids : Nat) : Int) = _ by omega), rfl, rfl, rfl, rfl, trivial⟩⟩
   rw [← hB2, Nat.zero_max]
 ·have hk' : k = l.length := by have := of_decide_eq_false h; omega
  subst hk'
  rw [List.drop_length] at hA hB2
  have e1 : a = szL l := by rw [← hA]; rfl
  have e2 : b = dpL l := by rw [← hB2]; simp [dpL]
  subst e1
  subst e2
  exact ⟨_, _, fin_out rfl, rfl⟩
set_option maxRecDepth 100000 in
theorem rSize_ok (N : Nat) : ∀ (l : List Node), szL l ≤ N → N ≤ 1000000000 → PureC Tryz.prog 14 [.d (.sl (nodesD l))] (sizeV l) := by
 induction N using Nat.strongRecOn with
 | ind N ih =>
 intro l hN hB
 refine pure_okT Tryz.wf Tryz.tab_ok Tryz.func14 (by decide +kernel) rfl rfl rfl rfl ?_
 have hn := nodesD_len l
 have hdp := dp_szL l
 have hsl := sz_len l
 refine loopT Tryz.wf Tryz.tab_ok (fun m s' σ => ∃ (k a b : Nat), m = l.length - k ∧ k ≤ l.length ∧ a + szL (l.drop k) = szL l ∧ max b (dpL (l.drop k)) = dpL l ∧ s' = [(0, .d (.sl (nodesD l))), (4, .d (.int .i64 a)), (5, .d (.int .i64 b)), (6, .d (.int .i64 k))] ∧ σ = ⟨0, []⟩)
  ⟨0, 0, 0, rfl, Nat.zero_le _, by simp, by simp, rfl, rfl⟩ (Mv.of [] rfl rfl rfl trivial ⟨rfl, rfl, rfl, rfl, trivial⟩) ?_
 rintro _ _ _ ⟨k, a, b, rfl, hk, hA, hB2, rfl, rfl⟩
 refine ⟨fun h => ?_, fun h => ?_⟩
 ·have hlt : k < l.length := by have := of_decide_eq_true h; rw [hn] at this; omega
  clear h
  rw [List.drop_eq_getElem_cons hlt] at hA hB2
  rw [szL_cons, szN_eq] at hA
  rw [dpL_cons, dpN_eq] at hB2
  refine ⟨⟨by omega, by rw [hn]; omega⟩, _, nodesD_get l k hlt, rfl, _, rfl, ?_⟩
  have hks := kids_lt (List.getElem_mem hlt)
  have c1 := ih (szL l[k].kids) (by omega) l[k].kids (Nat.le_refl _) (by omega)
  have hdk := dp_szL l[k].kids
  refine PureC.use c1 ?_
  repeat (first | refine ⟨fun _ => ?_, fun h => absurd (of_decide_eq_false h) (by omega)⟩ | refine ⟨fun h => absurd (of_decide_eq_true h) (by omega), fun _ => ?_⟩ | refine ⟨fun _ => ?_, fun h => absurd (of_decide_eq_true h) (by omega)⟩ | refine ⟨fun h => absurd (of_decide_eq_false h) (by omega), fun _ => ?_⟩ | refine .inl ⟨⟨by omega, by omega⟩, ?_⟩ | refine ⟨⟨by omega, by omega⟩, ?_⟩)
  have hA' : (a + 1 + szL l[k].kids) + szL (l.drop (k + 1)) = szL l := by omega
  refine ⟨_, nodesD_get l k hlt, rfl, _, rfl, ?_⟩
  refine ⟨fun h => ?_, fun h => ?_⟩
  ·have hne : ¬ l[k].name = [] := of_decide_eq_false (by simpa using h)
   rw [if_neg hne] at hB2
   repeat (first | refine ⟨fun _ => ?_, fun h => absurd (of_decide_eq_false h) (by omega)⟩ | refine ⟨fun h => absurd (of_decide_eq_true h) (by omega), fun _ => ?_⟩ | refine ⟨fun _ => ?_, fun h => absurd (of_decide_eq_true h) (by omega)⟩ | refine ⟨fun h => absurd (of_decide_eq_false h) (by omega), fun _ => ?_⟩ | refine .inl ⟨⟨by omega, by omega⟩, ?_⟩ | refine ⟨⟨by omega, by omega⟩, ?_⟩)
   refine ⟨_, _, _, ⟨k + 1, a + 1 + szL l[k].kids, max b (dpL l[k].kids + 1), rfl, hlt, hA', ?_, rfl, rfl⟩, by omega, Mv.of [] rfl rfl rfl trivial ⟨rfl, rfl, congrArg (D.int .i64) (max_is2 _ _), rfl, trivial⟩⟩
   rw [Nat.max_assoc]; exact hB2
  ·have hne : l[k].name = [] := of_decide_eq_true (by simpa using h)
   rw [if_pos hne] at hB2
   repeat (first | refine ⟨fun _ => ?_, fun h => absurd (of_decide_eq_false h) (by omega)⟩ | refine ⟨fun h => absurd (of_decide_eq_true h) (by omega), fun _ => ?_⟩ | refine ⟨fun _ => ?_, fun h => absurd (of_decide_eq_true h) (by omega)⟩ | refine ⟨fun h => absurd (of_decide_eq_false h) (by omega), fun _ => ?_⟩ | refine .inl ⟨⟨by omega, by omega⟩, ?_⟩ | refine ⟨⟨by omega, by omega⟩, ?_⟩)
   refine ⟨_, _, _, ⟨k + 1, a + 1 + szL l[k].kids, b, rfl, hlt, hA', ?_, rfl, rfl⟩, by omega, Mv.of [] rfl rfl rfl trivial ⟨rfl, rfl, rfl, rfl, trivial⟩⟩
   rw [← hB2, Nat.zero_max]
 ·have hk' : k = l.length := by have := of_decide_eq_false h; rw [hn] at this; omega
  subst hk'
  rw [List.drop_length] at hA hB2
  have e1 : a = szL l := by rw [← hA]; rfl
  have e2 : b = dpL l := by rw [← hB2]; simp [dpL]
  subst e1
  subst e2
  exact ⟨_, _, fin_out rfl, rfl⟩
def inLi (li : Bool) (nm : List UInt8) : Bool := if nm = [108, 105] then true else if nm = [117, 108] ∨ nm = [111, 108] then false else li
mutual
/-- A named node within; a node of text. -/
def stN (p li : Bool) : Node → Bool
 | .mk nm a t k => ownB (.mk nm a t k) && !(p && decide (nm ∈ blocks)) && !(li && decide (nm = [108, 105])) && stL false (p || decide (nm = [112])) (inLi li nm) k
def stL (tx p li : Bool) : List Node → Bool
 | [] => true
 | n :: r => if n.name = [] then (!tx && !decide (n.text = []) && decide (n.attrs = []) && decide (n.kids = [])) && stL true p li r else stN p li n && stL false p li r
end
theorem stN_eq (p li : Bool) (n : Node) : stN p li n = (ownB n && !(p && decide (n.name ∈ blocks)) && !(li && decide (n.name = [108, 105])) && stL false (p || decide (n.name = [112])) (inLi li n.name) n.kids) := by
 cases n; unfold stN; rfl
theorem stL_cons (tx p li : Bool) (n : Node) (r : List Node) : stL tx p li (n :: r) = if n.name = [] then (!tx && !decide (n.text = []) && decide (n.attrs = []) && decide (n.kids = [])) && stL true p li r else stN p li n && stL false p li r := by rw [stL]
mutual
/-- All texts are short. -/
def ShN : Node → Prop
 | .mk nm a t k => nm.length ≤ 1000000000 ∧ Short a ∧ t.length ≤ 1000000000 ∧ ShL k
def ShL : List Node → Prop
 | [] => True
 | n :: r => ShN n ∧ ShL r
end
theorem ShN_eq (n : Node) : ShN n ↔ (n.name.length ≤ 1000000000 ∧ Short n.attrs ∧ n.text.length ≤ 1000000000 ∧ ShL n.kids) := by cases n; unfold ShN; rfl
theorem ShL_mem : ∀ {l : List Node}, ShL l → ∀ n ∈ l, ShN n
 | [], _, n, h => by simp at h
 | m :: r, hs, n, h => by
  unfold ShL at hs
  rcases List.mem_cons.1 h with rfl | h
  ·exact hs.1
  ·exact ShL_mem hs.2 n h
set_option maxRecDepth 100000 in
theorem stable_ok (N : Nat) : ∀ (l : List Node) (p li : Bool), szL l ≤ N → N ≤ 1000000000 → ShL l → PureC Tryz.prog 17 [.d (.sl (nodesD l)), .d (.bool p), .d (.bool li)] (.d (.bool (stL false p li l))) := by
 induction N using Nat.strongRecOn with
 | ind N ih =>
 intro l p li hN hB hS
 refine PureC.of rfl rfl (fn_okTE Tryz.wf Tryz.tab_ok Tryz.func17 (by decide +kernel) rfl rfl ?_)
 have hn := nodesD_len l
 have hsl := sz_len l
 refine E.seq (E.of Tryz.wf Tryz.tab_ok ?_)
 refine E.seq (E.of Tryz.wf Tryz.tab_ok ?_)
 refine E.seq (E.of Tryz.wf Tryz.tab_ok ?_)
 refine loopE (fun m s' σ => ∃ (k : Nat) (tx : Bool), m = l.length - k ∧ k ≤ l.length ∧ stL tx p li (l.drop k) = stL false p li l ∧ s' = [(1, .d (.bool p)), (2, .d (.bool li)), (7, .d (.bool tx)), (11, .d (.sl (nodesD l))), (12, .d (.int .i64 l.length)), (13, .d (.int .i64 k))] ∧ σ = ⟨0, []⟩)
  ⟨0, false, rfl, Nat.zero_le _, rfl, rfl, rfl⟩ (Mv.of [] rfl rfl rfl trivial ⟨rfl, rfl, rfl, rfl, by rw [← hn]; rfl, rfl, trivial⟩) ?_
 rintro _ _ _ ⟨k, tx, rfl, hk, hI, rfl, rfl⟩
 have no : ∀ σ : Store, stL false p li l = false → ∃ r2 σ2, FinMove ⟨0, []⟩ (AV.d (.bool false)) σ r2 σ2 ∧ r2 = AV.d (.bool (stL false p li l)) ∧ σ2.n = 0 := fun σ h => ⟨_, _, fin_out rfl, by rw [h], rfl⟩
 refine E.seq (E.of Tryz.wf Tryz.tab_ok ?_)
 refine E.seq (E.of Tryz.wf Tryz.tab_ok ?_)
 refine ⟨fun h => ?_, fun h => ?_⟩
 ·have hlt : k < l.length := by have := of_decide_eq_true h; omega
  clear h
  rw [List.drop_eq_getElem_cons hlt, stL_cons] at hI
  have hks := kids_lt (List.getElem_mem hlt)
  have hsn := (ShN_eq _).1 (ShL_mem hS _ (List.getElem_mem hlt))
  have hget := nodesD_get l k hlt
  have hkl := nodesD_len l[k].kids
  have hal := attrsD_len l[k].attrs
  have c1 := own_ok l[k] hsn.1 hsn.2.1
  have c2 := Block_ok l[k].name
  have c3 := ih (szL l[k].kids) (by omega) l[k].kids (p || decide (l[k].name = [112])) (inLi li l[k].name) (Nat.le_refl _) (by omega) hsn.2.2.2
  refine E.seq (blockE ?_)
  refine E.seq (E.of Tryz.wf Tryz.tab_ok ?_)
  refine ⟨⟨by omega, by rw [hn]; omega⟩, _, hget, rfl, ?_⟩
  refine ⟨Nat.le_refl _, _, rfl, rfl, Nat.le_refl _, ?_⟩
  refine midT Tryz.wf Tryz.tab_ok (fun s' σ => l[k].name ≠ [] ∧ s' = [(1, .d (.bool p)), (2, .d (.bool li)), (9, .ref 0 0 0), (11, .d (.sl (nodesD l))), (12, .d (.int .i64 l.length)), (13, .d (.int .i64 k))] ∧ σ = ⟨1, [(0, nodeO l[k])]⟩) ?_ ?_
  ·refine ⟨_, rfl, _, rfl, ?_⟩
   have haz : decide ((0 : Int) < ((attrsD l[k].attrs).length : Nat)) = !decide (l[k].attrs = []) := by
    rw [hal]; cases l[k].attrs <;> simp
   have hkz : decide ((0 : Int) < ((nodesD l[k].kids).length : Nat)) = !decide (l[k].kids = []) := by
    rw [hkl]; cases l[k].kids <;> simp
   by_cases hne : l[k].name = []
   ·rw [if_pos hne] at hI
    refine ⟨fun _ => ?_, fun h => absurd (of_decide_eq_false h) (fun h => h hne)⟩
    cases tx with
    | true =>
     repeat (first | refine ⟨fun _ => ?_, fun h => absurd h (by decide)⟩ | refine ⟨fun h => absurd h (by decide), fun _ => ?_⟩)
     exact no _ hI.symm
    | false =>
     repeat (first | refine ⟨fun _ => ?_, fun h => absurd h (by decide)⟩ | refine ⟨fun h => absurd h (by decide), fun _ => ?_⟩)
     refine ⟨_, rfl, _, rfl, ?_⟩
     by_cases ht : l[k].text = []
     ·rw [decide_eq_true ht] at hI
      refine ⟨fun h => absurd (of_decide_eq_false h) (fun h => h ht), fun _ => ?_⟩
      repeat (first | refine ⟨fun _ => ?_, fun h => absurd h (by decide)⟩ | refine ⟨fun h => absurd h (by decide), fun _ => ?_⟩)
      exact no _ hI.symm
     ·rw [decide_eq_false ht] at hI
      refine ⟨fun _ => ?_, fun h => absurd (of_decide_eq_true h) ht⟩
      refine ⟨_, rfl, _, rfl, ?_⟩
      by_cases hza : l[k].attrs = []
      ·rw [decide_eq_true hza] at hI haz
       refine ⟨fun _ => ?_, fun h => absurd (h.symm.trans haz) (by decide)⟩
       refine ⟨_, rfl, _, rfl, ?_⟩
       by_cases hzk : l[k].kids = []
       ·rw [decide_eq_true hzk] at hI hkz
        refine ⟨fun h => absurd (h.symm.trans hkz) (by decide), fun _ => ?_⟩
        refine E.of Tryz.wf Tryz.tab_ok ?_
        repeat (first | refine ⟨fun _ => ?_, fun h => absurd (of_decide_eq_false h) (by omega)⟩ | refine ⟨fun h => absurd (of_decide_eq_true h) (by omega), fun _ => ?_⟩ | refine ⟨fun _ => ?_, fun h => absurd (of_decide_eq_true h) (by omega)⟩ | refine ⟨fun h => absurd (of_decide_eq_false h) (by omega), fun _ => ?_⟩ | refine .inl ⟨⟨by omega, by omega⟩, ?_⟩ | refine ⟨⟨by omega, by omega⟩, ?_⟩)
        refine ⟨_, _, _, ⟨k + 1, true, rfl, hlt, hI, rfl, rfl⟩, by omega, Mv.of [] rfl rfl rfl trivial ⟨rfl, rfl, rfl, rfl, rfl, rfl, trivial⟩⟩
       ·rw [decide_eq_false hzk] at hI hkz
        refine ⟨fun _ => ?_, fun h => absurd (h.symm.trans hkz) (by decide)⟩
        exact no _ hI.symm
      ·rw [decide_eq_false hza] at hI haz
       refine ⟨fun h => absurd (h.symm.trans haz) (by decide), fun _ => ?_⟩
       repeat (first | refine ⟨fun _ => ?_, fun h => absurd h (by decide)⟩ | refine ⟨fun h => absurd h (by decide), fun _ => ?_⟩)
       exact no _ hI.symm
   ·refine ⟨fun h => absurd (of_decide_eq_true h) hne, fun _ => ?_⟩
    exact ⟨_, _, ⟨hne, rfl, rfl⟩, Mv.of [.old 0] rfl rfl rfl ⟨⟨rfl, .inl ⟨rfl, fun row h => by rw [List.mem_singleton.1 h]; rfl⟩⟩, trivial⟩ ⟨rfl, rfl, ⟨rfl, rfl, rfl⟩, rfl, rfl, rfl, trivial⟩⟩
  rintro _ _ ⟨hne, rfl, rfl⟩
  rw [if_neg hne, stN_eq] at hI
  refine E.seq (E.of Tryz.wf Tryz.tab_ok ?_)
  refine midT Tryz.wf Tryz.tab_ok (fun s' σ => (ownB l[k] && !(p && decide (l[k].name ∈ blocks)) && !(li && decide (l[k].name = [108, 105]))) = true ∧ s' = [(1, .d (.bool p)), (2, .d (.bool li)), (7, .d (.bool false)), (9, .ref 0 0 0), (11, .d (.sl (nodesD l))), (12, .d (.int .i64 l.length)), (13, .d (.int .i64 k))] ∧ σ = ⟨1, [(0, nodeO l[k])]⟩) ?_ ?_
  ·have hnm : nodeA l[k] = .agg [.d (.str l[k].name), .d (.sl (attrsD l[k].attrs)), .d (.str l[k].text), .d (.sl (nodesD l[k].kids))] := rfl
   refine ⟨_, rfl, Nat.le_refl _, ?_⟩
   refine PureC.use c1 ?_
   generalize ownB l[k] = o at *
   cases o with
   | false =>
    repeat (first | refine ⟨fun _ => ?_, fun h => absurd h (by decide)⟩ | refine ⟨fun h => absurd h (by decide), fun _ => ?_⟩)
    exact no _ hI.symm
   | true =>
    repeat (first | refine ⟨fun _ => ?_, fun h => absurd h (by decide)⟩ | refine ⟨fun h => absurd h (by decide), fun _ => ?_⟩)
    cases p with
    | true =>
     repeat (first | refine ⟨fun _ => ?_, fun h => absurd h (by decide)⟩ | refine ⟨fun h => absurd h (by decide), fun _ => ?_⟩)
     refine ⟨_, rfl, _, rfl, ?_⟩
     refine PureC.use c2 ?_
     generalize decide (l[k].name ∈ blocks) = bl at *
     cases bl with
     | true =>
      repeat (first | refine ⟨fun _ => ?_, fun h => absurd h (by decide)⟩ | refine ⟨fun h => absurd h (by decide), fun _ => ?_⟩)
      exact no _ hI.symm
     | false =>
      repeat (first | refine ⟨fun _ => ?_, fun h => absurd h (by decide)⟩ | refine ⟨fun h => absurd h (by decide), fun _ => ?_⟩)
      cases li with
      | true =>
       repeat (first | refine ⟨fun _ => ?_, fun h => absurd h (by decide)⟩ | refine ⟨fun h => absurd h (by decide), fun _ => ?_⟩)
       refine ⟨_, rfl, _, rfl, ?_⟩
       by_cases hli : l[k].name = [108, 105]
       ·rw [decide_eq_true hli] at hI
        refine ⟨fun _ => ?_, fun h => absurd (of_decide_eq_false h) (fun h => h hli)⟩
        exact no _ hI.symm
       ·rw [decide_eq_false hli]
        refine ⟨fun h => absurd (of_decide_eq_true h) hli, fun _ => ?_⟩
        exact ⟨_, _, ⟨rfl, rfl, rfl⟩, Mv.of [.old 0] rfl rfl rfl ⟨⟨rfl, .inl ⟨rfl, fun row h => by rw [List.mem_singleton.1 h]; rfl⟩⟩, trivial⟩ ⟨rfl, rfl, rfl, ⟨rfl, rfl, rfl⟩, rfl, rfl, rfl, trivial⟩⟩
      | false =>
       repeat (first | refine ⟨fun _ => ?_, fun h => absurd h (by decide)⟩ | refine ⟨fun h => absurd h (by decide), fun _ => ?_⟩)
       exact ⟨_, _, ⟨rfl, rfl, rfl⟩, Mv.of [.old 0] rfl rfl rfl ⟨⟨rfl, .inl ⟨rfl, fun row h => by rw [List.mem_singleton.1 h]; rfl⟩⟩, trivial⟩ ⟨rfl, rfl, rfl, ⟨rfl, rfl, rfl⟩, rfl, rfl, rfl, trivial⟩⟩
    | false =>
     repeat (first | refine ⟨fun _ => ?_, fun h => absurd h (by decide)⟩ | refine ⟨fun h => absurd h (by decide), fun _ => ?_⟩)
     cases li with
     | true =>
      repeat (first | refine ⟨fun _ => ?_, fun h => absurd h (by decide)⟩ | refine ⟨fun h => absurd h (by decide), fun _ => ?_⟩)
      refine ⟨_, rfl, _, rfl, ?_⟩
      by_cases hli : l[k].name = [108, 105]
      ·rw [decide_eq_true hli] at hI
       refine ⟨fun _ => ?_, fun h => absurd (of_decide_eq_false h) (fun h => h hli)⟩
       exact no _ hI.symm
      ·rw [decide_eq_false hli]
       refine ⟨fun h => absurd (of_decide_eq_true h) hli, fun _ => ?_⟩
       exact ⟨_, _, ⟨rfl, rfl, rfl⟩, Mv.of [.old 0] rfl rfl rfl ⟨⟨rfl, .inl ⟨rfl, fun row h => by rw [List.mem_singleton.1 h]; rfl⟩⟩, trivial⟩ ⟨rfl, rfl, rfl, ⟨rfl, rfl, rfl⟩, rfl, rfl, rfl, trivial⟩⟩
     | false =>
      repeat (first | refine ⟨fun _ => ?_, fun h => absurd h (by decide)⟩ | refine ⟨fun h => absurd h (by decide), fun _ => ?_⟩)
      exact ⟨_, _, ⟨rfl, rfl, rfl⟩, Mv.of [.old 0] rfl rfl rfl ⟨⟨rfl, .inl ⟨rfl, fun row h => by rw [List.mem_singleton.1 h]; rfl⟩⟩, trivial⟩ ⟨rfl, rfl, rfl, ⟨rfl, rfl, rfl⟩, rfl, rfl, rfl, trivial⟩⟩
  rintro _ _ ⟨hQ, rfl, rfl⟩
  rw [hQ, Bool.true_and] at hI
  refine E.seq (E.of Tryz.wf Tryz.tab_ok ?_)
  refine midT Tryz.wf Tryz.tab_ok (fun s' σ => s' = [(1, .d (.bool p)), (2, .d (.bool li)), (7, .d (.bool false)), (9, .ref 0 0 0), (10, .d (.bool (inLi li l[k].name))), (11, .d (.sl (nodesD l))), (12, .d (.int .i64 l.length)), (13, .d (.int .i64 k))] ∧ σ = ⟨1, [(0, nodeO l[k])]⟩) ?_ ?_
  ·refine ⟨_, rfl, _, rfl, ?_⟩
   have go : ∀ b : Bool, inLi li l[k].name = b → vrelS (phi 0 [.old 0]) [(1, .d (.bool p)), (2, .d (.bool li)), (7, .d (.bool false)), (9, .ref 0 0 0), (10, .d (.bool b)), (11, .d (.sl (nodesD l))), (12, .d (.int .i64 l.length)), (13, .d (.int .i64 k))] [(1, .d (.bool p)), (2, .d (.bool li)), (7, .d (.bool false)), (9, .ref 0 0 0), (10, .d (.bool (inLi li l[k].name))), (11, .d (.sl (nodesD l))), (12, .d (.int .i64 l.length)), (13, .d (.int .i64 k))] := fun b h => by
    rw [h]; exact ⟨rfl, rfl, rfl, ⟨rfl, rfl, rfl⟩, rfl, rfl, rfl, rfl, trivial⟩
   by_cases h1 : l[k].name = [108, 105]
   ·refine ⟨fun _ => ?_, fun h => absurd (of_decide_eq_false h) (fun h => h h1)⟩
    exact ⟨_, _, ⟨rfl, rfl⟩, Mv.of [.old 0] rfl rfl rfl ⟨⟨rfl, .inl ⟨rfl, fun row h => by rw [List.mem_singleton.1 h]; rfl⟩⟩, trivial⟩ (go true (by unfold inLi; rw [if_pos h1]))⟩
   ·refine ⟨fun h => absurd (of_decide_eq_true h) h1, fun _ => ?_⟩
    by_cases h2 : l[k].name = [117, 108]
    ·refine ⟨fun _ => ?_, fun h => absurd (of_decide_eq_false h) (fun h => h h2)⟩
     exact ⟨_, _, ⟨rfl, rfl⟩, Mv.of [.old 0] rfl rfl rfl ⟨⟨rfl, .inl ⟨rfl, fun row h => by rw [List.mem_singleton.1 h]; rfl⟩⟩, trivial⟩ (go false (by unfold inLi; rw [if_neg h1, if_pos (.inl h2)]))⟩
    ·refine ⟨fun h => absurd (of_decide_eq_true h) h2, fun _ => ?_⟩
     by_cases h3 : l[k].name = [111, 108]
     ·refine ⟨fun _ => ?_, fun h => absurd (of_decide_eq_false h) (fun h => h h3)⟩
      exact ⟨_, _, ⟨rfl, rfl⟩, Mv.of [.old 0] rfl rfl rfl ⟨⟨rfl, .inl ⟨rfl, fun row h => by rw [List.mem_singleton.1 h]; rfl⟩⟩, trivial⟩ (go false (by unfold inLi; rw [if_neg h1, if_pos (.inr h3)]))⟩
     ·refine ⟨fun h => absurd (of_decide_eq_true h) h3, fun _ => ?_⟩
      exact ⟨_, _, ⟨rfl, rfl⟩, Mv.of [.old 0] rfl rfl rfl ⟨⟨rfl, .inl ⟨rfl, fun row h => by rw [List.mem_singleton.1 h]; rfl⟩⟩, trivial⟩ (go li (by unfold inLi; rw [if_neg h1, if_neg (fun h => h.elim h2 h3)]))⟩
  rintro _ _ ⟨rfl, rfl⟩
  refine E.of Tryz.wf Tryz.tab_ok ?_
  refine ⟨_, rfl, _, rfl, ?_⟩
  cases p with
  | true =>
   repeat (first | refine ⟨fun _ => ?_, fun h => absurd h (by decide)⟩ | refine ⟨fun h => absurd h (by decide), fun _ => ?_⟩)
   refine PureC.use c3 ?_
   rw [Bool.true_or] at hI
   rw [Bool.true_or]
   generalize stL false true (inLi li l[k].name) l[k].kids = b at *
   cases b with
   | false =>
    repeat (first | refine ⟨fun _ => ?_, fun h => absurd h (by decide)⟩ | refine ⟨fun h => absurd h (by decide), fun _ => ?_⟩)
    exact no _ hI.symm
   | true =>
    repeat (first | refine ⟨fun _ => ?_, fun h => absurd h (by decide)⟩ | refine ⟨fun h => absurd h (by decide), fun _ => ?_⟩)
    refine E.of Tryz.wf Tryz.tab_ok ?_
    repeat (first | refine ⟨fun _ => ?_, fun h => absurd (of_decide_eq_false h) (by omega)⟩ | refine ⟨fun h => absurd (of_decide_eq_true h) (by omega), fun _ => ?_⟩ | refine ⟨fun _ => ?_, fun h => absurd (of_decide_eq_true h) (by omega)⟩ | refine ⟨fun h => absurd (of_decide_eq_false h) (by omega), fun _ => ?_⟩ | refine .inl ⟨⟨by omega, by omega⟩, ?_⟩ | refine ⟨⟨by omega, by omega⟩, ?_⟩)
    exact ⟨_, _, _, ⟨k + 1, false, rfl, hlt, hI, rfl, rfl⟩, by omega, Mv.of [] rfl rfl rfl trivial ⟨rfl, rfl, rfl, rfl, rfl, rfl, trivial⟩⟩
  | false =>
   repeat (first | refine ⟨fun _ => ?_, fun h => absurd h (by decide)⟩ | refine ⟨fun h => absurd h (by decide), fun _ => ?_⟩)
   refine ⟨_, rfl, _, rfl, ?_⟩
   rw [Bool.false_or] at hI c3
   refine PureC.use c3 ?_
   generalize stL false (decide (l[k].name = [112])) (inLi li l[k].name) l[k].kids = b at *
   cases b with
   | false =>
    repeat (first | refine ⟨fun _ => ?_, fun h => absurd h (by decide)⟩ | refine ⟨fun h => absurd h (by decide), fun _ => ?_⟩)
    exact no _ hI.symm
   | true =>
    repeat (first | refine ⟨fun _ => ?_, fun h => absurd h (by decide)⟩ | refine ⟨fun h => absurd h (by decide), fun _ => ?_⟩)
    refine E.of Tryz.wf Tryz.tab_ok ?_
    repeat (first | refine ⟨fun _ => ?_, fun h => absurd (of_decide_eq_false h) (by omega)⟩ | refine ⟨fun h => absurd (of_decide_eq_true h) (by omega), fun _ => ?_⟩ | refine ⟨fun _ => ?_, fun h => absurd (of_decide_eq_true h) (by omega)⟩ | refine ⟨fun h => absurd (of_decide_eq_false h) (by omega), fun _ => ?_⟩ | refine .inl ⟨⟨by omega, by omega⟩, ?_⟩ | refine ⟨⟨by omega, by omega⟩, ?_⟩)
    exact ⟨_, _, _, ⟨k + 1, false, rfl, hlt, hI, rfl, rfl⟩, by omega, Mv.of [] rfl rfl rfl trivial ⟨rfl, rfl, rfl, rfl, rfl, rfl, trivial⟩⟩
 ·refine E.of Tryz.wf Tryz.tab_ok ?_
  have hk' : k = l.length := by have := of_decide_eq_false h; omega
  subst hk'
  rw [List.drop_length] at hI
  exact ⟨_, _, fin_out rfl, congrArg (fun b => AV.d (.bool b)) (show true = stL false p li l from hI), rfl⟩
def stableB (l : List Node) : Bool := decide (szL l ≤ 2000) && decide (dpL l ≤ 64) && stL false false false l
set_option maxRecDepth 100000 in
theorem Stable_ok (l : List Node) (hl : szL l ≤ 1000000000) (hS : ShL l) : PureC Tryz.prog 11 [.d (.sl (nodesD l))] (.d (.bool (stableB l))) := by
 refine pure_okT Tryz.wf Tryz.tab_ok Tryz.func11 (by decide +kernel) rfl rfl rfl rfl ?_
 have c1 := Size_ok (szL l) l (Nat.le_refl _) hl
 have c2 := stable_ok (szL l) l false false (Nat.le_refl _) hl hS
 unfold sizeV at c1
 unfold stableB
 generalize szL l = a at *
 generalize dpL l = b at *
 generalize stL false false false l = c at *
 refine PureC.use c1 ?_
 by_cases h1 : a ≤ 2000
 ·rw [decide_eq_true h1]
  by_cases h2 : b ≤ 64
  ·rw [decide_eq_true h2]
   repeat (first | refine ⟨fun _ => ?_, fun h => absurd (of_decide_eq_false h) (by omega)⟩ | refine ⟨fun h => absurd (of_decide_eq_true h) (by omega), fun _ => ?_⟩ | refine ⟨fun _ => ?_, fun h => absurd (of_decide_eq_true h) (by omega)⟩ | refine ⟨fun h => absurd (of_decide_eq_false h) (by omega), fun _ => ?_⟩ | refine .inl ⟨⟨by omega, by omega⟩, ?_⟩ | refine ⟨⟨by omega, by omega⟩, ?_⟩)
   exact PureC.use c2 ⟨_, _, fin_out rfl, rfl⟩
  ·rw [decide_eq_false h2]
   repeat (first | refine ⟨fun _ => ?_, fun h => absurd (of_decide_eq_false h) (by omega)⟩ | refine ⟨fun h => absurd (of_decide_eq_true h) (by omega), fun _ => ?_⟩ | refine ⟨fun _ => ?_, fun h => absurd (of_decide_eq_true h) (by omega)⟩ | refine ⟨fun h => absurd (of_decide_eq_false h) (by omega), fun _ => ?_⟩ | refine .inl ⟨⟨by omega, by omega⟩, ?_⟩ | refine ⟨⟨by omega, by omega⟩, ?_⟩)
   exact ⟨_, _, fin_out rfl, rfl⟩
 ·rw [decide_eq_false h1]
  repeat (first | refine ⟨fun _ => ?_, fun h => absurd (of_decide_eq_false h) (by omega)⟩ | refine ⟨fun h => absurd (of_decide_eq_true h) (by omega), fun _ => ?_⟩ | refine ⟨fun _ => ?_, fun h => absurd (of_decide_eq_true h) (by omega)⟩ | refine ⟨fun h => absurd (of_decide_eq_false h) (by omega), fun _ => ?_⟩ | refine .inl ⟨⟨by omega, by omega⟩, ?_⟩ | refine ⟨⟨by omega, by omega⟩, ?_⟩)
  exact ⟨_, _, fin_out rfl, rfl⟩
end Go.Proofs.YtfchacihhljfhaaGreatDoor

namespace Go.Proofs.YtfchacihhljfhaaGreatDoor
open Go.Aw
set_option maxHeartbeats 1600000
set_option linter.unusedSimpArgs false
set_option linter.unusedVariables false
def isL (x : List UInt8) : Bool := decide (x = [108, 105]) || decide (x = [117, 108]) || decide (x = [111, 108])
def lastL (l : List (List UInt8)) : List UInt8 := l.foldl (fun a x => if isL x = true then x else a) []
theorem lastL_snoc (l : List (List UInt8)) (x : List UInt8) : lastL (l ++ [x]) = if isL x = true then x else lastL l := by
 unfold lastL; rw [List.foldl_append]; rfl
theorem li_snoc (l : List (List UInt8)) (x : List UInt8) : decide (lastL (l ++ [x]) = [108, 105]) = inLi (decide (lastL l = [108, 105])) x := by
 rw [lastL_snoc]
 unfold inLi isL
 by_cases h1 : x = [108, 105]
 ·subst h1; rfl
 ·rw [if_neg h1, decide_eq_false h1]
  by_cases h2 : x = [117, 108]
  ·subst h2; rfl
  ·by_cases h3 : x = [111, 108]
   ·subst h3; rfl
   ·rw [decide_eq_false h2, decide_eq_false h3, if_neg (by decide), if_neg (fun h => h.elim h2 h3)]
theorem p_snoc (l : List (List UInt8)) (x : List UInt8) : decide (([112] : List UInt8) ∈ l ++ [x]) = (decide (([112] : List UInt8) ∈ l) || decide (x = [112])) := by
 rw [← Bool.decide_or, decide_eq_decide, List.mem_append, List.mem_singleton, eq_comm (a := x)]
theorem strsRows (l : List (List UInt8)) : ∀ row ∈ (strsD l).map (fun r => r.map AV.d), row.length = 1 ∧ ∀ a ∈ row, a.one = true := by
 intro row h
 obtain ⟨r, hr, rfl⟩ := List.mem_map.1 h
 unfold strsD at hr
 obtain ⟨x, _, rfl⟩ := List.mem_map.1 hr
 exact ⟨rfl, fun a ha => by rw [List.mem_singleton.1 ha]; rfl⟩
theorem strs_rowsD (l : List (List UInt8)) (x : List UInt8) : rowsD ((strsD l).map (fun r => r.map AV.d) ++ [[.d (.str x)]]) = some (strsD (l ++ [x])) := by
 induction l with
 | nil => rfl
 | cons a r ih =>
  have e : (strsD (a :: r)).map (fun r => r.map AV.d) ++ [[.d (.str x)]] = [AV.d (.str a)] :: ((strsD r).map (fun r => r.map AV.d) ++ [[.d (.str x)]]) := rfl
  rw [e, rowsD, ih]; rfl
theorem strsPure (l : List (List UInt8)) : ∀ row ∈ (strsD l).map (fun r => r.map AV.d), pureL row = true := by
 intro row h
 obtain ⟨r, hr, rfl⟩ := List.mem_map.1 h
 unfold strsD at hr
 obtain ⟨x, _, rfl⟩ := List.mem_map.1 hr
 rfl
/-- Is the node ahead of a place a text? -/
def prevB (l : List Node) (k : Nat) : Bool := match k with
 | 0 => false
 | j + 1 => match l[j]? with
  | some m => decide (m.name = [])
  | none => false
theorem prevB_succ (l : List Node) (k : Nat) (h : k < l.length) : prevB l (k + 1) = decide (l[k].name = []) := by
 simp [prevB, h]
set_option maxHeartbeats 800000 in
set_option maxRecDepth 100000 in
theorem rstable_ok (N : Nat) : ∀ (l : List Node) (ins : List (List UInt8)), szL l ≤ N → N + ins.length ≤ 1000000000 → ShL l → PureC Tryz.prog 20 [.d (.sl (nodesD l)), .d (.sl (strsD ins))] (.d (.bool (stL false (decide (([112] : List UInt8) ∈ ins)) (decide (lastL ins = [108, 105])) l))) := by
 induction N using Nat.strongRecOn with
 | ind N ih =>
 intro l ins hN hB hS
 refine PureC.of rfl rfl (fn_okTE Tryz.wf Tryz.tab_ok Tryz.func20 (by decide +kernel) rfl rfl ?_)
 have hn := nodesD_len l
 have hin := strsD_len ins
 have hsl := sz_len l
 refine E.seq (E.of Tryz.wf Tryz.tab_ok ?_)
 refine E.seq (E.of Tryz.wf Tryz.tab_ok ?_)
 refine E.seq (E.of Tryz.wf Tryz.tab_ok ?_)
 refine midE (fun s' σ => s' = [(0, .d (.sl (nodesD l))), (1, .d (.sl (strsD ins))), (5, .d (.bool (decide (([112] : List UInt8) ∈ ins)))), (6, .d (.str (lastL ins)))] ∧ σ = ⟨0, []⟩) ?_ ?_
 ·refine E.seq (E.of Tryz.wf Tryz.tab_ok ?_)
  refine blockE (loopT Tryz.wf Tryz.tab_ok (fun m s' σ => ∃ (k : Nat), m = ins.length - k ∧ k ≤ ins.length ∧ s' = [(0, .d (.sl (nodesD l))), (1, .d (.sl (strsD ins))), (5, .d (.bool (decide (([112] : List UInt8) ∈ ins.take k)))), (6, .d (.str (lastL (ins.take k)))), (7, .d (.int .i64 k))] ∧ σ = ⟨0, []⟩)
   ⟨0, rfl, Nat.zero_le _, rfl, rfl⟩ (Mv.of [] rfl rfl rfl trivial ⟨rfl, rfl, rfl, rfl, rfl, trivial⟩) ?_)
  rintro _ _ _ ⟨k, rfl, hk, rfl, rfl⟩
  refine ⟨fun h => ?_, fun h => ?_⟩
  ·have hlt : k < ins.length := by have := of_decide_eq_true h; rw [hin] at this; omega
   clear h
   have htk : ins.take (k + 1) = ins.take k ++ [ins[k]] := List.take_succ_eq_append_getElem hlt
   have hget := strsD_get ins k hlt
   have e1 := p_snoc (ins.take k) ins[k]
   have e2 := lastL_snoc (ins.take k) ins[k]
   rw [← htk] at e1 e2
   generalize decide (([112] : List UInt8) ∈ ins.take k) = b at *
   generalize lastL (ins.take k) = la at *
   generalize ins[k] = x at *
   have fin : ∀ (b1 : Bool) (l1 : List UInt8), decide (([112] : List UInt8) ∈ ins.take (k + 1)) = b1 → lastL (ins.take (k + 1)) = l1 → vrelS (phi 0 []) [(0, .d (.sl (nodesD l))), (1, .d (.sl (strsD ins))), (5, .d (.bool b1)), (6, .d (.str l1)), (7, .d (.int .i64 ((k : Int) + 1)))] [(0, .d (.sl (nodesD l))), (1, .d (.sl (strsD ins))), (5, .d (.bool (decide (([112] : List UInt8) ∈ ins.take (k + 1))))), (6, .d (.str (lastL (ins.take (k + 1))))), (7, .d (.int .i64 ((k + 1 : Nat) : Int)))] := fun b1 l1 h1 h2 => by
    rw [h1, h2]; exact ⟨rfl, rfl, rfl, rfl, rfl, trivial⟩
   cases b with
   | true =>
    repeat (first | refine ⟨fun _ => ?_, fun h => absurd h (by decide)⟩ | refine ⟨fun h => absurd h (by decide), fun _ => ?_⟩)
    refine ⟨⟨by omega, by rw [hin]; omega⟩, _, hget, rfl, _, rfl, ?_⟩
    rw [Bool.true_or] at e1
    by_cases h1 : x = [108, 105]
    ·have e3 : isL x = true := by rw [h1]; rfl
     rw [if_pos e3] at e2
     refine ⟨fun h => absurd (of_decide_eq_false h) (fun h => h h1), fun _ => ?_⟩
     repeat (first | refine ⟨fun _ => ?_, fun h => absurd (of_decide_eq_false h) (by omega)⟩ | refine ⟨fun h => absurd (of_decide_eq_true h) (by omega), fun _ => ?_⟩ | refine ⟨fun _ => ?_, fun h => absurd (of_decide_eq_true h) (by omega)⟩ | refine ⟨fun h => absurd (of_decide_eq_false h) (by omega), fun _ => ?_⟩ | refine .inl ⟨⟨by omega, by omega⟩, ?_⟩ | refine ⟨⟨by omega, by omega⟩, ?_⟩)
     refine ⟨_, hget, rfl, _, rfl, ?_⟩
     repeat (first | refine ⟨fun _ => ?_, fun h => absurd (of_decide_eq_false h) (by omega)⟩ | refine ⟨fun h => absurd (of_decide_eq_true h) (by omega), fun _ => ?_⟩ | refine ⟨fun _ => ?_, fun h => absurd (of_decide_eq_true h) (by omega)⟩ | refine ⟨fun h => absurd (of_decide_eq_false h) (by omega), fun _ => ?_⟩ | refine .inl ⟨⟨by omega, by omega⟩, ?_⟩ | refine ⟨⟨by omega, by omega⟩, ?_⟩)
     exact ⟨_, _, _, ⟨k + 1, rfl, hlt, rfl, rfl⟩, by omega, Mv.of [] rfl rfl rfl trivial (fin _ _ e1 e2)⟩
    ·refine ⟨fun _ => ?_, fun h => absurd (of_decide_eq_true h) h1⟩
     refine ⟨⟨by omega, by rw [hin]; omega⟩, _, hget, rfl, _, rfl, ?_⟩
     by_cases h2 : x = [117, 108]
     ·have e3 : isL x = true := by rw [h2]; rfl
      rw [if_pos e3] at e2
      refine ⟨fun h => absurd (of_decide_eq_false h) (fun h => h h2), fun _ => ?_⟩
      repeat (first | refine ⟨fun _ => ?_, fun h => absurd (of_decide_eq_false h) (by omega)⟩ | refine ⟨fun h => absurd (of_decide_eq_true h) (by omega), fun _ => ?_⟩ | refine ⟨fun _ => ?_, fun h => absurd (of_decide_eq_true h) (by omega)⟩ | refine ⟨fun h => absurd (of_decide_eq_false h) (by omega), fun _ => ?_⟩ | refine .inl ⟨⟨by omega, by omega⟩, ?_⟩ | refine ⟨⟨by omega, by omega⟩, ?_⟩)
      refine ⟨_, hget, rfl, _, rfl, ?_⟩
      repeat (first | refine ⟨fun _ => ?_, fun h => absurd (of_decide_eq_false h) (by omega)⟩ | refine ⟨fun h => absurd (of_decide_eq_true h) (by omega), fun _ => ?_⟩ | refine ⟨fun _ => ?_, fun h => absurd (of_decide_eq_true h) (by omega)⟩ | refine ⟨fun h => absurd (of_decide_eq_false h) (by omega), fun _ => ?_⟩ | refine .inl ⟨⟨by omega, by omega⟩, ?_⟩ | refine ⟨⟨by omega, by omega⟩, ?_⟩)
      exact ⟨_, _, _, ⟨k + 1, rfl, hlt, rfl, rfl⟩, by omega, Mv.of [] rfl rfl rfl trivial (fin _ _ e1 e2)⟩
     ·refine ⟨fun _ => ?_, fun h => absurd (of_decide_eq_true h) h2⟩
      refine ⟨⟨by omega, by rw [hin]; omega⟩, _, hget, rfl, _, rfl, ?_⟩
      by_cases h3 : x = [111, 108]
      ·have e3 : isL x = true := by rw [h3]; rfl
       rw [if_pos e3] at e2
       refine ⟨fun _ => ?_, fun h => absurd (of_decide_eq_false h) (fun h => h h3)⟩
       repeat (first | refine ⟨fun _ => ?_, fun h => absurd (of_decide_eq_false h) (by omega)⟩ | refine ⟨fun h => absurd (of_decide_eq_true h) (by omega), fun _ => ?_⟩ | refine ⟨fun _ => ?_, fun h => absurd (of_decide_eq_true h) (by omega)⟩ | refine ⟨fun h => absurd (of_decide_eq_false h) (by omega), fun _ => ?_⟩ | refine .inl ⟨⟨by omega, by omega⟩, ?_⟩ | refine ⟨⟨by omega, by omega⟩, ?_⟩)
       refine ⟨_, hget, rfl, _, rfl, ?_⟩
       repeat (first | refine ⟨fun _ => ?_, fun h => absurd (of_decide_eq_false h) (by omega)⟩ | refine ⟨fun h => absurd (of_decide_eq_true h) (by omega), fun _ => ?_⟩ | refine ⟨fun _ => ?_, fun h => absurd (of_decide_eq_true h) (by omega)⟩ | refine ⟨fun h => absurd (of_decide_eq_false h) (by omega), fun _ => ?_⟩ | refine .inl ⟨⟨by omega, by omega⟩, ?_⟩ | refine ⟨⟨by omega, by omega⟩, ?_⟩)
       exact ⟨_, _, _, ⟨k + 1, rfl, hlt, rfl, rfl⟩, by omega, Mv.of [] rfl rfl rfl trivial (fin _ _ e1 e2)⟩
      ·have e3 : isL x = false := by unfold isL; rw [decide_eq_false h1, decide_eq_false h2, decide_eq_false h3]; rfl
       rw [if_neg (by rw [e3]; decide)] at e2
       refine ⟨fun h => absurd (of_decide_eq_true h) h3, fun _ => ?_⟩
       repeat (first | refine ⟨fun _ => ?_, fun h => absurd (of_decide_eq_false h) (by omega)⟩ | refine ⟨fun h => absurd (of_decide_eq_true h) (by omega), fun _ => ?_⟩ | refine ⟨fun _ => ?_, fun h => absurd (of_decide_eq_true h) (by omega)⟩ | refine ⟨fun h => absurd (of_decide_eq_false h) (by omega), fun _ => ?_⟩ | refine .inl ⟨⟨by omega, by omega⟩, ?_⟩ | refine ⟨⟨by omega, by omega⟩, ?_⟩)
       exact ⟨_, _, _, ⟨k + 1, rfl, hlt, rfl, rfl⟩, by omega, Mv.of [] rfl rfl rfl trivial (fin _ _ e1 e2)⟩
   | false =>
    repeat (first | refine ⟨fun _ => ?_, fun h => absurd h (by decide)⟩ | refine ⟨fun h => absurd h (by decide), fun _ => ?_⟩)
    refine ⟨⟨by omega, by rw [hin]; omega⟩, _, hget, rfl, _, rfl, ?_⟩
    refine ⟨⟨by omega, by rw [hin]; omega⟩, _, hget, rfl, _, rfl, ?_⟩
    rw [Bool.false_or] at e1
    by_cases h1 : x = [108, 105]
    ·have e3 : isL x = true := by rw [h1]; rfl
     rw [if_pos e3] at e2
     refine ⟨fun h => absurd (of_decide_eq_false h) (fun h => h h1), fun _ => ?_⟩
     repeat (first | refine ⟨fun _ => ?_, fun h => absurd (of_decide_eq_false h) (by omega)⟩ | refine ⟨fun h => absurd (of_decide_eq_true h) (by omega), fun _ => ?_⟩ | refine ⟨fun _ => ?_, fun h => absurd (of_decide_eq_true h) (by omega)⟩ | refine ⟨fun h => absurd (of_decide_eq_false h) (by omega), fun _ => ?_⟩ | refine .inl ⟨⟨by omega, by omega⟩, ?_⟩ | refine ⟨⟨by omega, by omega⟩, ?_⟩)
     refine ⟨_, hget, rfl, _, rfl, ?_⟩
     repeat (first | refine ⟨fun _ => ?_, fun h => absurd (of_decide_eq_false h) (by omega)⟩ | refine ⟨fun h => absurd (of_decide_eq_true h) (by omega), fun _ => ?_⟩ | refine ⟨fun _ => ?_, fun h => absurd (of_decide_eq_true h) (by omega)⟩ | refine ⟨fun h => absurd (of_decide_eq_false h) (by omega), fun _ => ?_⟩ | refine .inl ⟨⟨by omega, by omega⟩, ?_⟩ | refine ⟨⟨by omega, by omega⟩, ?_⟩)
     exact ⟨_, _, _, ⟨k + 1, rfl, hlt, rfl, rfl⟩, by omega, Mv.of [] rfl rfl rfl trivial (fin _ _ e1 e2)⟩
    ·refine ⟨fun _ => ?_, fun h => absurd (of_decide_eq_true h) h1⟩
     refine ⟨⟨by omega, by rw [hin]; omega⟩, _, hget, rfl, _, rfl, ?_⟩
     by_cases h2 : x = [117, 108]
     ·have e3 : isL x = true := by rw [h2]; rfl
      rw [if_pos e3] at e2
      refine ⟨fun h => absurd (of_decide_eq_false h) (fun h => h h2), fun _ => ?_⟩
      repeat (first | refine ⟨fun _ => ?_, fun h => absurd (of_decide_eq_false h) (by omega)⟩ | refine ⟨fun h => absurd (of_decide_eq_true h) (by omega), fun _ => ?_⟩ | refine ⟨fun _ => ?_, fun h => absurd (of_decide_eq_true h) (by omega)⟩ | refine ⟨fun h => absurd (of_decide_eq_false h) (by omega), fun _ => ?_⟩ | refine .inl ⟨⟨by omega, by omega⟩, ?_⟩ | refine ⟨⟨by omega, by omega⟩, ?_⟩)
      refine ⟨_, hget, rfl, _, rfl, ?_⟩
      repeat (first | refine ⟨fun _ => ?_, fun h => absurd (of_decide_eq_false h) (by omega)⟩ | refine ⟨fun h => absurd (of_decide_eq_true h) (by omega), fun _ => ?_⟩ | refine ⟨fun _ => ?_, fun h => absurd (of_decide_eq_true h) (by omega)⟩ | refine ⟨fun h => absurd (of_decide_eq_false h) (by omega), fun _ => ?_⟩ | refine .inl ⟨⟨by omega, by omega⟩, ?_⟩ | refine ⟨⟨by omega, by omega⟩, ?_⟩)
      exact ⟨_, _, _, ⟨k + 1, rfl, hlt, rfl, rfl⟩, by omega, Mv.of [] rfl rfl rfl trivial (fin _ _ e1 e2)⟩
     ·refine ⟨fun _ => ?_, fun h => absurd (of_decide_eq_true h) h2⟩
      refine ⟨⟨by omega, by rw [hin]; omega⟩, _, hget, rfl, _, rfl, ?_⟩
      by_cases h3 : x = [111, 108]
      ·have e3 : isL x = true := by rw [h3]; rfl
       rw [if_pos e3] at e2
       refine ⟨fun _ => ?_, fun h => absurd (of_decide_eq_false h) (fun h => h h3)⟩
       repeat (first | refine ⟨fun _ => ?_, fun h => absurd (of_decide_eq_false h) (by omega)⟩ | refine ⟨fun h => absurd (of_decide_eq_true h) (by omega), fun _ => ?_⟩ | refine ⟨fun _ => ?_, fun h => absurd (of_decide_eq_true h) (by omega)⟩ | refine ⟨fun h => absurd (of_decide_eq_false h) (by omega), fun _ => ?_⟩ | refine .inl ⟨⟨by omega, by omega⟩, ?_⟩ | refine ⟨⟨by omega, by omega⟩, ?_⟩)
       refine ⟨_, hget, rfl, _, rfl, ?_⟩
       repeat (first | refine ⟨fun _ => ?_, fun h => absurd (of_decide_eq_false h) (by omega)⟩ | refine ⟨fun h => absurd (of_decide_eq_true h) (by omega), fun _ => ?_⟩ | refine ⟨fun _ => ?_, fun h => absurd (of_decide_eq_true h) (by omega)⟩ | refine ⟨fun h => absurd (of_decide_eq_false h) (by omega), fun _ => ?_⟩ | refine .inl ⟨⟨by omega, by omega⟩, ?_⟩ | refine ⟨⟨by omega, by omega⟩, ?_⟩)
       exact ⟨_, _, _, ⟨k + 1, rfl, hlt, rfl, rfl⟩, by omega, Mv.of [] rfl rfl rfl trivial (fin _ _ e1 e2)⟩
      ·have e3 : isL x = false := by unfold isL; rw [decide_eq_false h1, decide_eq_false h2, decide_eq_false h3]; rfl
       rw [if_neg (by rw [e3]; decide)] at e2
       refine ⟨fun h => absurd (of_decide_eq_true h) h3, fun _ => ?_⟩
       repeat (first | refine ⟨fun _ => ?_, fun h => absurd (of_decide_eq_false h) (by omega)⟩ | refine ⟨fun h => absurd (of_decide_eq_true h) (by omega), fun _ => ?_⟩ | refine ⟨fun _ => ?_, fun h => absurd (of_decide_eq_true h) (by omega)⟩ | refine ⟨fun h => absurd (of_decide_eq_false h) (by omega), fun _ => ?_⟩ | refine .inl ⟨⟨by omega, by omega⟩, ?_⟩ | refine ⟨⟨by omega, by omega⟩, ?_⟩)
       exact ⟨_, _, _, ⟨k + 1, rfl, hlt, rfl, rfl⟩, by omega, Mv.of [] rfl rfl rfl trivial (fin _ _ e1 e2)⟩
  ·have hk' : k = ins.length := by have := of_decide_eq_false h; rw [hin] at this; omega
   subst hk'
   rw [List.take_length]
   exact ⟨_, _, ⟨rfl, rfl⟩, Mv.of [] rfl rfl rfl trivial ⟨rfl, rfl, rfl, rfl, trivial⟩⟩
 rintro _ _ ⟨rfl, rfl⟩
 have hps := p_snoc ins
 have hls := li_snoc ins
 generalize hP : decide (([112] : List UInt8) ∈ ins) = P at *
 generalize hL : lastL ins = La at *
 generalize hli : decide (La = [108, 105]) = li at *
 refine E.seq (E.of Tryz.wf Tryz.tab_ok ?_)
 refine loopE (fun m s' σ => ∃ (k : Nat), m = l.length - k ∧ k ≤ l.length ∧ stL (prevB l k) P li (l.drop k) = stL false P li l ∧ s' = [(0, .d (.sl (nodesD l))), (1, .d (.sl (strsD ins))), (5, .d (.bool P)), (6, .d (.str La)), (8, .d (.int .i64 k))] ∧ σ = ⟨0, []⟩)
  ⟨0, rfl, Nat.zero_le _, rfl, rfl, rfl⟩ (Mv.of [] rfl rfl rfl trivial ⟨rfl, rfl, rfl, rfl, rfl, trivial⟩) ?_
 rintro _ _ _ ⟨k, rfl, hk, hI, rfl, rfl⟩
 have no : ∀ σ : Store, stL false P li l = false → ∃ r2 σ2, FinMove ⟨0, []⟩ (AV.d (.bool false)) σ r2 σ2 ∧ r2 = AV.d (.bool (stL false P li l)) ∧ σ2.n = 0 := fun σ h => ⟨_, _, fin_out rfl, by rw [h], rfl⟩
 refine E.seq (E.of Tryz.wf Tryz.tab_ok ?_)
 refine ⟨fun h => ?_, fun h => ?_⟩
 ·have hlt : k < l.length := by have := of_decide_eq_true h; rw [hn] at this; omega
  clear h
  rw [List.drop_eq_getElem_cons hlt, stL_cons] at hI
  have hpb := prevB_succ l k hlt
  have hks := kids_lt (List.getElem_mem hlt)
  have hsn := (ShN_eq _).1 (ShL_mem hS _ (List.getElem_mem hlt))
  have hget := nodesD_get l k hlt
  have hkl := nodesD_len l[k].kids
  have hal := attrsD_len l[k].attrs
  have haz : decide ((0 : Int) < ((attrsD l[k].attrs).length : Nat)) = !decide (l[k].attrs = []) := by
   rw [hal]; cases l[k].attrs <;> simp
  have hkz : decide ((0 : Int) < ((nodesD l[k].kids).length : Nat)) = !decide (l[k].kids = []) := by
   rw [hkl]; cases l[k].kids <;> simp
  refine E.seq (blockE ?_)
  refine E.seq (E.of Tryz.wf Tryz.tab_ok ?_)
  refine ⟨⟨by omega, by rw [hn]; omega⟩, _, hget, rfl, ?_⟩
  refine ⟨Nat.le_refl _, _, rfl, rfl, Nat.le_refl _, ?_⟩
  refine midT Tryz.wf Tryz.tab_ok (fun s' σ => l[k].name ≠ [] ∧ s' = [(0, .d (.sl (nodesD l))), (1, .d (.sl (strsD ins))), (5, .d (.bool P)), (6, .d (.str La)), (8, .d (.int .i64 k)), (9, .ref 0 0 0)] ∧ σ = ⟨1, [(0, nodeO l[k])]⟩) ?_ ?_
  ·refine ⟨_, rfl, _, rfl, ?_⟩
   by_cases hne : l[k].name = []
   ·rw [if_pos hne] at hI
    rw [decide_eq_true hne] at hpb
    refine ⟨fun _ => ?_, fun h => absurd (of_decide_eq_false h) (fun h => h hne)⟩
    refine ⟨_, rfl, _, rfl, ?_⟩
    by_cases ht : l[k].text = []
    ·rw [decide_eq_true ht, Bool.not_true, Bool.and_false, Bool.false_and] at hI
     refine ⟨fun h => absurd (of_decide_eq_false h) (fun h => h ht), fun _ => ?_⟩
     repeat (first | refine ⟨fun _ => ?_, fun h => absurd h (by decide)⟩ | refine ⟨fun h => absurd h (by decide), fun _ => ?_⟩)
     exact no _ hI.symm
    ·rw [decide_eq_false ht] at hI
     refine ⟨fun _ => ?_, fun h => absurd (of_decide_eq_true h) ht⟩
     refine ⟨_, rfl, _, rfl, ?_⟩
     by_cases hza : l[k].attrs = []
     ·rw [decide_eq_true hza] at hI haz
      refine ⟨fun _ => ?_, fun h => absurd (h.symm.trans haz) (by decide)⟩
      refine ⟨_, rfl, _, rfl, ?_⟩
      by_cases hzk : l[k].kids = []
      ·rw [decide_eq_true hzk] at hI hkz
       refine ⟨fun _ => ?_, fun h => absurd (h.symm.trans hkz) (by decide)⟩
       have hI3 : (!prevB l k && stL true P li (l.drop (k + 1))) = stL false P li l := by
        rw [← hI]; simp
       have hfin : prevB l k = false → stL (prevB l (k + 1)) P li (l.drop (k + 1)) = stL false P li l := fun h => by
        rw [hpb, ← hI3, h]; rfl
       by_cases hk0 : 0 < k
       ·refine ⟨fun _ => ?_, fun h => absurd (of_decide_eq_false h) (by omega)⟩
        have hgetp : (nodesD l)[((k : Int) - 1).toNat]? = some [.str (l[k - 1]'(by omega)).name, .sl (attrsD (l[k - 1]'(by omega)).attrs), .str (l[k - 1]'(by omega)).text, .sl (nodesD (l[k - 1]'(by omega)).kids)] := by
         rw [show ((k : Int) - 1) = ((k - 1 : Nat) : Int) by omega]; exact nodesD_get l (k - 1) (by omega)
        refine .inl ⟨⟨by omega, by omega⟩, ?_⟩
        refine ⟨⟨by omega, by rw [hn]; omega⟩, _, hgetp, rfl, _, rfl, ?_⟩
        have hpk : prevB l k = decide ((l[k - 1]'(by omega)).name = []) := by
         obtain ⟨j, rfl⟩ : ∃ j, k = j + 1 := ⟨k - 1, by omega⟩
         exact prevB_succ l j (by omega)
        by_cases hp : (l[k - 1]'(by omega)).name = []
        ·rw [hpk, decide_eq_true hp] at hI3
         refine ⟨fun _ => ?_, fun h => absurd (of_decide_eq_false h) (fun h => h hp)⟩
         exact no _ hI3.symm
        ·refine ⟨fun h => absurd (of_decide_eq_true h) hp, fun _ => ?_⟩
         refine E.of Tryz.wf Tryz.tab_ok ?_
         repeat (first | refine ⟨fun _ => ?_, fun h => absurd (of_decide_eq_false h) (by omega)⟩ | refine ⟨fun h => absurd (of_decide_eq_true h) (by omega), fun _ => ?_⟩ | refine ⟨fun _ => ?_, fun h => absurd (of_decide_eq_true h) (by omega)⟩ | refine ⟨fun h => absurd (of_decide_eq_false h) (by omega), fun _ => ?_⟩ | refine .inl ⟨⟨by omega, by omega⟩, ?_⟩ | refine ⟨⟨by omega, by omega⟩, ?_⟩)
         exact ⟨_, _, _, ⟨k + 1, rfl, hlt, hfin (by rw [hpk, decide_eq_false hp]), rfl, rfl⟩, by omega, Mv.of [] rfl rfl rfl trivial ⟨rfl, rfl, rfl, rfl, rfl, trivial⟩⟩
       ·refine ⟨fun h => absurd (of_decide_eq_true h) (by omega), fun _ => ?_⟩
        repeat (first | refine ⟨fun _ => ?_, fun h => absurd h (by decide)⟩ | refine ⟨fun h => absurd h (by decide), fun _ => ?_⟩)
        refine E.of Tryz.wf Tryz.tab_ok ?_
        repeat (first | refine ⟨fun _ => ?_, fun h => absurd (of_decide_eq_false h) (by omega)⟩ | refine ⟨fun h => absurd (of_decide_eq_true h) (by omega), fun _ => ?_⟩ | refine ⟨fun _ => ?_, fun h => absurd (of_decide_eq_true h) (by omega)⟩ | refine ⟨fun h => absurd (of_decide_eq_false h) (by omega), fun _ => ?_⟩ | refine .inl ⟨⟨by omega, by omega⟩, ?_⟩ | refine ⟨⟨by omega, by omega⟩, ?_⟩)
        have hz : k = 0 := by omega
        exact ⟨_, _, _, ⟨k + 1, rfl, hlt, hfin (by rw [hz]; rfl), rfl, rfl⟩, by omega, Mv.of [] rfl rfl rfl trivial ⟨rfl, rfl, rfl, rfl, rfl, trivial⟩⟩
      ·rw [decide_eq_false hzk] at hI hkz
       rw [Bool.and_false, Bool.false_and] at hI
       refine ⟨fun h => absurd (h.symm.trans hkz) (by decide), fun _ => ?_⟩
       repeat (first | refine ⟨fun _ => ?_, fun h => absurd h (by decide)⟩ | refine ⟨fun h => absurd h (by decide), fun _ => ?_⟩)
       exact no _ hI.symm
     ·rw [decide_eq_false hza] at hI haz
      rw [Bool.and_false, Bool.false_and, Bool.false_and] at hI
      refine ⟨fun h => absurd (h.symm.trans haz) (by decide), fun _ => ?_⟩
      repeat (first | refine ⟨fun _ => ?_, fun h => absurd h (by decide)⟩ | refine ⟨fun h => absurd h (by decide), fun _ => ?_⟩)
      exact no _ hI.symm
   ·refine ⟨fun h => absurd (of_decide_eq_true h) hne, fun _ => ?_⟩
    exact ⟨_, _, ⟨hne, rfl, rfl⟩, Mv.of [.old 0] rfl rfl rfl ⟨⟨rfl, .inl ⟨rfl, fun row h => by rw [List.mem_singleton.1 h]; rfl⟩⟩, trivial⟩ ⟨rfl, rfl, rfl, rfl, rfl, ⟨rfl, rfl, rfl⟩, trivial⟩⟩
  rintro _ _ ⟨hne, rfl, rfl⟩
  rw [if_neg hne, stN_eq] at hI
  rw [decide_eq_false hne] at hpb
  have hown : ownB l[k] = (decide (l[k].text = []) && (small l[k].name [45] && !rawB l[k].name) && attrsFrom [] l[k].attrs && !(decide (l[k].name ∈ voids) && !decide (l[k].kids = []))) := by
   unfold ownB
   cases rawB l[k].name <;> cases small l[k].name [45] <;> cases decide (l[k].text = []) <;> cases attrsFrom [] l[k].attrs <;> cases decide (l[k].name ∈ voids) <;> cases decide (l[k].kids = []) <;> rfl
  have c1 := Element_ok l[k].name (by omega)
  have c2 := rattrs_ok l[k].attrs hsn.2.1
  have c3 := rVoid_ok l[k].name
  have c4 := rBlock_ok l[k].name
  have c5 := ih (szL l[k].kids) (by omega) l[k].kids (ins ++ [l[k].name]) (Nat.le_refl _) (by simp only [List.length_append, List.length_cons, List.length_nil]; omega) hsn.2.2.2
  rw [hps, hls] at c5
  refine midT Tryz.wf Tryz.tab_ok (fun s' σ => ownB l[k] = true ∧ s' = [(0, .d (.sl (nodesD l))), (1, .d (.sl (strsD ins))), (5, .d (.bool P)), (6, .d (.str La)), (8, .d (.int .i64 k)), (9, .ref 0 0 0)] ∧ σ = ⟨1, [(0, nodeO l[k])]⟩) ?_ ?_
  ·rw [hown] at hI ⊢
   have done : Mv 0 [(0, .d (.sl (nodesD l)))] ⟨0, []⟩ [(0, .d (.sl (nodesD l)))] ⟨0, []⟩ := Mv.of [] rfl rfl rfl trivial ⟨rfl, trivial⟩
   clear done
   refine ⟨_, rfl, _, rfl, ?_⟩
   by_cases ht : l[k].text = []
   ·rw [decide_eq_true ht] at hI ⊢
    refine ⟨fun _ => ?_, fun h => absurd h (by rw [ht]; decide)⟩
    refine ⟨_, rfl, _, rfl, ?_⟩
    refine PureC.use c1 ?_
    generalize (small l[k].name [45] && !rawB l[k].name) = b1 at *
    cases b1 with
    | false =>
     repeat (first | refine ⟨fun _ => ?_, fun h => absurd h (by decide)⟩ | refine ⟨fun h => absurd h (by decide), fun _ => ?_⟩)
     exact no _ hI.symm
    | true =>
     repeat (first | refine ⟨fun _ => ?_, fun h => absurd h (by decide)⟩ | refine ⟨fun h => absurd h (by decide), fun _ => ?_⟩)
     refine ⟨_, rfl, _, rfl, ?_⟩
     refine PureC.use c2 ?_
     generalize attrsFrom [] l[k].attrs = b2 at *
     cases b2 with
     | false =>
      repeat (first | refine ⟨fun _ => ?_, fun h => absurd h (by decide)⟩ | refine ⟨fun h => absurd h (by decide), fun _ => ?_⟩)
      exact no _ hI.symm
     | true =>
      repeat (first | refine ⟨fun _ => ?_, fun h => absurd h (by decide)⟩ | refine ⟨fun h => absurd h (by decide), fun _ => ?_⟩)
      refine ⟨_, rfl, _, rfl, ?_⟩
      refine PureC.use c3 ?_
      generalize decide (l[k].name ∈ voids) = b3 at *
      cases b3 with
      | true =>
       repeat (first | refine ⟨fun _ => ?_, fun h => absurd h (by decide)⟩ | refine ⟨fun h => absurd h (by decide), fun _ => ?_⟩)
       refine ⟨_, rfl, _, rfl, ?_⟩
       by_cases hz : l[k].kids = []
       ·rw [decide_eq_true hz] at hkz ⊢
        refine ⟨fun h => absurd (h.symm.trans hkz) (by decide), fun _ => ?_⟩
        exact ⟨_, _, ⟨rfl, rfl, rfl⟩, Mv.of [.old 0] rfl rfl rfl ⟨⟨rfl, .inl ⟨rfl, fun row h => by rw [List.mem_singleton.1 h]; rfl⟩⟩, trivial⟩ ⟨rfl, rfl, rfl, rfl, rfl, ⟨rfl, rfl, rfl⟩, trivial⟩⟩
       ·rw [decide_eq_false hz] at hkz hI
        refine ⟨fun _ => no _ hI.symm, fun h => absurd (h.symm.trans hkz) (by decide)⟩
      | false =>
       repeat (first | refine ⟨fun _ => ?_, fun h => absurd h (by decide)⟩ | refine ⟨fun h => absurd h (by decide), fun _ => ?_⟩)
       exact ⟨_, _, ⟨rfl, rfl, rfl⟩, Mv.of [.old 0] rfl rfl rfl ⟨⟨rfl, .inl ⟨rfl, fun row h => by rw [List.mem_singleton.1 h]; rfl⟩⟩, trivial⟩ ⟨rfl, rfl, rfl, rfl, rfl, ⟨rfl, rfl, rfl⟩, trivial⟩⟩
   ·rw [decide_eq_false ht] at hI
    refine ⟨fun h => absurd h (by show ¬ (!decide (l[k].text = [])) = false; rw [decide_eq_false ht]; decide), fun _ => ?_⟩
    repeat (first | refine ⟨fun _ => ?_, fun h => absurd h (by decide)⟩ | refine ⟨fun h => absurd h (by decide), fun _ => ?_⟩)
    exact no _ hI.symm
  rintro _ _ ⟨hQ, rfl, rfl⟩
  rw [hQ, Bool.true_and] at hI
  refine midT Tryz.wf Tryz.tab_ok (fun s' σ => (!(P && decide (l[k].name ∈ blocks)) && !(li && decide (l[k].name = [108, 105]))) = true ∧ s' = [(0, .d (.sl (nodesD l))), (1, .d (.sl (strsD ins))), (5, .d (.bool P)), (6, .d (.str La)), (8, .d (.int .i64 k)), (9, .ref 0 0 0)] ∧ σ = ⟨1, [(0, nodeO l[k])]⟩) ?_ ?_
  ·rw [Bool.and_assoc] at hI
   cases P with
   | true =>
    repeat (first | refine ⟨fun _ => ?_, fun h => absurd h (by decide)⟩ | refine ⟨fun h => absurd h (by decide), fun _ => ?_⟩)
    refine ⟨_, rfl, _, rfl, ?_⟩
    refine PureC.use c4 ?_
    generalize decide (l[k].name ∈ blocks) = b4 at *
    cases b4 with
    | true =>
     repeat (first | refine ⟨fun _ => ?_, fun h => absurd h (by decide)⟩ | refine ⟨fun h => absurd h (by decide), fun _ => ?_⟩)
     exact no _ hI.symm
    | false =>
     repeat (first | refine ⟨fun _ => ?_, fun h => absurd h (by decide)⟩ | refine ⟨fun h => absurd h (by decide), fun _ => ?_⟩)
     refine ⟨_, rfl, _, rfl, ?_⟩
     by_cases hn1 : l[k].name = [108, 105]
     ·rw [decide_eq_true hn1] at hI ⊢
      refine ⟨fun _ => ?_, fun h => absurd (of_decide_eq_false h) (fun h => h hn1)⟩
      by_cases hl1 : La = [108, 105]
      ·rw [decide_eq_true hl1] at hli
       subst hli
       refine ⟨fun _ => ?_, fun h => absurd (of_decide_eq_false h) (fun h => h hl1)⟩
       exact no _ hI.symm
      ·rw [decide_eq_false hl1] at hli
       subst hli
       refine ⟨fun h => absurd (of_decide_eq_true h) hl1, fun _ => ?_⟩
       exact ⟨_, _, ⟨(by simp), rfl, rfl⟩, Mv.of [.old 0] rfl rfl rfl ⟨⟨rfl, .inl ⟨rfl, fun row h => by rw [List.mem_singleton.1 h]; rfl⟩⟩, trivial⟩ ⟨rfl, rfl, rfl, rfl, rfl, ⟨rfl, rfl, rfl⟩, trivial⟩⟩
     ·rw [decide_eq_false hn1, Bool.and_false]
      refine ⟨fun h => absurd (of_decide_eq_true h) hn1, fun _ => ?_⟩
      repeat (first | refine ⟨fun _ => ?_, fun h => absurd h (by decide)⟩ | refine ⟨fun h => absurd h (by decide), fun _ => ?_⟩)
      exact ⟨_, _, ⟨(by simp), rfl, rfl⟩, Mv.of [.old 0] rfl rfl rfl ⟨⟨rfl, .inl ⟨rfl, fun row h => by rw [List.mem_singleton.1 h]; rfl⟩⟩, trivial⟩ ⟨rfl, rfl, rfl, rfl, rfl, ⟨rfl, rfl, rfl⟩, trivial⟩⟩
   | false =>
    repeat (first | refine ⟨fun _ => ?_, fun h => absurd h (by decide)⟩ | refine ⟨fun h => absurd h (by decide), fun _ => ?_⟩)
    refine ⟨_, rfl, _, rfl, ?_⟩
    by_cases hn1 : l[k].name = [108, 105]
    ·rw [decide_eq_true hn1] at hI ⊢
     refine ⟨fun _ => ?_, fun h => absurd (of_decide_eq_false h) (fun h => h hn1)⟩
     by_cases hl1 : La = [108, 105]
     ·rw [decide_eq_true hl1] at hli
      subst hli
      refine ⟨fun _ => ?_, fun h => absurd (of_decide_eq_false h) (fun h => h hl1)⟩
      exact no _ hI.symm
     ·rw [decide_eq_false hl1] at hli
      subst hli
      refine ⟨fun h => absurd (of_decide_eq_true h) hl1, fun _ => ?_⟩
      exact ⟨_, _, ⟨(by simp), rfl, rfl⟩, Mv.of [.old 0] rfl rfl rfl ⟨⟨rfl, .inl ⟨rfl, fun row h => by rw [List.mem_singleton.1 h]; rfl⟩⟩, trivial⟩ ⟨rfl, rfl, rfl, rfl, rfl, ⟨rfl, rfl, rfl⟩, trivial⟩⟩
    ·rw [decide_eq_false hn1, Bool.and_false]
     refine ⟨fun h => absurd (of_decide_eq_true h) hn1, fun _ => ?_⟩
     repeat (first | refine ⟨fun _ => ?_, fun h => absurd h (by decide)⟩ | refine ⟨fun h => absurd h (by decide), fun _ => ?_⟩)
     exact ⟨_, _, ⟨(by simp), rfl, rfl⟩, Mv.of [.old 0] rfl rfl rfl ⟨⟨rfl, .inl ⟨rfl, fun row h => by rw [List.mem_singleton.1 h]; rfl⟩⟩, trivial⟩ ⟨rfl, rfl, rfl, rfl, rfl, ⟨rfl, rfl, rfl⟩, trivial⟩⟩
  rintro _ _ ⟨hQ2, rfl, rfl⟩
  rw [hQ2, Bool.true_and] at hI
  refine E.seq (drawnZ Tryz.wf Tryz.tab_ok [2, 4, 8] (fun t => match t with
   | 0 => ⟨1, [(0, nodeO l[k])]⟩
   | 1 => ⟨2, [(1, .rows (1, 9) []), (0, nodeO l[k])]⟩
   | 2 => ⟨3, [(2, .rows (1, 9) ((strsD ins).map fun r => r.map AV.d)), (0, nodeO l[k])]⟩
   | _ => ⟨3, [(0, nodeO l[k])]⟩) rfl Tryz.mixed (by decide +kernel) ?_)
  refine zblind (by decide +kernel) rfl rfl (fun _ => FinMove.refl _ _ _) ?_
  refine zreadL (List.range 5) (by decide +kernel) rfl rfl (by repeat' first | exact trivial | exact ⟨_, rfl, _, rfl, FinMove.refl _ _ _⟩ | refine ⟨?_, ?_⟩) ?_
  refine zeff (r := .own 1 0 0) rfl rfl rfl (FinMove.refl _ _ _) ?_
  refine zblind (by decide +kernel) rfl rfl (fun _ => FinMove.refl _ _ _) ?_
  refine zeff (r := .own 2 0 (0 + ((strsD ins).map fun r => r.map AV.d).length)) rfl rfl rfl ?_ ?_
  ·refine ⟨[], (strsD ins).map fun r => r.map AV.d, rfl, rfl, rfl, trivial, (by rw [List.length_map, hin]; show (0 + ins.length) * 16 ≤ _; omega), Nat.le_refl _, Nat.le_of_ble_eq_true rfl, rfl, rfl, rowsNone, strsRows ins, ?_⟩
   show FinMove (⟨2, [(1, .rows (1, 9) []), (0, nodeO l[k])]⟩ : Store) (.own 2 0 (0 + ((strsD ins).map fun r => r.map AV.d).length)) ⟨3, [(2, .rows (1, 9) ([] ++ (strsD ins).map fun r => r.map AV.d)), (1, .dead), (1, .rows (1, 9) []), (0, nodeO l[k])]⟩ (.own 2 0 (0 + ((strsD ins).map fun r => r.map AV.d).length)) ⟨3, [(2, .rows (1, 9) ((strsD ins).map fun r => r.map AV.d)), (0, nodeO l[k])]⟩
   exact fin_mv [.old 2] rfl rfl rfl ⟨⟨rfl, .inl ⟨rfl, strsPure ins⟩⟩, ⟨rfl, .inl ⟨rfl, fun row h => by rw [List.mem_singleton.1 h]; rfl⟩⟩, trivial⟩ ⟨rfl, rfl, rfl⟩
  refine zblind (by decide +kernel) rfl rfl (fun _ => FinMove.refl _ _ _) ?_
  refine zreadL (List.range 5) (by decide +kernel) rfl rfl (by repeat' first | exact trivial | exact ⟨_, rfl, _, rfl, FinMove.refl _ _ _⟩ | refine ⟨?_, ?_⟩) ?_
  refine zreadL (r := .d (.sl [[.str l[k].name]])) [0, 1, 2] (by decide +kernel) rfl rfl ⟨
   fin_lit rfl rfl rfl ⟨⟨rfl, .inl ⟨rfl, fun row h => by rw [List.mem_singleton.1 h]; rfl⟩⟩, trivial⟩,
   fin_lit rfl rfl rfl ⟨⟨rfl, .inl ⟨rfl, fun _ h => by cases h⟩⟩, ⟨rfl, .inl ⟨rfl, fun row h => by rw [List.mem_singleton.1 h]; rfl⟩⟩, trivial⟩,
   fin_lit rfl rfl rfl ⟨⟨rfl, .inl ⟨rfl, strsPure ins⟩⟩, ⟨rfl, .inl ⟨rfl, fun row h => by rw [List.mem_singleton.1 h]; rfl⟩⟩, trivial⟩, trivial⟩ ?_
  refine zeff (r := .d (.sl (strsD (ins ++ [l[k].name])))) rfl rfl rfl ?_ ?_
  ·have hlen : ((strsD ins).map fun r => r.map AV.d).length = ins.length := by rw [List.length_map, hin]
   refine ⟨(strsD ins).map fun r => r.map AV.d, [[.d (.str l[k].name)]], congrArg some (takeAll (Nat.zero_add _).symm), rfl, (by dsimp only [ev, putS, look, Nat.beq]; exact (show srcLen (.own 2 0 (0 + ((strsD ins).map fun r => r.map AV.d).length)) ((strsD ins).map fun r => r.map AV.d).length from (Nat.zero_add _).symm)), trivial, (by rw [hlen]; show (ins.length + 1) * 16 ≤ _; omega), Nat.le_refl _, Nat.le_of_ble_eq_true rfl, rfl, rfl, strsRows ins, rowsOne rfl rfl, ?_⟩
   show FinMove (⟨3, [(2, .rows (1, 9) ((strsD ins).map fun r => r.map AV.d)), (0, nodeO l[k])]⟩ : Store) (.own 3 0 (((strsD ins).map fun r => r.map AV.d).length + 1)) ⟨4, [(3, .rows (1, 9) (((strsD ins).map fun r => r.map AV.d) ++ [[.d (.str l[k].name)]])), (2, .dead), (2, .rows (1, 9) ((strsD ins).map fun r => r.map AV.d)), (0, nodeO l[k])]⟩ (.d (.sl (strsD (ins ++ [l[k].name])))) ⟨3, [(0, nodeO l[k])]⟩
   have hrd : rowsD (((strsD ins).map fun r => r.map AV.d) ++ [[.d (.str l[k].name)]]) = some (strsD (ins ++ [l[k].name])) := strs_rowsD ins l[k].name
   have h1 := fin_freeze (σ0 := (⟨3, [(2, .rows (1, 9) ((strsD ins).map fun r => r.map AV.d)), (0, nodeO l[k])]⟩ : Store)) (r := .own 3 0 (((strsD ins).map fun r => r.map AV.d).length + 1)) (σ := ⟨4, [(3, .rows (1, 9) (((strsD ins).map fun r => r.map AV.d) ++ [[.d (.str l[k].name)]])), (2, .dead), (2, .rows (1, 9) ((strsD ins).map fun r => r.map AV.d)), (0, nodeO l[k])]⟩) 3 rfl hrd (fun _ => by simp)
   rw [frz_whole 3 _ _ (by rw [hlen, strsD_len]; simp)] at h1
   exact h1.trans (fin_mv [] rfl rfl rfl ⟨⟨rfl, .inl ⟨rfl, fun row h => by rw [List.mem_singleton.1 h]; rfl⟩⟩, trivial⟩ rfl)
  refine zreadL [3] (by decide +kernel) rfl rfl ⟨PureC.use c5 (FinMove.refl _ _ _), trivial⟩ ?_
  refine zblind (by decide +kernel) rfl rfl (fun _ => FinMove.refl _ _ _) ?_
  generalize stL false (P || decide (l[k].name = [112])) (inLi li l[k].name) l[k].kids = b at *
  refine E.of Tryz.wf Tryz.tab_ok ?_
  cases b with
  | false =>
   repeat (first | refine ⟨fun _ => ?_, fun h => absurd h (by decide)⟩ | refine ⟨fun h => absurd h (by decide), fun _ => ?_⟩)
   exact no _ hI.symm
  | true =>
   repeat (first | refine ⟨fun _ => ?_, fun h => absurd h (by decide)⟩ | refine ⟨fun h => absurd h (by decide), fun _ => ?_⟩)
   refine E.of Tryz.wf Tryz.tab_ok ?_
   repeat (first | refine ⟨fun _ => ?_, fun h => absurd (of_decide_eq_false h) (by omega)⟩ | refine ⟨fun h => absurd (of_decide_eq_true h) (by omega), fun _ => ?_⟩ | refine ⟨fun _ => ?_, fun h => absurd (of_decide_eq_true h) (by omega)⟩ | refine ⟨fun h => absurd (of_decide_eq_false h) (by omega), fun _ => ?_⟩ | refine .inl ⟨⟨by omega, by omega⟩, ?_⟩ | refine ⟨⟨by omega, by omega⟩, ?_⟩)
   refine ⟨_, _, _, ⟨k + 1, rfl, hlt, ?_, rfl, rfl⟩, by omega, Mv.of [] rfl rfl rfl trivial ⟨rfl, rfl, rfl, rfl, rfl, trivial⟩⟩
   rw [hpb]; exact hI
 ·refine E.of Tryz.wf Tryz.tab_ok ?_
  have hk' : k = l.length := by have := of_decide_eq_false h; rw [hn] at this; omega
  subst hk'
  rw [List.drop_length] at hI
  exact ⟨_, _, fin_out rfl, congrArg (fun b => AV.d (.bool b)) (show true = stL false P li l from hI), rfl⟩
set_option maxRecDepth 100000 in
theorem rStable_ok (l : List Node) (hl : szL l ≤ 1000000000) (hS : ShL l) : PureC Tryz.prog 15 [.d (.sl (nodesD l))] (.d (.bool (stableB l))) := by
 refine pure_okT Tryz.wf Tryz.tab_ok Tryz.func15 (by decide +kernel) rfl rfl rfl rfl ?_
 have c1 := rSize_ok (szL l) l (Nat.le_refl _) hl
 have c2 := rstable_ok (szL l) l [] (Nat.le_refl _) (by simpa using hl) hS
 unfold sizeV at c1
 unfold stableB
 generalize szL l = a at *
 generalize dpL l = b at *
 have e : stL false (decide (([112] : List UInt8) ∈ ([] : List (List UInt8)))) (decide (lastL [] = [108, 105])) l = stL false false false l := by simp [lastL]
 rw [e] at c2
 generalize stL false false false l = c at *
 refine PureC.use c1 ?_
 by_cases h1 : a ≤ 2000
 ·rw [decide_eq_true h1]
  by_cases h2 : b ≤ 64
  ·rw [decide_eq_true h2]
   repeat (first | refine ⟨fun _ => ?_, fun h => absurd (of_decide_eq_false h) (by omega)⟩ | refine ⟨fun h => absurd (of_decide_eq_true h) (by omega), fun _ => ?_⟩ | refine ⟨fun _ => ?_, fun h => absurd (of_decide_eq_true h) (by omega)⟩ | refine ⟨fun h => absurd (of_decide_eq_false h) (by omega), fun _ => ?_⟩ | refine .inl ⟨⟨by omega, by omega⟩, ?_⟩ | refine ⟨⟨by omega, by omega⟩, ?_⟩)
   refine CallsAbs.sub (args' := [.d (.sl (nodesD l)), .d (.sl (strsD []))]) (Sub.agg rfl fun i x y hx hy => ?_) (PureC.use c2 ⟨_, _, fin_out rfl, rfl⟩)
   match i with
   | 0 => cases hx; cases hy; exact Sub.refl _
   | 1 => cases hx; cases hy; exact Sub.nil
   | _ + 2 => cases hx
  ·rw [decide_eq_false h2]
   repeat (first | refine ⟨fun _ => ?_, fun h => absurd (of_decide_eq_false h) (by omega)⟩ | refine ⟨fun h => absurd (of_decide_eq_true h) (by omega), fun _ => ?_⟩ | refine ⟨fun _ => ?_, fun h => absurd (of_decide_eq_true h) (by omega)⟩ | refine ⟨fun h => absurd (of_decide_eq_false h) (by omega), fun _ => ?_⟩ | refine .inl ⟨⟨by omega, by omega⟩, ?_⟩ | refine ⟨⟨by omega, by omega⟩, ?_⟩)
   exact ⟨_, _, fin_out rfl, rfl⟩
 ·rw [decide_eq_false h1]
  repeat (first | refine ⟨fun _ => ?_, fun h => absurd (of_decide_eq_false h) (by omega)⟩ | refine ⟨fun h => absurd (of_decide_eq_true h) (by omega), fun _ => ?_⟩ | refine ⟨fun _ => ?_, fun h => absurd (of_decide_eq_true h) (by omega)⟩ | refine ⟨fun h => absurd (of_decide_eq_false h) (by omega), fun _ => ?_⟩ | refine .inl ⟨⟨by omega, by omega⟩, ?_⟩ | refine ⟨⟨by omega, by omega⟩, ?_⟩)
  exact ⟨_, _, fin_out rfl, rfl⟩
end Go.Proofs.YtfchacihhljfhaaGreatDoor
namespace Go.Proofs.YtfchacihhljfhaaGreatDoor
open Go.Aw
set_option maxHeartbeats 1600000
set_option linter.unusedSimpArgs false
set_option linter.unusedVariables false
abbrev At := List UInt8 × List UInt8
def relN : List UInt8 := [114, 101, 108]
def hrefN : List UInt8 := [104, 114, 101, 102]
def styN : List UInt8 := [115, 116, 121, 108, 101]
def clsN : List UInt8 := [99, 108, 97, 115, 115]
def aN : List UInt8 := [97]
def forcedB : List UInt8 := [110, 111, 102, 111, 108, 108, 111, 119, 32, 110, 111, 111, 112, 101, 110, 101, 114]
def places : List (List UInt8) := [hrefN, [115, 114, 99], [99, 105, 116, 101], [97, 99, 116, 105, 111, 110], [98, 97, 99, 107, 103, 114, 111, 117, 110, 100], [108, 111, 110, 103, 100, 101, 115, 99], [112, 105, 110, 103], [112, 111, 115, 116, 101, 114], [115, 114, 99, 115, 101, 116], [117, 115, 101, 109, 97, 112]]
/-- May an attribute of an element stay with its value? -/
def valueP (p : Pol) (el : List UInt8) (a : At) : Bool :=
 decide (el ∈ p.el) && (if a.1 = relN then decide (el = aN) && decide (a.2 = forcedB)
  else if a.1 = styN then !decide (a.2 = []) && decide (filterB p.pr a.2 = a.2)
  else if a.1 = clsN then attrP p el a.1 && (!decide (a.2 = []) && clsB p.cl [] (splitB 32 a.2))
  else attrP p el a.1 && (!decide (a.1 ∈ places) || allowed a.2 p.sc))
def hasA (nm : List UInt8) (l : List At) : Bool := decide (nm ∈ l.map Prod.fst)
/-- Has a link its rel behind? -/
def linkB (l : List At) : Bool := if hasA hrefN l = true then decide ((l.map Prod.fst).getLast? = some relN) else !hasA relN l
def elemP (p : Pol) (n : Node) : Bool := n.attrs.all (valueP p n.name) && ((!decide (n.name = aN) || linkB n.attrs) && decide (n.name ∈ p.el))
mutual
def innN (p : Pol) : Node → Bool
 | .mk nm a t k => decide (nm = []) || (elemP p (.mk nm a t k) && innL p k)
def innL (p : Pol) : List Node → Bool
 | [] => true
 | n :: r => innN p n && innL p r
end
theorem innN_eq (p : Pol) (n : Node) : innN p n = (decide (n.name = []) || (elemP p n && innL p n.kids)) := by cases n; unfold innN; rfl
theorem innL_cons (p : Pol) (n : Node) (r : List Node) : innL p (n :: r) = (innN p n && innL p r) := by rw [innL]
theorem innL_all (p : Pol) : ∀ l : List Node, innL p l = l.all (innN p)
 | [] => by rw [innL]; rfl
 | n :: r => by rw [innL_cons, innL_all p r]; rfl
def safeB (p : Pol) (l : List Node) : Bool := decide ((szL l : Int) ≤ p.nd) && (decide ((dpL l : Int) ≤ p.dp) && (stableB l && innL p l))
end Go.Proofs.YtfchacihhljfhaaGreatDoor

namespace Go.Proofs.YtfchacihhljfhaaGreatDoor
open Go.Aw
set_option maxHeartbeats 1600000
set_option linter.unusedSimpArgs false
set_option linter.unusedVariables false
set_option maxRecDepth 100000 in
theorem Place_ok (s : List UInt8) : PureC Tryz.prog 29 [.d (.str s)] (.d (.bool (decide (s ∈ places)))) := by
 have hc1 := Contains_ok places s (by decide)
 refine pure_okT Tryz.wf Tryz.tab_ok Tryz.func29 (by decide +kernel) rfl rfl rfl rfl ?_
 refine wR (k := ?_)
 refine ⟨_, _, _, rfl, rfl, by decide, rfl, ?_⟩
 refine wR (k := ?_)
 exact ⟨_, _, fin_out rfl, rfl⟩
set_option maxRecDepth 100000 in
theorem rPlace_ok (s : List UInt8) : PureC Tryz.prog 39 [.d (.str s)] (.d (.bool (decide (s ∈ places)))) := by
 refine pure_okT Tryz.wf Tryz.tab_ok Tryz.func39 (by decide +kernel) rfl rfl rfl rfl ?_
 refine CallsAbs.freezeTo (ds := strsD places) (args' := [.d (.sl (strsD places)), .d (.str s)]) 0 rfl rfl ⟨fun _ => Nat.le_refl _, trivial, trivial⟩ rfl (PureC.use (rHas_ok places s (by decide)) ?_)
 exact ⟨_, _, fin_out rfl, rfl⟩
set_option maxRecDepth 100000 in
set_option maxHeartbeats 1000000 in
theorem Value2_ok (p : Pol) (el nm v : List UInt8) (hp : Fits p) (he : el.length ≤ 1000000) (h1 : nm.length ≤ 1000000) (h2 : v.length ≤ 400000) : PureC Tryz.prog 18 [polA p, .d (.str el), .agg [.d (.str nm), .d (.str v)]] (.d (.bool (valueP p el (nm, v)))) := by
 have hc1 := Elem_ok p el hp
 unfold valueP
 dsimp only
 by_cases hE : el ∈ p.el
 ·rw [decide_eq_true hE, Bool.true_and]
  rw [decide_eq_true hE] at hc1
  by_cases hr : nm = relN
  ·subst hr
   rw [if_pos rfl]
   refine pure_okT Tryz.wf Tryz.tab_ok Tryz.func18 (by decide +kernel) rfl rfl rfl rfl ?_
   repeat' (first | refine PureC.use hc1 ?_ | refine PureC.use hc2 ?_ | refine PureC.use hc3 ?_ | refine PureC.use hc4 ?_ |                    refine ⟨fun _ => ?_, fun h => absurd h (by decide)⟩ | refine ⟨fun h => absurd h (by decide), fun _ => ?_⟩ | (refine ⟨fun h => ?_, fun h => ?_⟩ <;> (try simp only [wS, List.length_cons, List.length_nil] at h) <;> (try exact wX h)) | refine ⟨⟨oB, oB⟩, _, by assumption, by rfl, ?_⟩ | refine .inl ⟨⟨oB, oB⟩, ?_⟩ | refine ⟨⟨oB, oB⟩, ?_⟩ | refine ⟨⟨oB, oB, oB⟩, ?_⟩ | refine ⟨.inl rfl, ?_⟩ | refine ⟨.inr (.inl oB), ?_⟩ | refine ⟨_, rfl, rfl, oL, ?_⟩ | refine ⟨_, rfl, oL, ?_⟩ | refine ⟨oL, ?_⟩ | refine ⟨show _ ≤ (9223372036854775807 : Nat) from oB, ?_⟩ | refine ⟨show _ ≠ (0 : Int) from oB, ?_⟩ | refine ⟨_, rfl, _, rfl, ?_⟩ | refine ⟨_, by assumption, Nat.le_of_ble_eq_true rfl, ?_⟩ | refine ⟨_, by assumption, _, rfl, ?_⟩ | refine ⟨_, rfl, ?_⟩ | fail)
   all_goals first | exact ⟨_, _, fin_out rfl, rfl⟩ | exact ⟨_, _, fin_out rfl, congrArg (fun b => AV.d (.bool b)) (by first | (simp_all [aN, forcedB]; done) | (simp_all [aN, forcedB]; exact decide_eq_decide.2 Iff.rfl))⟩
  ·rw [if_neg hr]
   have hr' : ¬ nm = [114, 101, 108] := hr
   clear hr
   by_cases hs : nm = styN
   ·subst hs
    rw [if_pos rfl]
    have hc2 := Filter_ok p.pr v (by have := hp.pr.1; omega) (by omega)
    by_cases hv : v = []
    ·subst hv
     refine pure_okT Tryz.wf Tryz.tab_ok Tryz.func18 (by decide +kernel) rfl rfl rfl rfl ?_
     refine wR (k := ?_)
     refine drawnT Tryz.wf Tryz.tab_ok Tryz.mixed (by decide +kernel) ?_; repeat' (first | refine qstep rfl rfl (fin_eq (congrArg (fun b => AV.d (.bool b)) hq1)) ?_ |      refine qskip rfl rfl ?_ | refine qstep (r := .d (.bool true)) rfl rfl (fin_eq (congrArg (fun b => AV.d (.bool b)) (decide_eq_true (by omega)))) ?_ | refine qstep (r := .d (.bool false)) rfl rfl (fin_eq (congrArg (fun b => AV.d (.bool b)) (decide_eq_false (by omega)))) ?_ | refine qstep rfl rfl ⟨fun _ => FinMove.refl _ _ _, fun h => absurd h (by decide)⟩ ?_ | refine qstep rfl rfl ⟨fun h => absurd h (by decide), fun _ => FinMove.refl _ _ _⟩ ?_ | refine qstep rfl rfl (FinMove.refl _ _ _) ?_ |     refine qstep rfl rfl (PureC.use hc1 (FinMove.refl _ _ _)) ?_ | refine qstep rfl rfl (PureC.use hc2 (FinMove.refl _ _ _)) ?_ | refine qstep rfl rfl (PureC.use hc3 (FinMove.refl _ _ _)) ?_ | refine qstep rfl rfl (PureC.use hc4 (FinMove.refl _ _ _)) ?_ |     refine qstep rfl rfl ⟨⟨oB, oB⟩, _, by assumption, by rfl, FinMove.refl _ _ _⟩ ?_ | refine qstep rfl rfl (.inl ⟨⟨oB, oB⟩, FinMove.refl _ _ _⟩) ?_ | refine qstep rfl rfl ⟨⟨oB, oB⟩, FinMove.refl _ _ _⟩ ?_ | refine qstep rfl rfl ⟨⟨oB, oB, oB⟩, FinMove.refl _ _ _⟩ ?_ | refine qstep rfl rfl ⟨⟨oB, oB, oB⟩, .inl rfl, FinMove.refl _ _ _⟩ ?_ | refine qstep rfl rfl ⟨_, rfl, _, rfl, FinMove.refl _ _ _⟩ ?_ | refine qstep rfl rfl ⟨_, rfl, FinMove.refl _ _ _⟩ ?_ | refine qstep rfl rfl ⟨_, rfl, Nat.le_refl _, FinMove.refl _ _ _⟩ ?_ | refine qstep rfl rfl ⟨Nat.le_refl _, FinMove.refl _ _ _⟩ ?_ | refine qstep rfl rfl ⟨by decide, FinMove.refl _ _ _⟩ ?_ | refine qstep rfl rfl ⟨show _ ≤ (9223372036854775807 : Nat) from oB, FinMove.refl _ _ _⟩ ?_ | fail)
     repeat' (first | refine PureC.use hc1 ?_ | refine PureC.use hc2 ?_ | refine PureC.use hc3 ?_ | refine PureC.use hc4 ?_ |                    refine ⟨fun _ => ?_, fun h => absurd h (by decide)⟩ | refine ⟨fun h => absurd h (by decide), fun _ => ?_⟩ | (refine ⟨fun h => ?_, fun h => ?_⟩ <;> (try simp only [wS, List.length_cons, List.length_nil] at h) <;> (try exact wX h)) | refine ⟨⟨oB, oB⟩, _, by assumption, by rfl, ?_⟩ | refine .inl ⟨⟨oB, oB⟩, ?_⟩ | refine ⟨⟨oB, oB⟩, ?_⟩ | refine ⟨⟨oB, oB, oB⟩, ?_⟩ | refine ⟨.inl rfl, ?_⟩ | refine ⟨.inr (.inl oB), ?_⟩ | refine ⟨_, rfl, rfl, oL, ?_⟩ | refine ⟨_, rfl, oL, ?_⟩ | refine ⟨oL, ?_⟩ | refine ⟨show _ ≤ (9223372036854775807 : Nat) from oB, ?_⟩ | refine ⟨show _ ≠ (0 : Int) from oB, ?_⟩ | refine ⟨_, rfl, _, rfl, ?_⟩ | refine ⟨_, by assumption, Nat.le_of_ble_eq_true rfl, ?_⟩ | refine ⟨_, by assumption, _, rfl, ?_⟩ | refine ⟨_, rfl, ?_⟩ | fail)
     all_goals first | exact ⟨_, _, fin_out rfl, rfl⟩ | exact ⟨_, _, fin_out rfl, congrArg (fun b => AV.d (.bool b)) (by first | (simp_all [aN, forcedB]; done) | (simp_all [aN, forcedB]; exact decide_eq_decide.2 Iff.rfl))⟩
    ·have hq1 : (!decide (v = [])) = true := by rw [decide_eq_false hv]; rfl
     refine pure_okT Tryz.wf Tryz.tab_ok Tryz.func18 (by decide +kernel) rfl rfl rfl rfl ?_
     refine wR (k := ?_)
     refine drawnT Tryz.wf Tryz.tab_ok Tryz.mixed (by decide +kernel) ?_; repeat' (first | refine qstep rfl rfl (fin_eq (congrArg (fun b => AV.d (.bool b)) hq1)) ?_ |      refine qskip rfl rfl ?_ | refine qstep (r := .d (.bool true)) rfl rfl (fin_eq (congrArg (fun b => AV.d (.bool b)) (decide_eq_true (by omega)))) ?_ | refine qstep (r := .d (.bool false)) rfl rfl (fin_eq (congrArg (fun b => AV.d (.bool b)) (decide_eq_false (by omega)))) ?_ | refine qstep rfl rfl ⟨fun _ => FinMove.refl _ _ _, fun h => absurd h (by decide)⟩ ?_ | refine qstep rfl rfl ⟨fun h => absurd h (by decide), fun _ => FinMove.refl _ _ _⟩ ?_ | refine qstep rfl rfl (FinMove.refl _ _ _) ?_ |     refine qstep rfl rfl (PureC.use hc1 (FinMove.refl _ _ _)) ?_ | refine qstep rfl rfl (PureC.use hc2 (FinMove.refl _ _ _)) ?_ | refine qstep rfl rfl (PureC.use hc3 (FinMove.refl _ _ _)) ?_ | refine qstep rfl rfl (PureC.use hc4 (FinMove.refl _ _ _)) ?_ |     refine qstep rfl rfl ⟨⟨oB, oB⟩, _, by assumption, by rfl, FinMove.refl _ _ _⟩ ?_ | refine qstep rfl rfl (.inl ⟨⟨oB, oB⟩, FinMove.refl _ _ _⟩) ?_ | refine qstep rfl rfl ⟨⟨oB, oB⟩, FinMove.refl _ _ _⟩ ?_ | refine qstep rfl rfl ⟨⟨oB, oB, oB⟩, FinMove.refl _ _ _⟩ ?_ | refine qstep rfl rfl ⟨⟨oB, oB, oB⟩, .inl rfl, FinMove.refl _ _ _⟩ ?_ | refine qstep rfl rfl ⟨_, rfl, _, rfl, FinMove.refl _ _ _⟩ ?_ | refine qstep rfl rfl ⟨_, rfl, FinMove.refl _ _ _⟩ ?_ | refine qstep rfl rfl ⟨_, rfl, Nat.le_refl _, FinMove.refl _ _ _⟩ ?_ | refine qstep rfl rfl ⟨Nat.le_refl _, FinMove.refl _ _ _⟩ ?_ | refine qstep rfl rfl ⟨by decide, FinMove.refl _ _ _⟩ ?_ | refine qstep rfl rfl ⟨show _ ≤ (9223372036854775807 : Nat) from oB, FinMove.refl _ _ _⟩ ?_ | fail)
     repeat' (first | refine PureC.use hc1 ?_ | refine PureC.use hc2 ?_ | refine PureC.use hc3 ?_ | refine PureC.use hc4 ?_ |                    refine ⟨fun _ => ?_, fun h => absurd h (by decide)⟩ | refine ⟨fun h => absurd h (by decide), fun _ => ?_⟩ | (refine ⟨fun h => ?_, fun h => ?_⟩ <;> (try simp only [wS, List.length_cons, List.length_nil] at h) <;> (try exact wX h)) | refine ⟨⟨oB, oB⟩, _, by assumption, by rfl, ?_⟩ | refine .inl ⟨⟨oB, oB⟩, ?_⟩ | refine ⟨⟨oB, oB⟩, ?_⟩ | refine ⟨⟨oB, oB, oB⟩, ?_⟩ | refine ⟨.inl rfl, ?_⟩ | refine ⟨.inr (.inl oB), ?_⟩ | refine ⟨_, rfl, rfl, oL, ?_⟩ | refine ⟨_, rfl, oL, ?_⟩ | refine ⟨oL, ?_⟩ | refine ⟨show _ ≤ (9223372036854775807 : Nat) from oB, ?_⟩ | refine ⟨show _ ≠ (0 : Int) from oB, ?_⟩ | refine ⟨_, rfl, _, rfl, ?_⟩ | refine ⟨_, by assumption, Nat.le_of_ble_eq_true rfl, ?_⟩ | refine ⟨_, by assumption, _, rfl, ?_⟩ | refine ⟨_, rfl, ?_⟩ | fail)
     all_goals first | exact ⟨_, _, fin_out rfl, rfl⟩ | exact ⟨_, _, fin_out rfl, congrArg (fun b => AV.d (.bool b)) (by first | (simp_all [aN, forcedB]; done) | (simp_all [aN, forcedB]; exact decide_eq_decide.2 Iff.rfl))⟩
   ·rw [if_neg hs]
    have hs' : ¬ nm = [115, 116, 121, 108, 101] := hs
    clear hs
    have hc2 := Attr_ok p el nm hp he h1
    by_cases hk : nm = clsN
    ·subst hk
     rw [if_pos rfl]
     have hc3 := classes_ok v p.cl (by omega) (by have := hp.cl.1; omega)
     refine pure_okT Tryz.wf Tryz.tab_ok Tryz.func18 (by decide +kernel) rfl rfl rfl rfl ?_
     cases hA : attrP p el clsN with
     | false =>
      rw [hA] at hc2
      repeat' (first | refine PureC.use hc1 ?_ | refine PureC.use hc2 ?_ | refine PureC.use hc3 ?_ | refine PureC.use hc4 ?_ |                    refine ⟨fun _ => ?_, fun h => absurd h (by decide)⟩ | refine ⟨fun h => absurd h (by decide), fun _ => ?_⟩ | (refine ⟨fun h => ?_, fun h => ?_⟩ <;> (try simp only [wS, List.length_cons, List.length_nil] at h) <;> (try exact wX h)) | refine ⟨⟨oB, oB⟩, _, by assumption, by rfl, ?_⟩ | refine .inl ⟨⟨oB, oB⟩, ?_⟩ | refine ⟨⟨oB, oB⟩, ?_⟩ | refine ⟨⟨oB, oB, oB⟩, ?_⟩ | refine ⟨.inl rfl, ?_⟩ | refine ⟨.inr (.inl oB), ?_⟩ | refine ⟨_, rfl, rfl, oL, ?_⟩ | refine ⟨_, rfl, oL, ?_⟩ | refine ⟨oL, ?_⟩ | refine ⟨show _ ≤ (9223372036854775807 : Nat) from oB, ?_⟩ | refine ⟨show _ ≠ (0 : Int) from oB, ?_⟩ | refine ⟨_, rfl, _, rfl, ?_⟩ | refine ⟨_, by assumption, Nat.le_of_ble_eq_true rfl, ?_⟩ | refine ⟨_, by assumption, _, rfl, ?_⟩ | refine ⟨_, rfl, ?_⟩ | fail)
      all_goals first | exact ⟨_, _, fin_out rfl, rfl⟩ | exact ⟨_, _, fin_out rfl, congrArg (fun b => AV.d (.bool b)) (by first | (simp_all [aN, forcedB]; done) | (simp_all [aN, forcedB]; exact decide_eq_decide.2 Iff.rfl))⟩
     | true =>
      rw [hA] at hc2
      repeat' (first | refine PureC.use hc1 ?_ | refine PureC.use hc2 ?_ | refine PureC.use hc3 ?_ | refine PureC.use hc4 ?_ |                    refine ⟨fun _ => ?_, fun h => absurd h (by decide)⟩ | refine ⟨fun h => absurd h (by decide), fun _ => ?_⟩ | (refine ⟨fun h => ?_, fun h => ?_⟩ <;> (try simp only [wS, List.length_cons, List.length_nil] at h) <;> (try exact wX h)) | refine ⟨⟨oB, oB⟩, _, by assumption, by rfl, ?_⟩ | refine .inl ⟨⟨oB, oB⟩, ?_⟩ | refine ⟨⟨oB, oB⟩, ?_⟩ | refine ⟨⟨oB, oB, oB⟩, ?_⟩ | refine ⟨.inl rfl, ?_⟩ | refine ⟨.inr (.inl oB), ?_⟩ | refine ⟨_, rfl, rfl, oL, ?_⟩ | refine ⟨_, rfl, oL, ?_⟩ | refine ⟨oL, ?_⟩ | refine ⟨show _ ≤ (9223372036854775807 : Nat) from oB, ?_⟩ | refine ⟨show _ ≠ (0 : Int) from oB, ?_⟩ | refine ⟨_, rfl, _, rfl, ?_⟩ | refine ⟨_, by assumption, Nat.le_of_ble_eq_true rfl, ?_⟩ | refine ⟨_, by assumption, _, rfl, ?_⟩ | refine ⟨_, rfl, ?_⟩ | fail)
      all_goals first | exact ⟨_, _, fin_out rfl, rfl⟩ | exact ⟨_, _, fin_out rfl, congrArg (fun b => AV.d (.bool b)) (by first | (simp_all [aN, forcedB]; done) | (simp_all [aN, forcedB]; exact decide_eq_decide.2 Iff.rfl))⟩
    ·rw [if_neg hk]
     have hk' : ¬ nm = [99, 108, 97, 115, 115] := hk
     clear hk
     have hc3 := Place_ok nm
     have hc4 := Allowed_ok v p.sc (by omega) (by have := hp.sc.1; omega)
     refine pure_okT Tryz.wf Tryz.tab_ok Tryz.func18 (by decide +kernel) rfl rfl rfl rfl ?_
     cases hA : attrP p el nm with
     | false =>
      rw [hA] at hc2
      repeat' (first | refine PureC.use hc1 ?_ | refine PureC.use hc2 ?_ | refine PureC.use hc3 ?_ | refine PureC.use hc4 ?_ |                    refine ⟨fun _ => ?_, fun h => absurd h (by decide)⟩ | refine ⟨fun h => absurd h (by decide), fun _ => ?_⟩ | (refine ⟨fun h => ?_, fun h => ?_⟩ <;> (try simp only [wS, List.length_cons, List.length_nil] at h) <;> (try exact wX h)) | refine ⟨⟨oB, oB⟩, _, by assumption, by rfl, ?_⟩ | refine .inl ⟨⟨oB, oB⟩, ?_⟩ | refine ⟨⟨oB, oB⟩, ?_⟩ | refine ⟨⟨oB, oB, oB⟩, ?_⟩ | refine ⟨.inl rfl, ?_⟩ | refine ⟨.inr (.inl oB), ?_⟩ | refine ⟨_, rfl, rfl, oL, ?_⟩ | refine ⟨_, rfl, oL, ?_⟩ | refine ⟨oL, ?_⟩ | refine ⟨show _ ≤ (9223372036854775807 : Nat) from oB, ?_⟩ | refine ⟨show _ ≠ (0 : Int) from oB, ?_⟩ | refine ⟨_, rfl, _, rfl, ?_⟩ | refine ⟨_, by assumption, Nat.le_of_ble_eq_true rfl, ?_⟩ | refine ⟨_, by assumption, _, rfl, ?_⟩ | refine ⟨_, rfl, ?_⟩ | fail)
      all_goals first | exact ⟨_, _, fin_out rfl, rfl⟩ | exact ⟨_, _, fin_out rfl, congrArg (fun b => AV.d (.bool b)) (by first | (simp_all [aN, forcedB]; done) | (simp_all [aN, forcedB]; exact decide_eq_decide.2 Iff.rfl))⟩
     | true =>
      rw [hA] at hc2
      by_cases hpl : nm ∈ places
      ·rw [decide_eq_true hpl] at hc3 ⊢
       repeat' (first | refine PureC.use hc1 ?_ | refine PureC.use hc2 ?_ | refine PureC.use hc3 ?_ | refine PureC.use hc4 ?_ |                    refine ⟨fun _ => ?_, fun h => absurd h (by decide)⟩ | refine ⟨fun h => absurd h (by decide), fun _ => ?_⟩ | (refine ⟨fun h => ?_, fun h => ?_⟩ <;> (try simp only [wS, List.length_cons, List.length_nil] at h) <;> (try exact wX h)) | refine ⟨⟨oB, oB⟩, _, by assumption, by rfl, ?_⟩ | refine .inl ⟨⟨oB, oB⟩, ?_⟩ | refine ⟨⟨oB, oB⟩, ?_⟩ | refine ⟨⟨oB, oB, oB⟩, ?_⟩ | refine ⟨.inl rfl, ?_⟩ | refine ⟨.inr (.inl oB), ?_⟩ | refine ⟨_, rfl, rfl, oL, ?_⟩ | refine ⟨_, rfl, oL, ?_⟩ | refine ⟨oL, ?_⟩ | refine ⟨show _ ≤ (9223372036854775807 : Nat) from oB, ?_⟩ | refine ⟨show _ ≠ (0 : Int) from oB, ?_⟩ | refine ⟨_, rfl, _, rfl, ?_⟩ | refine ⟨_, by assumption, Nat.le_of_ble_eq_true rfl, ?_⟩ | refine ⟨_, by assumption, _, rfl, ?_⟩ | refine ⟨_, rfl, ?_⟩ | fail)
       all_goals first | exact ⟨_, _, fin_out rfl, rfl⟩ | exact ⟨_, _, fin_out rfl, congrArg (fun b => AV.d (.bool b)) (by first | (simp_all [aN, forcedB]; done) | (simp_all [aN, forcedB]; exact decide_eq_decide.2 Iff.rfl))⟩
      ·rw [decide_eq_false hpl] at hc3 ⊢
       repeat' (first | refine PureC.use hc1 ?_ | refine PureC.use hc2 ?_ | refine PureC.use hc3 ?_ | refine PureC.use hc4 ?_ |                    refine ⟨fun _ => ?_, fun h => absurd h (by decide)⟩ | refine ⟨fun h => absurd h (by decide), fun _ => ?_⟩ | (refine ⟨fun h => ?_, fun h => ?_⟩ <;> (try simp only [wS, List.length_cons, List.length_nil] at h) <;> (try exact wX h)) | refine ⟨⟨oB, oB⟩, _, by assumption, by rfl, ?_⟩ | refine .inl ⟨⟨oB, oB⟩, ?_⟩ | refine ⟨⟨oB, oB⟩, ?_⟩ | refine ⟨⟨oB, oB, oB⟩, ?_⟩ | refine ⟨.inl rfl, ?_⟩ | refine ⟨.inr (.inl oB), ?_⟩ | refine ⟨_, rfl, rfl, oL, ?_⟩ | refine ⟨_, rfl, oL, ?_⟩ | refine ⟨oL, ?_⟩ | refine ⟨show _ ≤ (9223372036854775807 : Nat) from oB, ?_⟩ | refine ⟨show _ ≠ (0 : Int) from oB, ?_⟩ | refine ⟨_, rfl, _, rfl, ?_⟩ | refine ⟨_, by assumption, Nat.le_of_ble_eq_true rfl, ?_⟩ | refine ⟨_, by assumption, _, rfl, ?_⟩ | refine ⟨_, rfl, ?_⟩ | fail)
       all_goals first | exact ⟨_, _, fin_out rfl, rfl⟩ | exact ⟨_, _, fin_out rfl, congrArg (fun b => AV.d (.bool b)) (by first | (simp_all [aN, forcedB]; done) | (simp_all [aN, forcedB]; exact decide_eq_decide.2 Iff.rfl))⟩
 ·rw [decide_eq_false hE] at hc1 ⊢
  refine pure_okT Tryz.wf Tryz.tab_ok Tryz.func18 (by decide +kernel) rfl rfl rfl rfl ?_
  refine wR (k := ?_)
  exact ⟨_, _, fin_out rfl, rfl⟩
def relTo (l : List At) : Nat → Int
 | 0 => -1
 | k + 1 => if (l.getD k ([], [])).1 = relN then (k : Int) else relTo l k
theorem relTo_lt (l : List At) : ∀ k : Nat, relTo l k < (k : Int) ∧ -1 ≤ relTo l k
 | 0 => by rw [relTo]; omega
 | k + 1 => by
  have := relTo_lt l k
  rw [relTo]; split <;> omega
theorem getD_of {α : Type} (l : List α) (k : Nat) (d : α) (h : k < l.length) : l.getD k d = l[k] := by
 rw [List.getD_eq_getElem?_getD, List.getElem?_eq_getElem h, Option.getD_some]
theorem hasA_take (nm : List UInt8) (l : List At) (k : Nat) (h : k < l.length) : hasA nm (l.take (k + 1)) = (hasA nm (l.take k) || decide (l[k].1 = nm)) := by
 unfold hasA
 rw [List.take_succ_eq_append_getElem h, List.map_append, Bool.eq_iff_iff]
 simp only [decide_eq_true_eq, Bool.or_eq_true, List.mem_append, List.map_cons, List.map_nil, List.mem_singleton]
 exact ⟨fun h => h.imp id Eq.symm, fun h => h.imp id Eq.symm⟩
theorem relTo_has (l : List At) : ∀ k : Nat, k ≤ l.length → decide (0 ≤ relTo l k) = hasA relN (l.take k)
 | 0, _ => rfl
 | k + 1, h => by
  have ih := relTo_has l k (by omega)
  rw [hasA_take relN l k h, ← ih, relTo, getD_of l k _ h]
  by_cases hx : l[k].1 = relN
  ·rw [if_pos hx, decide_eq_true hx, decide_eq_true (by omega), Bool.or_true]
  ·rw [if_neg hx, decide_eq_false hx, Bool.or_false]
theorem link_eq (l : List At) : linkB l = (decide (hasA hrefN l = decide (0 ≤ relTo l l.length)) && (!hasA hrefN l || decide (relTo l l.length = (l.length : Int) - 1))) := by
 have hr := relTo_has l l.length (Nat.le_refl _)
 rw [List.take_length] at hr
 unfold linkB
 cases hh : hasA hrefN l with
 | false =>
  rw [if_neg Bool.false_ne_true, hr]
  cases hasA relN l <;> rfl
 | true =>
  rw [if_pos rfl]
  rcases List.eq_nil_or_concat l with rfl | ⟨r, x, rfl⟩
  ·exact absurd hh (by decide)
  ·rw [List.concat_eq_append] at *
   have hx : relTo (r ++ [x]) (r ++ [x]).length = if x.1 = relN then (r.length : Int) else relTo (r ++ [x]) r.length := by
    rw [show (r ++ [x]).length = r.length + 1 from by simp, relTo, List.getD_eq_getElem?_getD]; simp
   have hlt := relTo_lt (r ++ [x]) r.length
   rw [hx]
   have hl : ((r ++ [x]).length : Int) - 1 = r.length := by simp
   rw [hl, List.map_append]
   by_cases h : x.1 = relN
   ·rw [if_pos h]
    simp [h]
   ·rw [if_neg h]
    have h1 : ¬ relTo (r ++ [x]) r.length = (r.length : Int) := by omega
    simp [h, h1]
theorem all_take {α : Type} (f : α → Bool) (l : List α) (k : Nat) (h : k < l.length) : (l.take (k + 1)).all f = ((l.take k).all f && f l[k]) := by
 rw [List.take_succ_eq_append_getElem h, List.all_append]; simp
theorem all_no {α : Type} (f : α → Bool) (l : List α) (k : Nat) (h : k < l.length) (hf : f l[k] = false) : l.all f = false := by
 rw [List.all_eq_false]; exact ⟨_, List.getElem_mem h, by simp [hf]⟩
def FitsN (n : Node) : Prop := n.name.length ≤ 1000000 ∧ n.attrs.length ≤ 1000000 ∧ ∀ a ∈ n.attrs, a.1.length ≤ 1000000 ∧ a.2.length ≤ 400000
set_option maxRecDepth 100000 in
set_option maxHeartbeats 2000000 in
theorem element_ok (p : Pol) (n : Node) (hp : Fits p) (hf : FitsN n) : PureC Tryz.prog 13 [polA p, nodeA n] (.d (.bool (elemP p n))) := by
 obtain ⟨h1, h2, h3⟩ := hf
 have hE := Elem_ok p n.name hp
 unfold elemP
 rw [link_eq]
 unfold nodeA
 generalize n.name = nm at *
 generalize n.attrs = l at *
 generalize n.text = tx
 generalize nodesD n.kids = kd
 have hn := attrsD_len l
 refine pure_okT Tryz.wf Tryz.tab_ok Tryz.func13 (by decide +kernel) rfl rfl rfl rfl ?_
 refine wR (k := ?_)
 refine loopT Tryz.wf Tryz.tab_ok (fun m s' σ => ∃ k : Nat, m = l.length - k ∧ k ≤ l.length ∧ (l.take k).all (valueP p nm) = true ∧ s' = [(2, .ref 0 0 0), (3, .ref 1 0 0), (5, .d (.bool (hasA hrefN (l.take k)))), (6, .d (.int .i64 (relTo l k))), (10, .d (.sl (attrsD l))), (11, .d (.int .i64 l.length)), (12, .d (.int .i64 k))] ∧ σ = ⟨2, [(1, .rows (4, 34) [[.d (.str nm), .d (.sl (attrsD l)), .d (.str tx), .d (.sl kd)]]), (0, .rows (9, 24) [(polD p).map .d])]⟩)
  ⟨0, rfl, Nat.zero_le _, rfl, rfl, rfl⟩ (Mv.of [.old 0, .old 1] rfl rfl rfl ⟨⟨rfl, .inl ⟨rfl, fun row h => by rw [List.mem_singleton.1 h]; rfl⟩⟩, ⟨rfl, .inl ⟨rfl, fun row h => by rw [List.mem_singleton.1 h]; rfl⟩⟩, trivial⟩ ⟨⟨rfl, rfl, rfl⟩, ⟨rfl, rfl, rfl⟩, rfl, rfl, rfl, congrArg (fun n : Nat => D.int .i64 n) hn.symm, rfl, trivial⟩) ?_
 rintro _ _ _ ⟨k, rfl, hk, hI, rfl, rfl⟩
 by_cases hlt : k < l.length
 ·have hg := attrsD_get l k hlt
  have hlk := h3 _ (List.getElem_mem hlt)
  have hc1 := Value2_ok p nm l[k].1 l[k].2 hp h1 hlk.1 hlk.2
  have hal := all_take (valueP p nm) l k hlt
  have hno := all_no (valueP p nm) l k hlt
  have hre : relTo l (k + 1) = if l[k].1 = relN then (k : Int) else relTo l k := by rw [relTo, getD_of l k _ hlt]
  have hha := hasA_take hrefN l k hlt
  rw [hI, Bool.true_and] at hal
  rw [show (l[k].1, l[k].2) = l[k] from rfl] at hc1
  generalize l[k] = a at *
  obtain ⟨an, av⟩ := a
  dsimp only at *
  cases hv : valueP p nm (an, av) with
  | false =>
   rw [hv] at hc1
   refine wR (k := ?_)
   exact ⟨_, _, fin_out rfl, congrArg (fun b => AV.d (.bool b)) (by rw [hno hv]; rfl)⟩
  | true =>
   rw [hv] at hc1 hal
   by_cases hnr : an = relN
   ·rw [if_pos hnr] at hre
    cases hq : hasA hrefN (l.take k) with
    | false =>
     rw [hq, Bool.false_or] at hha
     refine wR (k := ?_)
     exact ⟨_, _, _, ⟨k + 1, rfl, hlt, hal, rfl, rfl⟩, by omega, Mv.of [.old 0, .old 1] rfl rfl rfl ⟨⟨rfl, .inl ⟨rfl, fun row h => by rw [List.mem_singleton.1 h]; rfl⟩⟩, ⟨rfl, .inl ⟨rfl, fun row h => by rw [List.mem_singleton.1 h]; rfl⟩⟩, trivial⟩ ⟨⟨rfl, rfl, rfl⟩, ⟨rfl, rfl, rfl⟩, congrArg D.bool hha, congrArg (fun n : Int => D.int .i64 n) hre, rfl, rfl, rfl, trivial⟩⟩
    | true =>
     rw [hq, Bool.true_or] at hha
     refine wR (k := ?_)
     exact ⟨_, _, _, ⟨k + 1, rfl, hlt, hal, rfl, rfl⟩, by omega, Mv.of [.old 0, .old 1] rfl rfl rfl ⟨⟨rfl, .inl ⟨rfl, fun row h => by rw [List.mem_singleton.1 h]; rfl⟩⟩, ⟨rfl, .inl ⟨rfl, fun row h => by rw [List.mem_singleton.1 h]; rfl⟩⟩, trivial⟩ ⟨⟨rfl, rfl, rfl⟩, ⟨rfl, rfl, rfl⟩, congrArg D.bool hha, congrArg (fun n : Int => D.int .i64 n) hre, rfl, rfl, rfl, trivial⟩⟩
   ·rw [if_neg hnr] at hre
    cases hq : hasA hrefN (l.take k) with
    | false =>
     rw [hq, Bool.false_or] at hha
     refine wR (k := ?_)
     exact ⟨_, _, _, ⟨k + 1, rfl, hlt, hal, rfl, rfl⟩, by omega, Mv.of [.old 0, .old 1] rfl rfl rfl ⟨⟨rfl, .inl ⟨rfl, fun row h => by rw [List.mem_singleton.1 h]; rfl⟩⟩, ⟨rfl, .inl ⟨rfl, fun row h => by rw [List.mem_singleton.1 h]; rfl⟩⟩, trivial⟩ ⟨⟨rfl, rfl, rfl⟩, ⟨rfl, rfl, rfl⟩, congrArg D.bool hha, congrArg (fun n : Int => D.int .i64 n) hre, rfl, rfl, rfl, trivial⟩⟩
    | true =>
     rw [hq, Bool.true_or] at hha
     refine wR (k := ?_)
     exact ⟨_, _, _, ⟨k + 1, rfl, hlt, hal, rfl, rfl⟩, by omega, Mv.of [.old 0, .old 1] rfl rfl rfl ⟨⟨rfl, .inl ⟨rfl, fun row h => by rw [List.mem_singleton.1 h]; rfl⟩⟩, ⟨rfl, .inl ⟨rfl, fun row h => by rw [List.mem_singleton.1 h]; rfl⟩⟩, trivial⟩ ⟨⟨rfl, rfl, rfl⟩, ⟨rfl, rfl, rfl⟩, congrArg D.bool hha, congrArg (fun n : Int => D.int .i64 n) hre, rfl, rfl, rfl, trivial⟩⟩
 ·have hk' : k = l.length := by omega
  subst hk'
  rw [List.take_length] at hI ⊢
  rw [hI]
  have hc1 := hE
  generalize hasA hrefN l = bh at *
  generalize relTo l l.length = rr at *
  repeat' (first | refine PureC.use hc1 ?_ |                       refine ⟨fun _ => ?_, fun h => absurd h (by decide)⟩ | refine ⟨fun h => absurd h (by decide), fun _ => ?_⟩ | (refine ⟨fun h => ?_, fun h => ?_⟩ <;> (try simp only [wS, List.length_cons, List.length_nil] at h) <;> (try exact wX h)) | refine ⟨⟨oB, oB⟩, _, by assumption, by rfl, ?_⟩ | refine .inl ⟨⟨oB, oB⟩, ?_⟩ | refine ⟨⟨oB, oB⟩, ?_⟩ | refine ⟨⟨oB, oB, oB⟩, ?_⟩ | refine ⟨.inl rfl, ?_⟩ | refine ⟨.inr (.inl oB), ?_⟩ | refine ⟨_, rfl, rfl, oL, ?_⟩ | refine ⟨_, rfl, oL, ?_⟩ | refine ⟨oL, ?_⟩ | refine ⟨show _ ≤ (9223372036854775807 : Nat) from oB, ?_⟩ | refine ⟨show _ ≠ (0 : Int) from oB, ?_⟩ | refine ⟨_, rfl, _, rfl, ?_⟩ | refine ⟨_, by assumption, Nat.le_of_ble_eq_true rfl, ?_⟩ | refine ⟨_, by assumption, _, rfl, ?_⟩ | refine ⟨_, rfl, ?_⟩ | fail)
  all_goals first
   | exact ⟨_, _, fin_out rfl, congrArg (fun b => AV.d (.bool b)) (by simp_all [aN]; done)⟩
   | exact ⟨_, _, fin_out rfl, congrArg (fun b => AV.d (.bool b)) (by simp_all [aN]; omega)⟩
end Go.Proofs.YtfchacihhljfhaaGreatDoor
namespace Go.Proofs.YtfchacihhljfhaaGreatDoor
open Go.Aw
set_option maxHeartbeats 1600000
set_option linter.unusedSimpArgs false
set_option linter.unusedVariables false
mutual
def FitN : Node → Prop
 | .mk nm a t k => FitsN (.mk nm a t k) ∧ FitL k
def FitL : List Node → Prop
 | [] => True
 | n :: r => FitN n ∧ FitL r
end
theorem FitN_eq (n : Node) : FitN n ↔ (FitsN n ∧ FitL n.kids) := by cases n; unfold FitN; exact Iff.rfl
theorem FitL_mem : ∀ {l : List Node}, FitL l → ∀ n ∈ l, FitsN n ∧ FitL n.kids
 | [], _, n, hn => by cases hn
 | m :: r, h, n, hn => by
  rw [FitL] at h
  rcases List.mem_cons.1 hn with rfl | hn
  ·exact (FitN_eq _).1 h.1
  ·exact FitL_mem h.2 n hn
def sS (p : Pol) : Store := ⟨2, [(1, .rows (1, 39) [[.fn (.func 12) [] [.ref 0 0 0, .ref 1 0 0]]]), (0, .rows (9, 24) [(polD p).map .d])]⟩
set_option maxRecDepth 100000 in
set_option maxHeartbeats 2000000 in
theorem sinner_ok (p : Pol) (hp : Fits p) (N : Nat) : ∀ l : List Node, szL l ≤ N → N ≤ 1000000000 → FitL l → CallsAbs Tryz.prog 12 [.d (.sl (nodesD l)), .ref 0 0 0, .ref 1 0 0] (sS p) fun r σ' => r = .d (.bool (innL p l)) ∧ σ' = sS p := by
 induction N using Nat.strongRecOn with
 | ind N ih =>
 intro l hN hB hF
 rw [innL_all]
 have hn := nodesD_len l
 have hlen := sz_len l
 refine fn_okT Tryz.wf Tryz.tab_ok Tryz.func12 (by decide +kernel) rfl rfl ?_
 refine wR (k := ?_)
 refine loopT Tryz.wf Tryz.tab_ok (fun m s' σ => ∃ k : Nat, m = l.length - k ∧ k ≤ l.length ∧ (l.take k).all (innN p) = true ∧ s' = [(1, .ref 0 0 0), (2, .ref 1 0 0), (7, .d (.sl (nodesD l))), (8, .d (.int .i64 l.length)), (9, .d (.int .i64 k))] ∧ σ = sS p)
  ⟨0, rfl, Nat.zero_le _, rfl, rfl, rfl⟩ (Mv.of [] rfl rfl rfl ⟨⟨rfl, .inr ⟨⟨⟨rfl, trivial, ⟨rfl, rfl, rfl⟩, ⟨rfl, rfl, rfl⟩, trivial⟩, trivial⟩, trivial⟩⟩, ⟨rfl, .inl ⟨rfl, fun row h => by rw [List.mem_singleton.1 h]; rfl⟩⟩, trivial⟩ ⟨⟨rfl, rfl, rfl⟩, ⟨rfl, rfl, rfl⟩, rfl, congrArg (fun n : Nat => D.int .i64 n) hn.symm, rfl, trivial⟩) ?_
 rintro _ _ _ ⟨k, rfl, hk, hI, rfl, rfl⟩
 by_cases hlt : k < l.length
 ·have hg := nodesD_get l k hlt
  have hkl := kids_lt (List.getElem_mem hlt)
  have hfn := FitL_mem hF _ (List.getElem_mem hlt)
  have hc1 := element_ok p l[k] hp hfn.1
  have hik := ih (szL l[k].kids) (by omega) l[k].kids (Nat.le_refl _) (by omega) hfn.2
  have hal := all_take (innN p) l k hlt
  have hno := all_no (innN p) l k hlt
  rw [hI, Bool.true_and] at hal
  have hie := innN_eq p l[k]
  unfold nodeA at hc1
  generalize innN p l[k] = b at *
  by_cases h0 : l[k].name = []
  ·rw [decide_eq_true h0, Bool.true_or] at hie
   rw [hie] at hal
   refine wR (k := ?_)
   exact ⟨_, _, _, ⟨k + 1, rfl, hlt, hal, rfl, rfl⟩, by omega, Mv.of [] rfl rfl rfl ⟨⟨rfl, .inr ⟨⟨⟨rfl, trivial, ⟨rfl, rfl, rfl⟩, ⟨rfl, rfl, rfl⟩, trivial⟩, trivial⟩, trivial⟩⟩, ⟨rfl, .inl ⟨rfl, fun row h => by rw [List.mem_singleton.1 h]; rfl⟩⟩, trivial⟩ ⟨⟨rfl, rfl, rfl⟩, ⟨rfl, rfl, rfl⟩, rfl, rfl, rfl, trivial⟩⟩
  ·rw [decide_eq_false h0, Bool.false_or] at hie
   cases he : elemP p l[k] with
   | false =>
    rw [he] at hc1
    rw [he, Bool.false_and] at hie
    refine wR (k := ?_)
    exact ⟨.d (.bool false), sS p, fin_mv [] rfl rfl rfl ⟨⟨rfl, .inr ⟨⟨⟨rfl, trivial, ⟨rfl, rfl, rfl⟩, ⟨rfl, rfl, rfl⟩, trivial⟩, trivial⟩, trivial⟩⟩, ⟨rfl, .inl ⟨rfl, fun row h => by rw [List.mem_singleton.1 h]; rfl⟩⟩, trivial⟩ rfl, congrArg (fun b => AV.d (.bool b)) (hno hie).symm, rfl⟩
   | true =>
    rw [he] at hc1
    rw [he, Bool.true_and] at hie
    refine wR (k := ?_)
    refine CallsAbs.frame hik [.old 0, .old 1] ⟨Nat.zero_le _, rfl, rfl, ⟨⟨rfl, .inr ⟨⟨⟨rfl, trivial, ⟨rfl, rfl, rfl⟩, ⟨rfl, rfl, rfl⟩, trivial⟩, trivial⟩, trivial⟩⟩, ⟨rfl, .inl ⟨rfl, fun row h => by rw [List.mem_singleton.1 h]; rfl⟩⟩, trivial⟩⟩ ⟨rfl, ⟨rfl, rfl, rfl⟩, ⟨rfl, rfl, rfl⟩, trivial⟩ ?_
    rintro _ _ ⟨rfl, rfl⟩
    refine ⟨.d (.bool (innL p l[k].kids)), (sS p).objs, ⟨⟨rfl, .inr ⟨⟨⟨rfl, trivial, ⟨rfl, rfl, rfl⟩, ⟨rfl, rfl, rfl⟩, trivial⟩, trivial⟩, trivial⟩⟩, ⟨rfl, .inl ⟨rfl, fun row h => by rw [List.mem_singleton.1 h]; rfl⟩⟩, trivial⟩, rfl, rfl, ?_⟩
    rw [← hie]
    cases b with
    | false =>
     refine wR (k := ?_)
     exact ⟨.d (.bool false), sS p, fin_mv [] rfl rfl rfl ⟨⟨rfl, .inr ⟨⟨⟨rfl, trivial, ⟨rfl, rfl, rfl⟩, ⟨rfl, rfl, rfl⟩, trivial⟩, trivial⟩, trivial⟩⟩, ⟨rfl, .inl ⟨rfl, fun row h => by rw [List.mem_singleton.1 h]; rfl⟩⟩, trivial⟩ rfl, congrArg (fun b => AV.d (.bool b)) (hno rfl).symm, rfl⟩
    | true =>
     refine wR (k := ?_)
     exact ⟨_, _, _, ⟨k + 1, rfl, hlt, hal, rfl, rfl⟩, by omega, Mv.of [] rfl rfl rfl ⟨⟨rfl, .inr ⟨⟨⟨rfl, trivial, ⟨rfl, rfl, rfl⟩, ⟨rfl, rfl, rfl⟩, trivial⟩, trivial⟩, trivial⟩⟩, ⟨rfl, .inl ⟨rfl, fun row h => by rw [List.mem_singleton.1 h]; rfl⟩⟩, trivial⟩ ⟨⟨rfl, rfl, rfl⟩, ⟨rfl, rfl, rfl⟩, rfl, rfl, rfl, trivial⟩⟩
 ·have hk' : k = l.length := by omega
  subst hk'
  rw [List.take_length] at hI
  rw [hI]
  refine wR (k := ?_)
  exact ⟨_, _, FinMove.refl _ _ _, rfl, rfl⟩
set_option maxRecDepth 100000 in
set_option maxHeartbeats 1000000 in
theorem Safe_ok (p : Pol) (l : List Node) (hp : Fits p) (hB : szL l ≤ 1000000000) (hF : FitL l) (hS : ShL l) : PureC Tryz.prog 7 [polA p, .d (.sl (nodesD l))] (.d (.bool (safeB p l))) := by
 have hc1 := Size_ok (szL l) l (Nat.le_refl _) hB
 have hc2 := Stable_ok l hB hS
 have hd1 := sinner_ok p hp (szL l) l (Nat.le_refl _) hB hF
 unfold sizeV at hc1
 unfold safeB
 by_cases h1 : (szL l : Int) ≤ p.nd
 ·rw [decide_eq_true h1, Bool.true_and]
  by_cases h2 : (dpL l : Int) ≤ p.dp
  ·rw [decide_eq_true h2, Bool.true_and]
   cases hs : stableB l with
   | false =>
    rw [hs] at hc2
    clear hd1
    refine pure_okT Tryz.wf Tryz.tab_ok Tryz.func7 (by decide +kernel) rfl rfl rfl rfl ?_
    repeat' (first | refine PureC.use hc1 ?_ | refine PureC.use hc2 ?_ |          refine CallsAbs.use1 hd1 ?_ |            refine ⟨fun _ => ?_, fun h => absurd h (by decide)⟩ | refine ⟨fun h => absurd h (by decide), fun _ => ?_⟩ | (refine ⟨fun h => ?_, fun h => ?_⟩ <;> (try simp only [wS, List.length_cons, List.length_nil] at h) <;> (try exact wX h)) | refine ⟨⟨oB, oB⟩, _, by assumption, by rfl, ?_⟩ | refine .inl ⟨⟨oB, oB⟩, ?_⟩ | refine ⟨⟨oB, oB⟩, ?_⟩ | refine ⟨⟨oB, oB, oB⟩, ?_⟩ | refine ⟨.inl rfl, ?_⟩ | refine ⟨.inr (.inl oB), ?_⟩ | refine ⟨_, rfl, rfl, oL, ?_⟩ | refine ⟨_, rfl, oL, ?_⟩ | refine ⟨oL, ?_⟩ | refine ⟨show _ ≤ (9223372036854775807 : Nat) from oB, ?_⟩ | refine ⟨show _ ≠ (0 : Int) from oB, ?_⟩ | refine ⟨_, rfl, _, rfl, ?_⟩ | refine ⟨_, by assumption, Nat.le_of_ble_eq_true rfl, ?_⟩ | refine ⟨_, by assumption, _, rfl, ?_⟩ | refine ⟨_, rfl, ?_⟩ | fail)
    exact ⟨_, _, fin_out rfl, rfl⟩
   | true =>
    rw [hs] at hc2
    rw [Bool.true_and]
    refine pure_okT Tryz.wf Tryz.tab_ok Tryz.func7 (by decide +kernel) rfl rfl rfl rfl ?_
    repeat' (first | refine PureC.use hc1 ?_ | refine PureC.use hc2 ?_ |          refine CallsAbs.use1 hd1 ?_ |            refine ⟨fun _ => ?_, fun h => absurd h (by decide)⟩ | refine ⟨fun h => absurd h (by decide), fun _ => ?_⟩ | (refine ⟨fun h => ?_, fun h => ?_⟩ <;> (try simp only [wS, List.length_cons, List.length_nil] at h) <;> (try exact wX h)) | refine ⟨⟨oB, oB⟩, _, by assumption, by rfl, ?_⟩ | refine .inl ⟨⟨oB, oB⟩, ?_⟩ | refine ⟨⟨oB, oB⟩, ?_⟩ | refine ⟨⟨oB, oB, oB⟩, ?_⟩ | refine ⟨.inl rfl, ?_⟩ | refine ⟨.inr (.inl oB), ?_⟩ | refine ⟨_, rfl, rfl, oL, ?_⟩ | refine ⟨_, rfl, oL, ?_⟩ | refine ⟨oL, ?_⟩ | refine ⟨show _ ≤ (9223372036854775807 : Nat) from oB, ?_⟩ | refine ⟨show _ ≠ (0 : Int) from oB, ?_⟩ | refine ⟨_, rfl, _, rfl, ?_⟩ | refine ⟨_, by assumption, Nat.le_of_ble_eq_true rfl, ?_⟩ | refine ⟨_, by assumption, _, rfl, ?_⟩ | refine ⟨_, rfl, ?_⟩ | fail)
    refine CallsAbs.fm (args' := [.d (.sl (nodesD l)), .ref 0 0 0, .ref 1 0 0]) (σ' := sS p) (fin_mv [] rfl rfl rfl ⟨⟨rfl, .inr ⟨⟨⟨rfl, trivial, ⟨rfl, rfl, rfl⟩, ⟨rfl, rfl, rfl⟩, trivial⟩, trivial⟩, trivial⟩⟩, ⟨rfl, .inl ⟨rfl, fun row h => by rw [List.mem_singleton.1 h]; rfl⟩⟩, trivial⟩ ⟨rfl, ⟨rfl, rfl, rfl⟩, ⟨rfl, rfl, rfl⟩, trivial⟩) ?_
    refine CallsAbs.use1 hd1 ?_
    repeat' (first | refine PureC.use hc1 ?_ | refine PureC.use hc2 ?_ |          refine CallsAbs.use1 hd1 ?_ |            refine ⟨fun _ => ?_, fun h => absurd h (by decide)⟩ | refine ⟨fun h => absurd h (by decide), fun _ => ?_⟩ | (refine ⟨fun h => ?_, fun h => ?_⟩ <;> (try simp only [wS, List.length_cons, List.length_nil] at h) <;> (try exact wX h)) | refine ⟨⟨oB, oB⟩, _, by assumption, by rfl, ?_⟩ | refine .inl ⟨⟨oB, oB⟩, ?_⟩ | refine ⟨⟨oB, oB⟩, ?_⟩ | refine ⟨⟨oB, oB, oB⟩, ?_⟩ | refine ⟨.inl rfl, ?_⟩ | refine ⟨.inr (.inl oB), ?_⟩ | refine ⟨_, rfl, rfl, oL, ?_⟩ | refine ⟨_, rfl, oL, ?_⟩ | refine ⟨oL, ?_⟩ | refine ⟨show _ ≤ (9223372036854775807 : Nat) from oB, ?_⟩ | refine ⟨show _ ≠ (0 : Int) from oB, ?_⟩ | refine ⟨_, rfl, _, rfl, ?_⟩ | refine ⟨_, by assumption, Nat.le_of_ble_eq_true rfl, ?_⟩ | refine ⟨_, by assumption, _, rfl, ?_⟩ | refine ⟨_, rfl, ?_⟩ | fail)
    exact ⟨_, _, fin_out rfl, rfl⟩
  ·rw [decide_eq_false h2]
   clear hd1
   refine pure_okT Tryz.wf Tryz.tab_ok Tryz.func7 (by decide +kernel) rfl rfl rfl rfl ?_
   repeat' (first | refine PureC.use hc1 ?_ | refine PureC.use hc2 ?_ |          refine CallsAbs.use1 hd1 ?_ |            refine ⟨fun _ => ?_, fun h => absurd h (by decide)⟩ | refine ⟨fun h => absurd h (by decide), fun _ => ?_⟩ | (refine ⟨fun h => ?_, fun h => ?_⟩ <;> (try simp only [wS, List.length_cons, List.length_nil] at h) <;> (try exact wX h)) | refine ⟨⟨oB, oB⟩, _, by assumption, by rfl, ?_⟩ | refine .inl ⟨⟨oB, oB⟩, ?_⟩ | refine ⟨⟨oB, oB⟩, ?_⟩ | refine ⟨⟨oB, oB, oB⟩, ?_⟩ | refine ⟨.inl rfl, ?_⟩ | refine ⟨.inr (.inl oB), ?_⟩ | refine ⟨_, rfl, rfl, oL, ?_⟩ | refine ⟨_, rfl, oL, ?_⟩ | refine ⟨oL, ?_⟩ | refine ⟨show _ ≤ (9223372036854775807 : Nat) from oB, ?_⟩ | refine ⟨show _ ≠ (0 : Int) from oB, ?_⟩ | refine ⟨_, rfl, _, rfl, ?_⟩ | refine ⟨_, by assumption, Nat.le_of_ble_eq_true rfl, ?_⟩ | refine ⟨_, by assumption, _, rfl, ?_⟩ | refine ⟨_, rfl, ?_⟩ | fail)
   exact ⟨_, _, fin_out rfl, rfl⟩
 ·rw [decide_eq_false h1]
  clear hd1
  refine pure_okT Tryz.wf Tryz.tab_ok Tryz.func7 (by decide +kernel) rfl rfl rfl rfl ?_
  repeat' (first | refine PureC.use hc1 ?_ | refine PureC.use hc2 ?_ |          refine CallsAbs.use1 hd1 ?_ |            refine ⟨fun _ => ?_, fun h => absurd h (by decide)⟩ | refine ⟨fun h => absurd h (by decide), fun _ => ?_⟩ | (refine ⟨fun h => ?_, fun h => ?_⟩ <;> (try simp only [wS, List.length_cons, List.length_nil] at h) <;> (try exact wX h)) | refine ⟨⟨oB, oB⟩, _, by assumption, by rfl, ?_⟩ | refine .inl ⟨⟨oB, oB⟩, ?_⟩ | refine ⟨⟨oB, oB⟩, ?_⟩ | refine ⟨⟨oB, oB, oB⟩, ?_⟩ | refine ⟨.inl rfl, ?_⟩ | refine ⟨.inr (.inl oB), ?_⟩ | refine ⟨_, rfl, rfl, oL, ?_⟩ | refine ⟨_, rfl, oL, ?_⟩ | refine ⟨oL, ?_⟩ | refine ⟨show _ ≤ (9223372036854775807 : Nat) from oB, ?_⟩ | refine ⟨show _ ≠ (0 : Int) from oB, ?_⟩ | refine ⟨_, rfl, _, rfl, ?_⟩ | refine ⟨_, by assumption, Nat.le_of_ble_eq_true rfl, ?_⟩ | refine ⟨_, by assumption, _, rfl, ?_⟩ | refine ⟨_, rfl, ?_⟩ | fail)
  exact ⟨_, _, fin_out rfl, rfl⟩
end Go.Proofs.YtfchacihhljfhaaGreatDoor

namespace Go.Proofs.YtfchacihhljfhaaGreatDoor
open Go.Aw
set_option maxHeartbeats 1600000
set_option linter.unusedSimpArgs false
set_option linter.unusedVariables false
def wtS : List (List UInt8) → Nat
 | [] => 0
 | s :: r => min s.length 10000 + wtS r
def wtLS : List (List (List UInt8)) → Nat
 | [] => 0
 | s :: r => wtS s + wtLS r
def listsOf (p : Pol) : List (List (List UInt8)) := [p.el, p.at', p.sc, p.cl, p.pr]
def lightP (p : Pol) : Bool := (listsOf p).all (fun l => decide (l.length ≤ 100)) && decide (wtLS (listsOf p) < 6000)
def llD (l : List (List (List UInt8))) : List (List D) := l.map fun s => [.sl (strsD s)]
theorem wtS_snoc (l : List (List UInt8)) (s : List UInt8) : wtS (l ++ [s]) = wtS l + min s.length 10000 := by
 induction l with
 | nil => simp [wtS]
 | cons a r ih => rw [List.cons_append, wtS, wtS, ih]; omega
theorem wtLS_snoc (l : List (List (List UInt8))) (s : List (List UInt8)) : wtLS (l ++ [s]) = wtLS l + wtS s := by
 induction l with
 | nil => simp [wtLS]
 | cons a r ih => rw [List.cons_append, wtLS, wtLS, ih]; omega
theorem wtS_le : ∀ (l : List (List UInt8)), wtS l ≤ 10000 * l.length
 | [] => Nat.le_refl _
 | a :: r => by have := wtS_le r; rw [wtS, List.length_cons]; omega
theorem wtS_mem {l : List (List UInt8)} {s : List UInt8} (h : s ∈ l) : min s.length 10000 ≤ wtS l := by
 induction l with
 | nil => simp at h
 | cons a r ih =>
  rw [wtS]
  rcases List.mem_cons.1 h with rfl | h
  ·omega
  ·have := ih h; omega
theorem wtLS_mem {l : List (List (List UInt8))} {s : List (List UInt8)} (h : s ∈ l) : wtS s ≤ wtLS l := by
 induction l with
 | nil => simp at h
 | cons a r ih =>
  rw [wtLS]
  rcases List.mem_cons.1 h with rfl | h
  ·omega
  ·have := ih h; omega
/-- A light policy fits. -/
theorem light_fits {p : Pol} (h : lightP p = true) : Fits p := by
 unfold lightP at h
 rw [Bool.and_eq_true, decide_eq_true_eq, List.all_eq_true] at h
 have key : ∀ l ∈ listsOf p, FitsL l := fun l hl => by
  refine ⟨by have := h.1 l hl; simp at this; omega, fun s hs => ?_⟩
  have h1 := wtS_mem hs
  have h2 := wtLS_mem hl
  omega
 exact ⟨key _ (by simp [listsOf]), key _ (by simp [listsOf]), key _ (by simp [listsOf]), key _ (by simp [listsOf]), key _ (by simp [listsOf])⟩
theorem llD_len (l : List (List (List UInt8))) : (llD l).length = l.length := by simp [llD]
theorem llD_get (l : List (List (List UInt8))) (k : Nat) (h : k < l.length) : (llD l)[((k : Nat) : Int).toNat]? = some [.sl (strsD l[k])] := by simp [llD, h]
set_option maxRecDepth 100000 in
theorem pLight_ok (p : Pol) : PureC Tryz.prog 5 [polA p] (.d (.bool (lightP p))) := by
 refine PureC.of rfl rfl (fn_okTE Tryz.wf Tryz.tab_ok Tryz.func5 (by decide +kernel) rfl rfl ?_)
 refine E.seq (E.of Tryz.wf Tryz.tab_ok ?_)
 refine E.seq (E.of Tryz.wf Tryz.tab_ok ?_)
 refine E.seq (midE (fun s' σ => s' = [(1, .ref 0 0 0), (3, .d (.int .i64 0)), (17, .d (.sl (llD (listsOf p)))), (18, .d (.int .i64 (listsOf p).length)), (19, .d (.int .i64 0))] ∧ σ = ⟨1, [(0, boxO p)]⟩) ?_ ?_)
 ·refine textT Tryz.wf Tryz.tab_ok ?_
  iterate 5
   refine pstep _ rfl rfl (FinMove.refl _ _ _) ?_
   refine pstep _ rfl rfl ⟨_, rfl, _, rfl, FinMove.refl _ _ _⟩ ?_
  refine pstep (r := .d (.sl (llD (listsOf p)))) ⟨1, [(0, boxO p)]⟩ rfl rfl (fin_lit rfl rfl rfl ⟨⟨rfl, .inl ⟨rfl, box_pure p⟩⟩, trivial⟩) ?_
  refine pstep _ rfl rfl (FinMove.refl _ _ _) ?_
  refine pstep _ rfl rfl (FinMove.refl _ _ _) ?_
  exact ⟨_, _, ⟨rfl, rfl⟩, Mv.of [.old 0] rfl rfl rfl ⟨⟨rfl, .inl ⟨rfl, box_pure p⟩⟩, trivial⟩ ⟨⟨rfl, rfl, rfl⟩, rfl, rfl, rfl, rfl, trivial⟩⟩
 rintro _ _ ⟨rfl, rfl⟩
 have hn := llD_len (listsOf p)
 have hbnd : (listsOf p).length = 5 := rfl
 have hL : lightP p = ((listsOf p).all (fun l => decide (l.length ≤ 100)) && decide (wtLS (listsOf p) < 6000)) := rfl
 generalize listsOf p = L at *
 refine E.of Tryz.wf Tryz.tab_ok ?_
 refine loopT Tryz.wf Tryz.tab_ok (fun n s' σ => ∃ k : Nat, n = L.length - k ∧ k ≤ L.length ∧ (L.take k).all (fun l => decide (l.length ≤ 100)) = true ∧ wtLS (L.take k) ≤ 10000000 * k ∧ s' = [(1, .ref 0 0 0), (3, .d (.int .i64 (wtLS (L.take k)))), (17, .d (.sl (llD L))), (18, .d (.int .i64 L.length)), (19, .d (.int .i64 k))] ∧ σ = ⟨1, [(0, boxO p)]⟩)
  ⟨0, rfl, Nat.zero_le _, rfl, Nat.le_refl _, rfl, rfl⟩ (Mv.of [.old 0] rfl rfl rfl ⟨⟨rfl, .inl ⟨rfl, box_pure p⟩⟩, trivial⟩ ⟨⟨rfl, rfl, rfl⟩, rfl, rfl, rfl, rfl, trivial⟩) ?_
 rintro _ _ _ ⟨k, rfl, hk, hI, hW, rfl, rfl⟩
 refine ⟨fun h => ?_, fun h => ?_⟩
 ·have hlt : k < L.length := by have := of_decide_eq_true h; omega
  clear h
  have hg := llD_get L k hlt
  have hst := all_step (fun l => decide (l.length ≤ 100)) L k hlt
  rw [hI, Bool.true_and] at hst
  have hw2 := wtLS_snoc (L.take k) L[k]
  rw [← List.take_succ_eq_append_getElem hlt] at hw2
  have no : (L.take (k + 1)).all (fun l => decide (l.length ≤ 100)) = false → lightP p = false := fun h => by rw [hL, all_pre _ _ _ h]; rfl
  clear hL
  have hm := strsD_len L[k]
  have hb := wtS_le L[k]
  generalize L[k] = l at *
  generalize wtLS (L.take k) = w at *
  repeat' (first |                        refine ⟨fun _ => ?_, fun h => absurd h (by decide)⟩ | refine ⟨fun h => absurd h (by decide), fun _ => ?_⟩ | (refine ⟨fun h => ?_, fun h => ?_⟩ <;> (try simp only [wS, List.length_cons, List.length_nil] at h) <;> (try exact wX h)) | refine ⟨⟨oB, oB⟩, _, by assumption, by rfl, ?_⟩ | refine .inl ⟨⟨oB, oB⟩, ?_⟩ | refine ⟨⟨oB, oB⟩, ?_⟩ | refine ⟨⟨oB, oB, oB⟩, ?_⟩ | refine ⟨.inl rfl, ?_⟩ | refine ⟨.inr (.inl oB), ?_⟩ | refine ⟨_, rfl, rfl, oL, ?_⟩ | refine ⟨_, rfl, oL, ?_⟩ | refine ⟨oL, ?_⟩ | refine ⟨show _ ≤ (9223372036854775807 : Nat) from oB, ?_⟩ | refine ⟨show _ ≠ (0 : Int) from oB, ?_⟩ | refine ⟨_, rfl, _, rfl, ?_⟩ | refine ⟨_, by assumption, Nat.le_of_ble_eq_true rfl, ?_⟩ | refine ⟨_, by assumption, _, rfl, ?_⟩ | refine ⟨_, rfl, ?_⟩ | fail)
  ·exact ⟨_, _, fin_out rfl, congrArg (fun b => AV.d (.bool b)) (no (by rw [hst, decide_eq_false_iff_not]; omega)).symm, rfl⟩
  have hl100 : l.length ≤ 100 := by omega
  rw [decide_eq_true hl100] at hst
  clear no h
  refine loopT Tryz.wf Tryz.tab_ok (fun n s' σ => ∃ j : Nat, n = l.length - j ∧ j ≤ l.length ∧ wtS (l.take j) ≤ 10000 * j ∧ s' = [(1, .ref 0 0 0), (3, .d (.int .i64 ((w + wtS (l.take j) : Nat) : Int))), (5, .d (.sl (strsD l))), (6, .d (.int .i64 j)), (17, .d (.sl (llD L))), (18, .d (.int .i64 L.length)), (19, .d (.int .i64 k))] ∧ σ = ⟨1, [(0, boxO p)]⟩)
   ⟨0, rfl, Nat.zero_le _, Nat.le_refl _, rfl, rfl⟩ (Mv.of [.old 0] rfl rfl rfl ⟨⟨rfl, .inl ⟨rfl, box_pure p⟩⟩, trivial⟩ ⟨⟨rfl, rfl, rfl⟩, rfl, rfl, rfl, rfl, rfl, rfl, trivial⟩) ?_
  rintro _ _ _ ⟨j, rfl, hj, hW2, rfl, rfl⟩
  refine ⟨fun h => ?_, fun h => ?_⟩
  ·have hlt2 : j < l.length := by have := of_decide_eq_true h; omega
   clear h
   have hgj := strsD_get l j hlt2
   have hw3 := wtS_snoc (l.take j) l[j]
   rw [← List.take_succ_eq_append_getElem hlt2] at hw3
   generalize l[j] = s at *
   generalize wtS (l.take j) = v at *
   have e0 : (if (10000 : Int) < (s.length : Int) then (10000 : Int) else (s.length : Int)) = ((min s.length 10000 : Nat) : Int) := by split <;> omega
   have e1 : ((w + v : Nat) : Int) + ((min s.length 10000 : Nat) : Int) = ((w + wtS (l.take (j + 1)) : Nat) : Int) := by rw [hw3]; omega
   have e2 : ((w + v : Nat) : Int) + (if (10000 : Int) < (s.length : Int) then (10000 : Int) else (s.length : Int)) = ((w + wtS (l.take (j + 1)) : Nat) : Int) := by rw [e0, e1]
   clear e0 e1
   refine wR (k := ?_)
   exact ⟨_, _, _, ⟨j + 1, rfl, hlt2, by omega, rfl, rfl⟩, by omega, Mv.of [.old 0] rfl rfl rfl ⟨⟨rfl, .inl ⟨rfl, box_pure p⟩⟩, trivial⟩ ⟨⟨rfl, rfl, rfl⟩, congrArg (fun n : Int => D.int .i64 n) e2.symm, rfl, rfl, rfl, rfl, rfl, trivial⟩⟩
  ·have hj' : j = l.length := by have := of_decide_eq_false h; omega
   subst hj'
   rw [List.take_length] at hW2 ⊢
   clear h
   refine wR (k := ?_)
   refine ⟨_, _, _, ⟨k + 1, rfl, hlt, hst, by omega, rfl, rfl⟩, by omega, Mv.of [.old 0] rfl rfl rfl ⟨⟨rfl, .inl ⟨rfl, box_pure p⟩⟩, trivial⟩ ⟨⟨rfl, rfl, rfl⟩, congrArg (fun n : Nat => D.int .i64 n) hw2, rfl, rfl, rfl, trivial⟩⟩
 ·have hk' : k = L.length := by have := of_decide_eq_false h; omega
  subst hk'
  rw [List.take_length] at hI ⊢
  rw [hL, hI, Bool.true_and]
  refine E.of Tryz.wf Tryz.tab_ok ?_
  exact ⟨_, _, fin_out rfl, congrArg (fun b => AV.d (.bool b)) (by rw [decide_eq_decide]; omega), rfl⟩
end Go.Proofs.YtfchacihhljfhaaGreatDoor
namespace Go.Proofs.YtfchacihhljfhaaGreatDoor
open Go.Aw
set_option maxHeartbeats 1600000
set_option linter.unusedSimpArgs false
set_option linter.unusedVariables false
def wtA (l : List (List UInt8 × List UInt8)) : Nat := (l.map fun a => 1 + a.1.length + a.2.length).sum
mutual
def wtN : Node → Nat
 | .mk nm a t k => 1 + nm.length + t.length + wtA a + wtL k
def wtL : List Node → Nat
 | [] => 0
 | n :: r => wtN n + wtL r
end
theorem wtN_eq (n : Node) : wtN n = 1 + n.name.length + n.text.length + wtA n.attrs + wtL n.kids := by cases n; unfold wtN; rfl
theorem wtL_cons (n : Node) (r : List Node) : wtL (n :: r) = wtN n + wtL r := by rw [wtL]
theorem wtL_append : ∀ a b : List Node, wtL (a ++ b) = wtL a + wtL b
 | [], b => by rw [wtL, List.nil_append, Nat.zero_add]
 | n :: r, b => by rw [List.cons_append, wtL_cons, wtL_cons, wtL_append r b, Nat.add_assoc]
theorem wtL_take (l : List Node) (k : Nat) (h : k < l.length) : wtL (l.take (k + 1)) = wtL (l.take k) + wtN l[k] := by
 rw [List.take_succ_eq_append_getElem h, wtL_append, wtL_cons]; simp [wtL]
theorem wtA_take (l : List (List UInt8 × List UInt8)) (k : Nat) (h : k < l.length) : wtA (l.take (k + 1)) = wtA (l.take k) + (1 + l[k].1.length + l[k].2.length) := by
 unfold wtA
 rw [List.take_succ_eq_append_getElem h, List.map_append, List.sum_append]; rfl
theorem min_is (n : Nat) : ∃ m : Nat, (if (20000 : Int) < ((n : Nat) : Int) then (20000 : Int) else ((n : Nat) : Int)) = ((m : Nat) : Int) ∧ m ≤ 20000 ∧ (m < 20000 → m = n) := by
 by_cases h : (20000 : Int) < ((n : Nat) : Int)
 ·exact ⟨20000, by rw [if_pos h]; rfl, Nat.le_refl _, fun h => absurd h (by omega)⟩
 ·exact ⟨n, by rw [if_neg h], by omega, fun _ => rfl⟩
set_option maxHeartbeats 1000000 in
set_option maxRecDepth 100000 in
theorem weight_ok (N : Nat) : ∀ (l : List Node) (d : Nat), szL l ≤ N → d ≤ 81 → CallsAbs Tryz.prog 9 [.d (.sl (nodesD l)), .d (.int .i64 d)] ⟨0, []⟩ fun r σ' => (∃ x : Nat, r = .d (.int .i64 x) ∧ x ≤ 20000 + 90000 * (81 - d) ∧ (x < 20000 → x = wtL l)) ∧ σ' = ⟨0, []⟩ := by
 induction N using Nat.strongRecOn with
 | ind N ih =>
 intro l d hN hd
 refine fn_okTE Tryz.wf Tryz.tab_ok Tryz.func9 (by decide +kernel) rfl rfl ?_
 have hn := nodesD_len l
 refine E.seq (E.of Tryz.wf Tryz.tab_ok ?_)
 refine E.seq (E.of Tryz.wf Tryz.tab_ok ?_)
 refine E.seq (E.of Tryz.wf Tryz.tab_ok ?_)
 refine loopE (fun m s' σ => ∃ (k w : Nat), m = l.length - k ∧ k ≤ l.length ∧ k ≤ w ∧ w ≤ 20000 + 90000 * (81 - d) ∧ (w < 20000 → w = wtL (l.take k)) ∧ s' = [(0, .d (.sl (nodesD l))), (1, .d (.int .i64 d)), (5, .d (.int .i64 w)), (6, .d (.int .i64 k))] ∧ σ = ⟨0, []⟩)
  ⟨0, 0, rfl, Nat.zero_le _, Nat.zero_le _, Nat.zero_le _, fun _ => by simp [wtL], rfl, rfl⟩ (Mv.of [] rfl rfl rfl trivial ⟨rfl, rfl, rfl, rfl, trivial⟩) ?_
 rintro _ _ _ ⟨k, w, rfl, hk, hkw, hwB, hw, rfl, rfl⟩
 have done : ∀ (x : Nat) (σ : Store), x ≤ 20000 + 90000 * (81 - d) → (x < 20000 → x = wtL l) → ∃ r2 σ2, FinMove ⟨0, []⟩ (AV.d (.int .i64 (x : Int))) σ r2 σ2 ∧ ((∃ x : Nat, r2 = .d (.int .i64 x) ∧ x ≤ 20000 + 90000 * (81 - d) ∧ (x < 20000 → x = wtL l)) ∧ σ2 = ⟨0, []⟩) := fun x σ h1 h2 => ⟨_, _, fin_out rfl, ⟨x, rfl, h1, h2⟩, rfl⟩
 refine E.seq (E.of Tryz.wf Tryz.tab_ok ?_)
 by_cases hlt : k < l.length
 ·by_cases hw2 : w < 20000
  ·have hwk := hw hw2
   repeat (first | refine ⟨fun _ => ?_, fun h => absurd (of_decide_eq_false h) (by omega)⟩ | refine ⟨fun h => absurd (of_decide_eq_true h) (by omega), fun _ => ?_⟩ | refine ⟨fun _ => ?_, fun h => absurd (of_decide_eq_true h) (by omega)⟩ | refine ⟨fun h => absurd (of_decide_eq_false h) (by omega), fun _ => ?_⟩ | refine .inl ⟨⟨by omega, by omega⟩, ?_⟩ | refine ⟨⟨by omega, by omega⟩, ?_⟩)
   have hget := nodesD_get l k hlt
   have hks := kids_lt (List.getElem_mem hlt)
   have htk := wtL_take l k hlt
   have hne := wtN_eq l[k]
   have hal := attrsD_len l[k].attrs
   refine E.seq (blockE ?_)
   by_cases hdd : d = 81
   ·subst hdd
    refine E.seq (E.of Tryz.wf Tryz.tab_ok ?_)
    repeat (first | refine ⟨fun _ => ?_, fun h => absurd (of_decide_eq_false h) (by omega)⟩ | refine ⟨fun h => absurd (of_decide_eq_true h) (by omega), fun _ => ?_⟩ | refine ⟨fun _ => ?_, fun h => absurd (of_decide_eq_true h) (by omega)⟩ | refine ⟨fun h => absurd (of_decide_eq_false h) (by omega), fun _ => ?_⟩ | refine .inl ⟨⟨by omega, by omega⟩, ?_⟩ | refine ⟨⟨by omega, by omega⟩, ?_⟩)
    exact done 20000 _ (by omega) (fun h => absurd h (by omega))
   ·refine E.seq (E.of Tryz.wf Tryz.tab_ok ?_)
    repeat (first | refine ⟨fun _ => ?_, fun h => absurd (of_decide_eq_false h) (by omega)⟩ | refine ⟨fun h => absurd (of_decide_eq_true h) (by omega), fun _ => ?_⟩ | refine ⟨fun _ => ?_, fun h => absurd (of_decide_eq_true h) (by omega)⟩ | refine ⟨fun h => absurd (of_decide_eq_false h) (by omega), fun _ => ?_⟩ | refine .inl ⟨⟨by omega, by omega⟩, ?_⟩ | refine ⟨⟨by omega, by omega⟩, ?_⟩)
    obtain ⟨m1, e1, h1, g1⟩ := min_is l[k].name.length
    obtain ⟨m2, e2, h2, g2⟩ := min_is l[k].text.length
    refine E.seq (drawnT Tryz.wf Tryz.tab_ok Tryz.mixed (by decide +kernel) ?_)
    repeat (first | refine qstep rfl rfl (FinMove.refl _ _ _) ?_ | refine qstep rfl rfl ⟨_, rfl, FinMove.refl _ _ _⟩ ?_ | refine qstep rfl rfl ⟨_, rfl, _, rfl, FinMove.refl _ _ _⟩ ?_ | refine qstep rfl rfl ⟨by simp only [List.length_append, List.length_cons, List.length_nil]; omega, FinMove.refl _ _ _⟩ ?_)
    refine qstep rfl rfl (.inl ⟨⟨by omega, by omega⟩, FinMove.refl _ _ _⟩) ?_
    repeat (first | refine qstep rfl rfl (FinMove.refl _ _ _) ?_ | refine qstep rfl rfl ⟨_, rfl, FinMove.refl _ _ _⟩ ?_ | refine qstep rfl rfl ⟨_, rfl, _, rfl, FinMove.refl _ _ _⟩ ?_ | refine qstep rfl rfl ⟨by simp only [List.length_append, List.length_cons, List.length_nil]; omega, FinMove.refl _ _ _⟩ ?_)
    refine qstep rfl rfl ⟨⟨by omega, by omega⟩, _, hget, rfl, FinMove.refl _ _ _⟩ ?_
    refine qstep rfl rfl (FinMove.refl _ _ _) ?_
    refine qstep rfl rfl ⟨_, rfl, FinMove.refl _ _ _⟩ ?_
    refine qstep rfl rfl (FinMove.refl _ _ _) ?_
    refine qstep (r := .d (.int .i64 (m1 : Int))) rfl rfl (fin_eq (congrArg (fun x => AV.d (.int .i64 x)) e1)) ?_
    refine qstep rfl rfl (.inl ⟨⟨by omega, by omega⟩, FinMove.refl _ _ _⟩) ?_
    refine qstep rfl rfl (FinMove.refl _ _ _) ?_
    refine qstep rfl rfl (FinMove.refl _ _ _) ?_
    refine qstep rfl rfl ⟨⟨by omega, by omega⟩, _, hget, rfl, FinMove.refl _ _ _⟩ ?_
    refine qstep rfl rfl (FinMove.refl _ _ _) ?_
    refine qstep rfl rfl ⟨_, rfl, FinMove.refl _ _ _⟩ ?_
    refine qstep rfl rfl (FinMove.refl _ _ _) ?_
    refine qstep (r := .d (.int .i64 (m2 : Int))) rfl rfl (fin_eq (congrArg (fun x => AV.d (.int .i64 x)) e2)) ?_
    refine qstep rfl rfl (.inl ⟨⟨by omega, by omega⟩, FinMove.refl _ _ _⟩) ?_
    refine qstep rfl rfl (FinMove.refl _ _ _) ?_
    refine midE (fun s' σ => ∃ w3 : Nat, k + 1 ≤ w3 ∧ w3 ≤ 90000 ∧ (w3 < 20000 → w3 = wtL (l.take k) + (1 + l[k].name.length + l[k].text.length + wtA l[k].attrs)) ∧ s' = [(0, .d (.sl (nodesD l))), (1, .d (.int .i64 d)), (5, .d (.int .i64 w3)), (6, .d (.int .i64 k))] ∧ σ = ⟨0, []⟩) ?_ ?_
    ·refine E.seq (E.of Tryz.wf Tryz.tab_ok ?_)
     refine blockE ?_
     refine loopE (fun m s' σ => ∃ (j w3 : Nat), m = l[k].attrs.length - j ∧ j ≤ l[k].attrs.length ∧ k + 1 ≤ w3 ∧ j ≤ w3 ∧ w3 ≤ 90000 ∧ (w3 < 20000 → w3 = wtL (l.take k) + (1 + l[k].name.length + l[k].text.length + wtA (l[k].attrs.take j))) ∧ s' = [(0, .d (.sl (nodesD l))), (1, .d (.int .i64 d)), (5, .d (.int .i64 w3)), (6, .d (.int .i64 k)), (7, .d (.int .i64 j))] ∧ σ = ⟨0, []⟩)
      ⟨0, w + 1 + m1 + m2, rfl, Nat.zero_le _, by omega, Nat.zero_le _, by omega, fun h => ?_, rfl, rfl⟩ ?_ ?_
     ·have a1 := g1 (by omega)
      have a2 := g2 (by omega)
      rw [List.take_zero]
      show _ = _ + (_ + 0)
      omega
     ·exact Mv.of [] rfl rfl rfl trivial ⟨rfl, rfl, rfl, rfl, rfl, trivial⟩
     rintro _ _ _ ⟨j, w3, rfl, hj, hkw3, hjw, hw3B, hw3, rfl, rfl⟩
     refine E.seq (E.of Tryz.wf Tryz.tab_ok ?_)
     by_cases hltj : j < l[k].attrs.length
     ·refine ⟨⟨by omega, by omega⟩, _, hget, rfl, _, rfl, ?_⟩
      by_cases hw32 : w3 < 20000
      ·have hwj := hw3 hw32
       repeat (first | refine ⟨fun _ => ?_, fun h => absurd (of_decide_eq_false h) (by omega)⟩ | refine ⟨fun h => absurd (of_decide_eq_true h) (by omega), fun _ => ?_⟩ | refine ⟨fun _ => ?_, fun h => absurd (of_decide_eq_true h) (by omega)⟩ | refine ⟨fun h => absurd (of_decide_eq_false h) (by omega), fun _ => ?_⟩ | refine .inl ⟨⟨by omega, by omega⟩, ?_⟩ | refine ⟨⟨by omega, by omega⟩, ?_⟩)
       have hgetj := attrsD_get l[k].attrs j hltj
       have hjk := wtA_take l[k].attrs j hltj
       obtain ⟨m3, e3, h3, g3⟩ := min_is l[k].attrs[j].1.length
       obtain ⟨m4, e4, h4, g4⟩ := min_is l[k].attrs[j].2.length
       refine E.seq (blockE (drawnT Tryz.wf Tryz.tab_ok Tryz.mixed (by decide +kernel) ?_))
       refine qstep rfl rfl (FinMove.refl _ _ _) ?_
       refine qstep rfl rfl (.inl ⟨⟨by omega, by omega⟩, FinMove.refl _ _ _⟩) ?_
       refine qstep rfl rfl (FinMove.refl _ _ _) ?_
       refine qstep rfl rfl (FinMove.refl _ _ _) ?_
       refine qstep rfl rfl ⟨⟨by omega, by omega⟩, _, hget, rfl, FinMove.refl _ _ _⟩ ?_
       refine qstep rfl rfl (FinMove.refl _ _ _) ?_
       refine qstep rfl rfl ⟨_, rfl, FinMove.refl _ _ _⟩ ?_
       refine qstep rfl rfl (FinMove.refl _ _ _) ?_
       refine qstep rfl rfl ⟨⟨by omega, by omega⟩, _, hgetj, rfl, FinMove.refl _ _ _⟩ ?_
       refine qstep rfl rfl (FinMove.refl _ _ _) ?_
       refine qstep rfl rfl ⟨_, rfl, FinMove.refl _ _ _⟩ ?_
       refine qstep rfl rfl (FinMove.refl _ _ _) ?_
       refine qstep (r := .d (.int .i64 (m3 : Int))) rfl rfl (fin_eq (congrArg (fun x => AV.d (.int .i64 x)) e3)) ?_
       refine qstep rfl rfl (.inl ⟨⟨by omega, by omega⟩, FinMove.refl _ _ _⟩) ?_
       refine qstep rfl rfl (FinMove.refl _ _ _) ?_
       refine qstep rfl rfl (FinMove.refl _ _ _) ?_
       refine qstep rfl rfl ⟨⟨by omega, by omega⟩, _, hget, rfl, FinMove.refl _ _ _⟩ ?_
       refine qstep rfl rfl (FinMove.refl _ _ _) ?_
       refine qstep rfl rfl ⟨_, rfl, FinMove.refl _ _ _⟩ ?_
       refine qstep rfl rfl (FinMove.refl _ _ _) ?_
       refine qstep rfl rfl ⟨⟨by omega, by omega⟩, _, hgetj, rfl, FinMove.refl _ _ _⟩ ?_
       refine qstep rfl rfl (FinMove.refl _ _ _) ?_
       refine qstep rfl rfl ⟨_, rfl, FinMove.refl _ _ _⟩ ?_
       refine qstep rfl rfl (FinMove.refl _ _ _) ?_
       refine qstep (r := .d (.int .i64 (m4 : Int))) rfl rfl (fin_eq (congrArg (fun x => AV.d (.int .i64 x)) e4)) ?_
       refine qstep rfl rfl (.inl ⟨⟨by omega, by omega⟩, FinMove.refl _ _ _⟩) ?_
       refine qstep rfl rfl (FinMove.refl _ _ _) ?_
       refine E.of Tryz.wf Tryz.tab_ok ?_
       repeat (first | refine ⟨fun _ => ?_, fun h => absurd (of_decide_eq_false h) (by omega)⟩ | refine ⟨fun h => absurd (of_decide_eq_true h) (by omega), fun _ => ?_⟩ | refine ⟨fun _ => ?_, fun h => absurd (of_decide_eq_true h) (by omega)⟩ | refine ⟨fun h => absurd (of_decide_eq_false h) (by omega), fun _ => ?_⟩ | refine .inl ⟨⟨by omega, by omega⟩, ?_⟩ | refine ⟨⟨by omega, by omega⟩, ?_⟩)
       refine ⟨_, _, _, ⟨j + 1, w3 + 1 + m3 + m4, rfl, hltj, by omega, by omega, by omega, fun h => ?_, rfl, rfl⟩, by omega, Mv.of [] rfl rfl rfl trivial ⟨rfl, rfl, rfl, rfl, rfl, trivial⟩⟩
       have a3 := g3 (by omega)
       have a4 := g4 (by omega)
       rw [hjk]
       omega
      ·repeat (first | refine ⟨fun _ => ?_, fun h => absurd (of_decide_eq_false h) (by omega)⟩ | refine ⟨fun h => absurd (of_decide_eq_true h) (by omega), fun _ => ?_⟩ | refine ⟨fun _ => ?_, fun h => absurd (of_decide_eq_true h) (by omega)⟩ | refine ⟨fun h => absurd (of_decide_eq_false h) (by omega), fun _ => ?_⟩ | refine .inl ⟨⟨by omega, by omega⟩, ?_⟩ | refine ⟨⟨by omega, by omega⟩, ?_⟩)
       exact ⟨_, _, ⟨w3, hkw3, hw3B, fun h => absurd h hw32, rfl, rfl⟩, Mv.of [] rfl rfl rfl trivial ⟨rfl, rfl, rfl, rfl, trivial⟩⟩
     ·refine ⟨⟨by omega, by omega⟩, _, hget, rfl, _, rfl, ?_⟩
      repeat (first | refine ⟨fun _ => ?_, fun h => absurd (of_decide_eq_false h) (by omega)⟩ | refine ⟨fun h => absurd (of_decide_eq_true h) (by omega), fun _ => ?_⟩ | refine ⟨fun _ => ?_, fun h => absurd (of_decide_eq_true h) (by omega)⟩ | refine ⟨fun h => absurd (of_decide_eq_false h) (by omega), fun _ => ?_⟩ | refine .inl ⟨⟨by omega, by omega⟩, ?_⟩ | refine ⟨⟨by omega, by omega⟩, ?_⟩)
      repeat (first | refine ⟨fun _ => ?_, fun h => absurd h (by decide)⟩ | refine ⟨fun h => absurd h (by decide), fun _ => ?_⟩)
      obtain rfl : j = l[k].attrs.length := by omega
      rw [List.take_length] at hw3
      exact ⟨_, _, ⟨w3, hkw3, hw3B, hw3, rfl, rfl⟩, Mv.of [] rfl rfl rfl trivial ⟨rfl, rfl, rfl, rfl, trivial⟩⟩
    rintro _ _ ⟨w3, hkw3, hw3B, hw3, rfl, rfl⟩
    refine E.of Tryz.wf Tryz.tab_ok ?_
    refine ⟨⟨by omega, by omega⟩, _, hget, rfl, _, rfl, ?_⟩
    repeat (first | refine ⟨fun _ => ?_, fun h => absurd (of_decide_eq_false h) (by omega)⟩ | refine ⟨fun h => absurd (of_decide_eq_true h) (by omega), fun _ => ?_⟩ | refine ⟨fun _ => ?_, fun h => absurd (of_decide_eq_true h) (by omega)⟩ | refine ⟨fun h => absurd (of_decide_eq_false h) (by omega), fun _ => ?_⟩ | refine .inl ⟨⟨by omega, by omega⟩, ?_⟩ | refine ⟨⟨by omega, by omega⟩, ?_⟩)
    refine (ih (szL l[k].kids) (by omega) l[k].kids (d + 1) (Nat.le_refl _) (by omega)).mono ?_
    rintro _ _ ⟨⟨x, rfl, hx1, hx2⟩, rfl⟩
    refine .inl ⟨⟨by omega, by omega⟩, ?_⟩
    refine E.of Tryz.wf Tryz.tab_ok ?_
    repeat (first | refine ⟨fun _ => ?_, fun h => absurd (of_decide_eq_false h) (by omega)⟩ | refine ⟨fun h => absurd (of_decide_eq_true h) (by omega), fun _ => ?_⟩ | refine ⟨fun _ => ?_, fun h => absurd (of_decide_eq_true h) (by omega)⟩ | refine ⟨fun h => absurd (of_decide_eq_false h) (by omega), fun _ => ?_⟩ | refine .inl ⟨⟨by omega, by omega⟩, ?_⟩ | refine ⟨⟨by omega, by omega⟩, ?_⟩)
    refine ⟨_, _, _, ⟨k + 1, w3 + x, rfl, hlt, by omega, by omega, fun h => ?_, rfl, rfl⟩, by omega, Mv.of [] rfl rfl rfl trivial ⟨rfl, rfl, rfl, rfl, trivial⟩⟩
    have a5 := hw3 (by omega)
    have a6 := hx2 (by omega)
    rw [htk, hne]
    omega
  ·repeat (first | refine ⟨fun _ => ?_, fun h => absurd (of_decide_eq_false h) (by omega)⟩ | refine ⟨fun h => absurd (of_decide_eq_true h) (by omega), fun _ => ?_⟩ | refine ⟨fun _ => ?_, fun h => absurd (of_decide_eq_true h) (by omega)⟩ | refine ⟨fun h => absurd (of_decide_eq_false h) (by omega), fun _ => ?_⟩ | refine .inl ⟨⟨by omega, by omega⟩, ?_⟩ | refine ⟨⟨by omega, by omega⟩, ?_⟩)
   refine E.of Tryz.wf Tryz.tab_ok ?_
   exact done w _ hwB (fun h => absurd h hw2)
 ·repeat (first | refine ⟨fun _ => ?_, fun h => absurd (of_decide_eq_false h) (by omega)⟩ | refine ⟨fun h => absurd (of_decide_eq_true h) (by omega), fun _ => ?_⟩ | refine ⟨fun _ => ?_, fun h => absurd (of_decide_eq_true h) (by omega)⟩ | refine ⟨fun h => absurd (of_decide_eq_false h) (by omega), fun _ => ?_⟩ | refine .inl ⟨⟨by omega, by omega⟩, ?_⟩ | refine ⟨⟨by omega, by omega⟩, ?_⟩)
  repeat (first | refine ⟨fun _ => ?_, fun h => absurd h (by decide)⟩ | refine ⟨fun h => absurd h (by decide), fun _ => ?_⟩)
  refine E.of Tryz.wf Tryz.tab_ok ?_
  obtain rfl : k = l.length := by omega
  rw [List.take_length] at hw
  exact done w _ hwB hw
set_option maxRecDepth 100000 in
/-- Of a tree that passes, all sizes are known to be small. -/
theorem Light_ok (l : List Node) : CallsAbs Tryz.prog 6 [.d (.sl (nodesD l)), .d (.int .i64 0)] ⟨0, []⟩ fun r σ' => (∃ b : Bool, r = .d (.bool b) ∧ (b = true → wtL l < 20000)) ∧ σ' = ⟨0, []⟩ := by
 refine fn_okTE Tryz.wf Tryz.tab_ok Tryz.func6 (by decide +kernel) rfl rfl ?_
 refine E.of Tryz.wf Tryz.tab_ok ?_
 refine (weight_ok (szL l) l 0 (Nat.le_refl _) (by omega)).mono ?_
 rintro _ _ ⟨⟨x, rfl, hx1, hx2⟩, rfl⟩
 refine ⟨_, _, fin_out rfl, ⟨decide (((x : Nat) : Int) < 20000), rfl, fun h => ?_⟩, rfl⟩
 have := of_decide_eq_true h
 have := hx2 (by omega)
 omega
mutual
theorem sz_wtN : ∀ n : Node, szN n ≤ wtN n
 | .mk nm a t k => by
  have := sz_wtL k
  unfold szN wtN
  omega
theorem sz_wtL : ∀ l : List Node, szL l ≤ wtL l
 | [] => by simp [szL]
 | n :: r => by
  have h1 := sz_wtN n
  have h2 := sz_wtL r
  unfold szL wtL
  omega
end
theorem wtA_mem {l : List (List UInt8 × List UInt8)} {a : List UInt8 × List UInt8} (h : a ∈ l) : 1 + a.1.length + a.2.length ≤ wtA l := by
 induction l with
 | nil => cases h
 | cons b r ih =>
  have e : wtA (b :: r) = (1 + b.1.length + b.2.length) + wtA r := rfl
  rcases List.mem_cons.1 h with rfl | h
  ·omega
  ·have := ih h; omega
theorem wtA_len (l : List (List UInt8 × List UInt8)) : l.length ≤ wtA l := by
 induction l with
 | nil => exact Nat.le_refl _
 | cons b r ih =>
  have e : wtA (b :: r) = (1 + b.1.length + b.2.length) + wtA r := rfl
  simp only [List.length_cons]; omega
theorem Short_wt {l : List (List UInt8 × List UInt8)} (h : wtA l ≤ 1000000000) : Short l :=
 ⟨by have := wtA_len l; omega, fun a ha => by have := wtA_mem ha; omega⟩
mutual
theorem Sh_wtN : ∀ n : Node, wtN n ≤ 1000000000 → ShN n
 | .mk nm a t k => fun h => by
  unfold wtN at h
  unfold ShN
  exact ⟨by omega, Short_wt (by omega), by omega, Sh_wtL k (by omega)⟩
theorem Sh_wtL : ∀ l : List Node, wtL l ≤ 1000000000 → ShL l
 | [] => fun _ => by simp [ShL]
 | n :: r => fun h => by
  unfold wtL at h
  unfold ShL
  exact ⟨Sh_wtN n (by omega), Sh_wtL r (by omega)⟩
end
end Go.Proofs.YtfchacihhljfhaaGreatDoor

namespace Go.Proofs.YtfchacihhljfhaaGreatDoor
open Go.Aw
set_option maxHeartbeats 1600000
set_option linter.unusedSimpArgs false
set_option linter.unusedVariables false
def awP : Pol := ⟨1, [[97]], [[97, 46, 104, 114, 101, 102]], [[104, 116, 116, 112, 115]], [], [], 9, 99, 999⟩
def awH : At := (hrefN, [104, 116, 116, 112, 115, 58, 47, 47, 120])
def awR : At := (relN, forcedB)
def awT : List Node := [.mk [97] [awH, awR] [] []]
def awU : List Node := [.mk [97] [awH] [] []]
theorem aw_safe : safeB awP awT = true ∧ safeB awP awU = false := by decide +kernel
theorem aw_fits : Fits awP := ⟨⟨by decide, by decide⟩, ⟨by decide, by decide⟩, ⟨by decide, by decide⟩, ⟨by decide, by decide⟩, ⟨by decide, by decide⟩⟩
theorem aw_fit : FitL awT ∧ FitL awU ∧ ShL awT ∧ ShL awU := by
 refine ⟨?_, ?_, ?_, ?_⟩
 ·unfold awT; rw [FitL, FitN_eq]; exact ⟨⟨⟨by decide, by decide, by decide⟩, by unfold Node.kids; rw [FitL]; trivial⟩, by rw [FitL]; trivial⟩
 ·unfold awU; rw [FitL, FitN_eq]; exact ⟨⟨⟨by decide, by decide, by decide⟩, by unfold Node.kids; rw [FitL]; trivial⟩, by rw [FitL]; trivial⟩
 ·exact Sh_wtL _ (by decide +kernel)
 ·exact Sh_wtL _ (by decide +kernel)
set_option maxRecDepth 100000 in
set_option maxHeartbeats 1000000 in
theorem awake_ok : PureC Tryz.prog 4 [] (.d (.bool true)) := by
 have h1 := Safe_ok awP awT aw_fits (by decide +kernel) aw_fit.1 aw_fit.2.2.1
 have h2 := Safe_ok awP awU aw_fits (by decide +kernel) aw_fit.2.1 aw_fit.2.2.2
 rw [aw_safe.1] at h1
 rw [aw_safe.2] at h2
 refine pure_okT Tryz.wf Tryz.tab_ok Tryz.func4 (by decide +kernel) rfl rfl rfl rfl ?_
 refine wR (k := ?_)
 refine CallsAbs.use1 (PureC.borrow 3 h1 rfl (by rfl)) ?_
 refine wR (k := ?_)
 refine CallsAbs.use1 (PureC.borrow 3 h2 rfl (by rfl)) ?_
 refine wR (k := ?_)
 exact ⟨_, _, fin_out rfl, rfl⟩
theorem dok_str {n : Nat} {row : List D} (h : DOk Tryz.prog n 9 row) : ∃ s, row = [.str s] ∧ s.length ≤ 140737488351232 := by
 cases n with
 | zero => exact h.elim
 | succ n => simp only [DOk, Tryz.underlying9] at h; exact h
theorem dok_int {n : Nat} {row : List D} (h : DOk Tryz.prog n 3 row) : ∃ x, row = [.int .i64 x] ∧ -9223372036854775808 ≤ x ∧ x ≤ 9223372036854775807 := by
 cases n with
 | zero => exact h.elim
 | succ n => simp only [DOk, Tryz.underlying3] at h; exact h
theorem bytes_str : Tryz.prog.bytesOf 9 = 16 := by kernel_rfl
theorem dok_strs {n : Nat} {row : List D} (h : DOk Tryz.prog n 22 row) : ∃ l : List (List UInt8), row = [.sl (strsD l)] ∧ l.length * 16 ≤ 140737488351232 ∧ ∀ s ∈ l, s.length ≤ 140737488351232 := by
 cases n with
 | zero => exact h.elim
 | succ n =>
  simp only [DOk, Tryz.underlying22] at h
  obtain ⟨rows, rfl, h1, h2⟩ := h
  rw [bytes_str] at h1
  have : ∃ l : List (List UInt8), rows = strsD l ∧ ∀ s ∈ l, s.length ≤ 140737488351232 := by
   clear h1
   induction rows with
   | nil => exact ⟨[], rfl, by simp⟩
   | cons r rs ih =>
    obtain ⟨s, rfl, hs⟩ := dok_str (h2 r (by simp))
    obtain ⟨l, rfl, hl⟩ := ih (fun q hq => h2 q (by simp [hq]))
    exact ⟨s :: l, rfl, by simpa using ⟨hs, hl⟩⟩
  obtain ⟨l, rfl, hl⟩ := this
  exact ⟨l, rfl, by simpa [strsD] using h1, hl⟩
theorem agg_nodes : isAggB Tryz.prog 25 = false := by kernel_rfl
theorem arg_nodes (r : List (List D)) : argAV Tryz.prog 25 [.sl r] = .d (.sl r) := by rw [argAV, agg_nodes]; rfl
theorem cells_str : Tryz.prog.cellsOf 9 = 1 := by kernel_rfl
theorem cells_attr : Tryz.prog.cellsOf 31 = 2 := by kernel_rfl
theorem cells_attrs : Tryz.prog.cellsOf 32 = 1 := by kernel_rfl
theorem cells_node : Tryz.prog.cellsOf 34 = 4 := by kernel_rfl
theorem cells_nodes : Tryz.prog.cellsOf 25 = 1 := by kernel_rfl
theorem len2 {α : Type} {l : List α} (h : l.length = 2) : ∃ a b, l = [a, b] := by
 cases l with
 | nil => cases h
 | cons a l => cases l with
  | nil => cases h
  | cons b l => cases l with
   | nil => exact ⟨a, b, rfl⟩
   | cons c l => simp at h
theorem len4 {α : Type} {l : List α} (h : l.length = 4) : ∃ a b c d, l = [a, b, c, d] := by
 cases l with
 | nil => cases h
 | cons a l => cases l with
  | nil => cases h
  | cons b l => cases l with
   | nil => cases h
   | cons c l => cases l with
    | nil => cases h
    | cons d l => cases l with
     | nil => exact ⟨a, b, c, d, rfl⟩
     | cons c l => simp at h
theorem dok_attr {n : Nat} {row : List D} (h : DOk Tryz.prog n 31 row) : ∃ a : List UInt8 × List UInt8, row = attrD a := by
 cases n with
 | zero => exact h.elim
 | succ n =>
  simp only [DOk, Tryz.underlying31] at h
  obtain ⟨hl, hf⟩ := h
  rw [cells_attr] at hl
  obtain ⟨x, y, rfl⟩ := len2 hl
  have f1 := hf _ (List.mem_cons_self ..)
  have f2 := hf _ (List.mem_cons_of_mem _ (List.mem_cons_self ..))
  simp only [cells_str] at f1 f2
  obtain ⟨a, ha, _⟩ := dok_str f1
  obtain ⟨b, hb, _⟩ := dok_str f2
  simp at ha hb
  subst ha; subst hb
  exact ⟨(a, b), rfl⟩
theorem dok_attrs {n : Nat} {row : List D} (h : DOk Tryz.prog n 32 row) : ∃ l : List (List UInt8 × List UInt8), row = [.sl (attrsD l)] := by
 cases n with
 | zero => exact h.elim
 | succ n =>
  simp only [DOk, Tryz.underlying32] at h
  obtain ⟨rows, rfl, hbb, h2⟩ := h
  have : ∃ l : List (List UInt8 × List UInt8), rows = attrsD l := by
   clear hbb
   induction rows with
   | nil => exact ⟨[], rfl⟩
   | cons r rs ih =>
    obtain ⟨a, rfl⟩ := dok_attr (h2 r (by simp))
    obtain ⟨l, rfl⟩ := ih (fun q hq => h2 q (by simp [hq]))
    exact ⟨a :: l, rfl⟩
  obtain ⟨l, rfl⟩ := this
  exact ⟨l, rfl⟩
theorem dok_nodes (n : Nat) : ∀ {row : List D}, DOk Tryz.prog n 25 row → ∃ l : List Node, row = [.sl (nodesD l)] := by
 induction n using Nat.strongRecOn with
 | ind n ih =>
 intro row h
 cases n with
 | zero => exact h.elim
 | succ n =>
  simp only [DOk, Tryz.underlying25] at h
  obtain ⟨rows, rfl, hbb, h2⟩ := h
  cases n with
  | zero =>
   cases rows with
   | nil => exact ⟨[], by unfold nodesD; rfl⟩
   | cons r rs => exact (h2 r (by simp)).elim
  | succ n =>
   simp only [DOk, Tryz.underlying34] at h2
   have each : ∀ r ∈ rows, ∃ nd : Node, r = nodeD nd := by
    intro r hr
    obtain ⟨hl, hf⟩ := h2 r hr
    rw [cells_node] at hl
    obtain ⟨x, y, z, u, rfl⟩ := len4 hl
    have f1 := hf _ (List.mem_cons_self ..)
    have f2 := hf _ (List.mem_cons_of_mem _ (List.mem_cons_self ..))
    have f3 := hf _ (List.mem_cons_of_mem _ (List.mem_cons_of_mem _ (List.mem_cons_self ..)))
    have f4 := hf _ (List.mem_cons_of_mem _ (List.mem_cons_of_mem _ (List.mem_cons_of_mem _ (List.mem_cons_self ..))))
    simp only [cells_str, cells_attrs, cells_nodes] at f1 f2 f3 f4
    obtain ⟨a, ha, _⟩ := dok_str f1
    obtain ⟨b, hb⟩ := dok_attrs f2
    obtain ⟨c, hc, _⟩ := dok_str f3
    obtain ⟨d, hd⟩ := ih n (by omega) f4
    simp at ha hb hc hd
    subst ha; subst hb; subst hc; subst hd
    exact ⟨.mk a b c d, by unfold nodeD; rfl⟩
   have : ∃ l : List Node, rows = nodesD l := by
    clear h2 ih hbb
    induction rows with
    | nil => exact ⟨[], by unfold nodesD; rfl⟩
    | cons r rs ih =>
     obtain ⟨a, rfl⟩ := each r (by simp)
     obtain ⟨l, rfl⟩ := ih (fun q hq => each q (by simp [hq]))
     exact ⟨a :: l, by rw [nodesD]⟩
   obtain ⟨l, rfl⟩ := this
   exact ⟨l, rfl⟩
theorem agg_pol : isAggB Tryz.prog 24 = true := by kernel_rfl
theorem arg_pol (p : Pol) : argAV Tryz.prog 24 (polD p) = polA p := by rw [argAV, agg_pol]; rfl
theorem cells_int0 : Tryz.prog.cellsOf 3 = 1 := by kernel_rfl
theorem cells_strs0 : Tryz.prog.cellsOf 22 = 1 := by kernel_rfl
theorem cells_pol : Tryz.prog.cellsOf 24 = 9 := by kernel_rfl
theorem len9 {α : Type} {l : List α} (h : l.length = 9) : ∃ a b c d e f g h i, l = [a, b, c, d, e, f, g, h, i] := by
 match l, h with
 | [a, b, c, d, e, f, g, h, i], _ => exact ⟨a, b, c, d, e, f, g, h, i, rfl⟩
theorem dok_pol {n : Nat} {row : List D} (h : DOk Tryz.prog n 24 row) : ∃ p : Pol, row = polD p := by
 cases n with
 | zero => exact h.elim
 | succ n =>
  simp only [DOk, Tryz.underlying24] at h
  obtain ⟨hl, hf⟩ := h
  rw [cells_pol] at hl
  obtain ⟨a, b, c, d, e, f, g, h, i, rfl⟩ := len9 hl
  have f1 := hf _ (List.mem_cons_self ..)
  have f2 := hf _ (List.mem_cons_of_mem _ (List.mem_cons_self ..))
  have f3 := hf _ (List.mem_cons_of_mem _ (List.mem_cons_of_mem _ (List.mem_cons_self ..)))
  have f4 := hf _ (List.mem_cons_of_mem _ (List.mem_cons_of_mem _ (List.mem_cons_of_mem _ (List.mem_cons_self ..))))
  have f5 := hf _ (List.mem_cons_of_mem _ (List.mem_cons_of_mem _ (List.mem_cons_of_mem _ (List.mem_cons_of_mem _ (List.mem_cons_self ..)))))
  have f6 := hf _ (List.mem_cons_of_mem _ (List.mem_cons_of_mem _ (List.mem_cons_of_mem _ (List.mem_cons_of_mem _ (List.mem_cons_of_mem _ (List.mem_cons_self ..))))))
  have f7 := hf _ (List.mem_cons_of_mem _ (List.mem_cons_of_mem _ (List.mem_cons_of_mem _ (List.mem_cons_of_mem _ (List.mem_cons_of_mem _ (List.mem_cons_of_mem _ (List.mem_cons_self ..)))))))
  have f8 := hf _ (List.mem_cons_of_mem _ (List.mem_cons_of_mem _ (List.mem_cons_of_mem _ (List.mem_cons_of_mem _ (List.mem_cons_of_mem _ (List.mem_cons_of_mem _ (List.mem_cons_of_mem _ (List.mem_cons_self ..))))))))
  have f9 := hf _ (List.mem_cons_of_mem _ (List.mem_cons_of_mem _ (List.mem_cons_of_mem _ (List.mem_cons_of_mem _ (List.mem_cons_of_mem _ (List.mem_cons_of_mem _ (List.mem_cons_of_mem _ (List.mem_cons_of_mem _ (List.mem_cons_self ..)))))))))
  simp only [cells_int0, cells_strs0] at f1 f2 f3 f4 f5 f6 f7 f8 f9
  obtain ⟨x1, e1, _⟩ := dok_int f1
  obtain ⟨x2, e2, _⟩ := dok_strs f2
  obtain ⟨x3, e3, _⟩ := dok_strs f3
  obtain ⟨x4, e4, _⟩ := dok_strs f4
  obtain ⟨x5, e5, _⟩ := dok_strs f5
  obtain ⟨x6, e6, _⟩ := dok_strs f6
  obtain ⟨x7, e7, _⟩ := dok_int f7
  obtain ⟨x8, e8, _⟩ := dok_int f8
  obtain ⟨x9, e9, _⟩ := dok_int f9
  simp at e1 e2 e3 e4 e5 e6 e7 e8 e9
  subst e1; subst e2; subst e3; subst e4; subst e5; subst e6; subst e7; subst e8; subst e9
  exact ⟨⟨x1, x2, x3, x4, x5, x6, x7, x8, x9⟩, rfl⟩
end Go.Proofs.YtfchacihhljfhaaGreatDoor
namespace Go.Proofs.YtfchacihhljfhaaGreatDoor
open Go.Aw
set_option maxHeartbeats 1600000
set_option linter.unusedSimpArgs false
set_option linter.unusedVariables false
mutual
theorem Fit_wtN : ∀ n : Node, wtN n ≤ 100000 → FitN n
 | .mk nm a t k, h => by
  rw [wtN] at h
  rw [FitN]
  have h1 := wtA_len a
  exact ⟨⟨by show nm.length ≤ _; omega, by show a.length ≤ _; omega, fun x hx => by have := wtA_mem (show x ∈ a from hx); omega⟩, Fit_wtL k (by omega)⟩
theorem Fit_wtL : ∀ l : List Node, wtL l ≤ 100000 → FitL l
 | [], _ => by rw [FitL]; trivial
 | n :: r, h => by
  rw [wtL_cons] at h
  rw [FitL]
  exact ⟨Fit_wtN n (by omega), Fit_wtL r (by omega)⟩
end
theorem Safe_light (p : Pol) (l : List Node) (hp : Fits p) (h : wtL l < 20000) : PureC Tryz.prog 7 [polA p, .d (.sl (nodesD l))] (.d (.bool (safeB p l))) :=
 Safe_ok p l hp (by have := sz_wtL l; omega) (Fit_wtL l (by omega)) (Sh_wtL l (by omega))
theorem Light_at (l : List Node) (σ : Store) {K : AV → Store → Prop} (h : ∀ b : Bool, (b = true → wtL l < 20000) → K (.d (.bool b)) σ) : CallsAbs Tryz.prog 6 [.d (.sl (nodesD l)), .d (.int .i64 0)] σ K := by
 refine CallsAbs.frame (Light_ok l) [] ⟨Nat.zero_le _, rfl, rfl, trivial⟩ ⟨rfl, rfl, trivial⟩ ?_
 rintro _ _ ⟨⟨b, rfl, hb⟩, rfl⟩
 exact ⟨.d (.bool b), [], trivial, rfl, rfl, h b hb⟩
end Go.Proofs.YtfchacihhljfhaaGreatDoor

namespace Go.Proofs.YtfchacihhljfhaaGreatDoor
open Go.Aw
set_option maxHeartbeats 1600000
set_option linter.unusedSimpArgs false
set_option linter.unusedVariables false
/-- All so far were classes, each once. -/
def ClsI (l : List (List UInt8)) (P : List (List UInt8)) : Prop := ∀ R, clsB l [] (P ++ R) = clsB l P.reverse R
theorem ClsI.more {l P : List (List UInt8)} (h : ClsI l P) {c : List UInt8} (h1 : c ∈ l) (h2 : c ∉ P) : ClsI l (P ++ [c]) := fun R => by
 rw [List.append_assoc, h, List.singleton_append, clsB, decide_eq_false (by simpa using h2), decide_eq_true h1, List.reverse_append]; rfl
theorem ClsI.bad {l P : List (List UInt8)} (h : ClsI l P) {c : List UInt8} (h1 : c ∉ l ∨ c ∈ P) (R : List (List UInt8)) : clsB l [] (P ++ c :: R) = false := by
 rw [h, clsB]
 rcases h1 with h1 | h1
 ·rw [decide_eq_false h1, Bool.and_false, Bool.false_and]
 ·rw [decide_eq_true (show c ∈ P.reverse by simpa using h1)]; rfl
theorem Has_at (P : List (List UInt8)) (c : List UInt8) (hP : P.length ≤ 4611686018427387903) (σ : Store) {sz : Nat × Nat} (h : σ.get 0 = .rows sz (strsA P)) : CallsAbs Tryz.prog 22 [.own 0 0 P.length, .d (.str c)] σ fun r σ' => r = .d (.bool (decide (c ∈ P))) ∧ σ' = σ := by
 refine PureC.borrow 1 (rHas_ok P c hP) rfl ?_
 have e := see_own (n := 0) (i := 0) (len := P.length) (ds := strsD P) h (strsD_len P).symm
 simp only [optL, seeV, e, seeD_d, Option.map_some]
set_option maxRecDepth 100000 in
set_option maxHeartbeats 1000000 in
theorem rClasses_ok (v : List UInt8) (l : List (List UInt8)) (hs : v.length ≤ 1000000) (hl : l.length ≤ 1000000) : PureC Tryz.prog 38 [.d (.str v), .d (.sl (strsD l))] (.d (.bool (clsB l [] (splitB 32 v)))) := by
 refine pure_okT Tryz.wf Tryz.tab_ok Tryz.func38 (by decide +kernel) rfl rfl rfl rfl ?_
 refine wR (k := ?_)
 refine loopT Tryz.wf Tryz.tab_ok (fun n s' σ => ∃ (i : Nat) (P : List (List UInt8)) (fr : Nat), n = v.length + 1 - i ∧ i ≤ v.length + 1 ∧ PartI 32 v i P fr ∧ ClsI l P ∧ s' = [(0, .d (.str v)), (1, .d (.sl (strsD l))), (5, .own 0 0 P.length), (6, .d (.int .i64 fr)), (7, .d (.int .i64 i))] ∧ σ = ⟨1, [(0, .rows (1, 9) (strsA P))]⟩)
  ⟨0, [], 0, rfl, Nat.zero_le _, PartI.start 32 v, fun _ => rfl, rfl, rfl⟩ (Mv.of [.phan 1] rfl rfl rfl ⟨rfl, trivial⟩ ⟨rfl, rfl, ⟨rfl, rfl, rfl⟩, rfl, rfl, trivial⟩) ?_
 rintro _ _ _ ⟨i, P, fr, rfl, hi, hI, hC, rfl, rfl⟩
 have hlP := strsA_len P
 have hPl := hI.len
 by_cases hle : i ≤ v.length
 ·by_cases hlt : i < v.length
  ·have hg := getD_at v i hlt
   by_cases hc : v[i] = 32
   ·have hnx := hI.hit hlt hc
    have hgc : ((v.getD ((i : Nat) : Int).toNat 0).toNat : Int) = 32 := by rw [hg, hc]; rfl
    have hbad : ((v.take i).drop fr ∉ l ∨ (v.take i).drop fr ∈ P) → clsB l [] (splitB 32 v) = false := fun h => by
     rcases hnx with ⟨_, _, h4, _⟩ | ⟨_, _, h4⟩
     ·rw [h4, List.append_assoc]; exact hC.bad h _
     ·rw [← h4]; exact hC.bad h []
    have hc1 : PureC Tryz.prog 22 [.d (.sl (strsD l)), .d (.str ((v.take ((i : Nat) : Int).toNat).drop ((fr : Nat) : Int).toNat))] (.d (.bool (decide ((v.take i).drop fr ∈ l)))) := rHas_ok l _ (by omega)
    have hst := strsA_snoc P ((v.take i).drop fr)
    have hat := fun σ h => Has_at P ((v.take i).drop fr) (by omega) σ (sz := (1, 9)) h
    have hmore := fun h1 h2 => ClsI.more hC (c := (v.take i).drop fr) h1 h2
    clear hC
    by_cases k1 : (v.take i).drop fr ∈ l
    ·rw [decide_eq_true k1] at hc1
     by_cases k2 : (v.take i).drop fr ∈ P
     ·rw [decide_eq_true k2] at hat
      have hf := hbad (.inr k2)
      clear hbad hmore
      refine wR (k := ?_)
      refine CallsAbs.use1 (hat _ rfl) ?_
      refine wR (k := ?_)
      exact ⟨_, _, fin_out rfl, congrArg (fun b => AV.d (.bool b)) hf.symm⟩
     ·rw [decide_eq_false k2] at hat
      have hm := hmore k1 k2
      clear hbad hmore
      refine wR (k := ?_)
      refine CallsAbs.use1 (hat _ rfl) ?_
      refine wR (k := ?_)
      refine ⟨strsA P, [_], congrArg some (takeAll hlP), rfl, (show srcLen (.own 0 0 P.length) _ from hlP), rfl, (by rw [hlP]; show (P.length + 1) * 16 ≤ 140737488355328; omega), Nat.le_of_ble_eq_true rfl, Nat.le_of_ble_eq_true rfl, rfl, rfl, strsA_rows P, rowsOne rfl rfl, ?_⟩
      refine wR (k := ?_)
      exact ⟨_, _, _, ⟨i + 1, P ++ [(v.take i).drop fr], i + 1, rfl, by omega, hnx, hm, rfl, rfl⟩, by omega, Mv.of [.old 2] rfl rfl rfl ⟨⟨rfl, .inl ⟨hst, strsA_pure _⟩⟩, trivial⟩ ⟨rfl, rfl, ⟨rfl, rfl, by simp [strsA_len]⟩, rfl, rfl, trivial⟩⟩
    ·rw [decide_eq_false k1] at hc1
     have hf := hbad (.inl k1)
     clear hbad hmore hat
     refine wR (k := ?_)
     exact ⟨_, _, fin_out rfl, congrArg (fun b => AV.d (.bool b)) hf.symm⟩
   ·have hn := hI.miss hlt hc
    have hgc : ¬ ((v.getD ((i : Nat) : Int).toNat 0).toNat : Int) = 32 := fun e => hc (by rw [hg] at e; exact UInt8.toNat_inj.1 (by have : (32 : UInt8).toNat = 32 := rfl; omega))
    refine wR (k := ?_)
    exact ⟨_, _, _, ⟨i + 1, P, fr, rfl, by omega, hn, hC, rfl, rfl⟩, by omega, Mv.of [.old 0] rfl rfl rfl ⟨⟨rfl, .inl ⟨rfl, strsA_pure _⟩⟩, trivial⟩ ⟨rfl, rfl, ⟨rfl, rfl, rfl⟩, rfl, rfl, trivial⟩⟩
  ·have hnx : PartI 32 v (i + 1) (P ++ [(v.take i).drop fr]) (i + 1) := by
    have hii : i = v.length := by omega
    subst hii
    exact hI.fin
   have hbad : ((v.take i).drop fr ∉ l ∨ (v.take i).drop fr ∈ P) → clsB l [] (splitB 32 v) = false := fun h => by
    rcases hnx with ⟨_, _, h4, _⟩ | ⟨_, _, h4⟩
    ·rw [h4, List.append_assoc]; exact hC.bad h _
    ·rw [← h4]; exact hC.bad h []
   have hc1 : PureC Tryz.prog 22 [.d (.sl (strsD l)), .d (.str ((v.take ((i : Nat) : Int).toNat).drop ((fr : Nat) : Int).toNat))] (.d (.bool (decide ((v.take i).drop fr ∈ l)))) := rHas_ok l _ (by omega)
   have hst := strsA_snoc P ((v.take i).drop fr)
   have hat := fun σ h => Has_at P ((v.take i).drop fr) (by omega) σ (sz := (1, 9)) h
   have hmore := fun h1 h2 => ClsI.more hC (c := (v.take i).drop fr) h1 h2
   clear hC
   by_cases k1 : (v.take i).drop fr ∈ l
   ·rw [decide_eq_true k1] at hc1
    by_cases k2 : (v.take i).drop fr ∈ P
    ·rw [decide_eq_true k2] at hat
     have hf := hbad (.inr k2)
     clear hbad hmore
     refine wR (k := ?_)
     refine CallsAbs.use1 (hat _ rfl) ?_
     refine wR (k := ?_)
     exact ⟨_, _, fin_out rfl, congrArg (fun b => AV.d (.bool b)) hf.symm⟩
    ·rw [decide_eq_false k2] at hat
     have hm := hmore k1 k2
     clear hbad hmore
     refine wR (k := ?_)
     refine CallsAbs.use1 (hat _ rfl) ?_
     refine wR (k := ?_)
     refine ⟨strsA P, [_], congrArg some (takeAll hlP), rfl, (show srcLen (.own 0 0 P.length) _ from hlP), rfl, (by rw [hlP]; show (P.length + 1) * 16 ≤ 140737488355328; omega), Nat.le_of_ble_eq_true rfl, Nat.le_of_ble_eq_true rfl, rfl, rfl, strsA_rows P, rowsOne rfl rfl, ?_⟩
     refine wR (k := ?_)
     exact ⟨_, _, _, ⟨i + 1, P ++ [(v.take i).drop fr], i + 1, rfl, by omega, hnx, hm, rfl, rfl⟩, by omega, Mv.of [.old 2] rfl rfl rfl ⟨⟨rfl, .inl ⟨hst, strsA_pure _⟩⟩, trivial⟩ ⟨rfl, rfl, ⟨rfl, rfl, by simp [strsA_len]⟩, rfl, rfl, trivial⟩⟩
   ·rw [decide_eq_false k1] at hc1
    have hf := hbad (.inl k1)
    clear hbad hmore hat
    refine wR (k := ?_)
    exact ⟨_, _, fin_out rfl, congrArg (fun b => AV.d (.bool b)) hf.symm⟩
 ·have hii : i = v.length + 1 := by omega
  subst hii
  refine wR (k := ?_)
  rcases hI with ⟨h, _⟩ | ⟨_, _, hP⟩
  ·exact absurd h (by omega)
  ·refine ⟨_, _, fin_out rfl, congrArg (fun b => AV.d (.bool b)) ?_⟩
   rw [← hP]
   have := hC []
   rw [List.append_nil, clsB] at this
   exact this.symm
set_option maxRecDepth 100000 in
set_option maxHeartbeats 1000000 in
theorem rValue2_ok (p : Pol) (el nm v : List UInt8) (hp : Fits p) (he : el.length ≤ 1000000) (h1 : nm.length ≤ 1000000) (h2 : v.length ≤ 400000) : PureC Tryz.prog 21 [polA p, .d (.str el), .agg [.d (.str nm), .d (.str v)]] (.d (.bool (valueP p el (nm, v)))) := by
 have hc1 := rHas_ok p.el el (by have := hp.el.1; omega)
 unfold valueP
 dsimp only
 by_cases hE : el ∈ p.el
 ·rw [decide_eq_true hE, Bool.true_and]
  rw [decide_eq_true hE] at hc1
  by_cases hr : nm = relN
  ·subst hr
   rw [if_pos rfl]
   refine pure_okT Tryz.wf Tryz.tab_ok Tryz.func21 (by decide +kernel) rfl rfl rfl rfl ?_
   repeat' (first | refine PureC.use hc1 ?_ | refine PureC.use hc2 ?_ | refine PureC.use hc3 ?_ | refine PureC.use hc4 ?_ |                    refine ⟨fun _ => ?_, fun h => absurd h (by decide)⟩ | refine ⟨fun h => absurd h (by decide), fun _ => ?_⟩ | (refine ⟨fun h => ?_, fun h => ?_⟩ <;> (try simp only [wS, List.length_cons, List.length_nil] at h) <;> (try exact wX h)) | refine ⟨⟨oB, oB⟩, _, by assumption, by rfl, ?_⟩ | refine .inl ⟨⟨oB, oB⟩, ?_⟩ | refine ⟨⟨oB, oB⟩, ?_⟩ | refine ⟨⟨oB, oB, oB⟩, ?_⟩ | refine ⟨.inl rfl, ?_⟩ | refine ⟨.inr (.inl oB), ?_⟩ | refine ⟨_, rfl, rfl, oL, ?_⟩ | refine ⟨_, rfl, oL, ?_⟩ | refine ⟨oL, ?_⟩ | refine ⟨show _ ≤ (9223372036854775807 : Nat) from oB, ?_⟩ | refine ⟨show _ ≠ (0 : Int) from oB, ?_⟩ | refine ⟨_, rfl, _, rfl, ?_⟩ | refine ⟨_, by assumption, Nat.le_of_ble_eq_true rfl, ?_⟩ | refine ⟨_, by assumption, _, rfl, ?_⟩ | refine ⟨_, rfl, ?_⟩ | fail)
   all_goals first | exact ⟨_, _, fin_out rfl, rfl⟩ | exact ⟨_, _, fin_out rfl, congrArg (fun b => AV.d (.bool b)) (by first | (simp_all [aN, forcedB]; done) | (simp_all [aN, forcedB]; exact decide_eq_decide.2 Iff.rfl))⟩
  ·rw [if_neg hr]
   have hr' : ¬ nm = [114, 101, 108] := hr
   clear hr
   by_cases hs : nm = styN
   ·subst hs
    rw [if_pos rfl]
    have hc2 := rFilter_ok p.pr v (by have := hp.pr.1; omega) (by omega)
    by_cases hv : v = []
    ·subst hv
     refine pure_okT Tryz.wf Tryz.tab_ok Tryz.func21 (by decide +kernel) rfl rfl rfl rfl ?_
     refine wR (k := ?_)
     refine drawnT Tryz.wf Tryz.tab_ok Tryz.mixed (by decide +kernel) ?_; repeat' (first | refine qstep rfl rfl (fin_eq (congrArg (fun b => AV.d (.bool b)) hq1)) ?_ |      refine qskip rfl rfl ?_ | refine qstep (r := .d (.bool true)) rfl rfl (fin_eq (congrArg (fun b => AV.d (.bool b)) (decide_eq_true (by omega)))) ?_ | refine qstep (r := .d (.bool false)) rfl rfl (fin_eq (congrArg (fun b => AV.d (.bool b)) (decide_eq_false (by omega)))) ?_ | refine qstep rfl rfl ⟨fun _ => FinMove.refl _ _ _, fun h => absurd h (by decide)⟩ ?_ | refine qstep rfl rfl ⟨fun h => absurd h (by decide), fun _ => FinMove.refl _ _ _⟩ ?_ | refine qstep rfl rfl (FinMove.refl _ _ _) ?_ |     refine qstep rfl rfl (PureC.use hc1 (FinMove.refl _ _ _)) ?_ | refine qstep rfl rfl (PureC.use hc2 (FinMove.refl _ _ _)) ?_ | refine qstep rfl rfl (PureC.use hc3 (FinMove.refl _ _ _)) ?_ | refine qstep rfl rfl (PureC.use hc4 (FinMove.refl _ _ _)) ?_ |     refine qstep rfl rfl ⟨⟨oB, oB⟩, _, by assumption, by rfl, FinMove.refl _ _ _⟩ ?_ | refine qstep rfl rfl (.inl ⟨⟨oB, oB⟩, FinMove.refl _ _ _⟩) ?_ | refine qstep rfl rfl ⟨⟨oB, oB⟩, FinMove.refl _ _ _⟩ ?_ | refine qstep rfl rfl ⟨⟨oB, oB, oB⟩, FinMove.refl _ _ _⟩ ?_ | refine qstep rfl rfl ⟨⟨oB, oB, oB⟩, .inl rfl, FinMove.refl _ _ _⟩ ?_ | refine qstep rfl rfl ⟨_, rfl, _, rfl, FinMove.refl _ _ _⟩ ?_ | refine qstep rfl rfl ⟨_, rfl, FinMove.refl _ _ _⟩ ?_ | refine qstep rfl rfl ⟨_, rfl, Nat.le_refl _, FinMove.refl _ _ _⟩ ?_ | refine qstep rfl rfl ⟨Nat.le_refl _, FinMove.refl _ _ _⟩ ?_ | refine qstep rfl rfl ⟨by decide, FinMove.refl _ _ _⟩ ?_ | refine qstep rfl rfl ⟨show _ ≤ (9223372036854775807 : Nat) from oB, FinMove.refl _ _ _⟩ ?_ | fail)
     repeat' (first | refine PureC.use hc1 ?_ | refine PureC.use hc2 ?_ | refine PureC.use hc3 ?_ | refine PureC.use hc4 ?_ |                    refine ⟨fun _ => ?_, fun h => absurd h (by decide)⟩ | refine ⟨fun h => absurd h (by decide), fun _ => ?_⟩ | (refine ⟨fun h => ?_, fun h => ?_⟩ <;> (try simp only [wS, List.length_cons, List.length_nil] at h) <;> (try exact wX h)) | refine ⟨⟨oB, oB⟩, _, by assumption, by rfl, ?_⟩ | refine .inl ⟨⟨oB, oB⟩, ?_⟩ | refine ⟨⟨oB, oB⟩, ?_⟩ | refine ⟨⟨oB, oB, oB⟩, ?_⟩ | refine ⟨.inl rfl, ?_⟩ | refine ⟨.inr (.inl oB), ?_⟩ | refine ⟨_, rfl, rfl, oL, ?_⟩ | refine ⟨_, rfl, oL, ?_⟩ | refine ⟨oL, ?_⟩ | refine ⟨show _ ≤ (9223372036854775807 : Nat) from oB, ?_⟩ | refine ⟨show _ ≠ (0 : Int) from oB, ?_⟩ | refine ⟨_, rfl, _, rfl, ?_⟩ | refine ⟨_, by assumption, Nat.le_of_ble_eq_true rfl, ?_⟩ | refine ⟨_, by assumption, _, rfl, ?_⟩ | refine ⟨_, rfl, ?_⟩ | fail)
     all_goals first | exact ⟨_, _, fin_out rfl, rfl⟩ | exact ⟨_, _, fin_out rfl, congrArg (fun b => AV.d (.bool b)) (by first | (simp_all [aN, forcedB]; done) | (simp_all [aN, forcedB]; exact decide_eq_decide.2 Iff.rfl))⟩
    ·have hq1 : (!decide (v = [])) = true := by rw [decide_eq_false hv]; rfl
     refine pure_okT Tryz.wf Tryz.tab_ok Tryz.func21 (by decide +kernel) rfl rfl rfl rfl ?_
     refine wR (k := ?_)
     refine drawnT Tryz.wf Tryz.tab_ok Tryz.mixed (by decide +kernel) ?_; repeat' (first | refine qstep rfl rfl (fin_eq (congrArg (fun b => AV.d (.bool b)) hq1)) ?_ |      refine qskip rfl rfl ?_ | refine qstep (r := .d (.bool true)) rfl rfl (fin_eq (congrArg (fun b => AV.d (.bool b)) (decide_eq_true (by omega)))) ?_ | refine qstep (r := .d (.bool false)) rfl rfl (fin_eq (congrArg (fun b => AV.d (.bool b)) (decide_eq_false (by omega)))) ?_ | refine qstep rfl rfl ⟨fun _ => FinMove.refl _ _ _, fun h => absurd h (by decide)⟩ ?_ | refine qstep rfl rfl ⟨fun h => absurd h (by decide), fun _ => FinMove.refl _ _ _⟩ ?_ | refine qstep rfl rfl (FinMove.refl _ _ _) ?_ |     refine qstep rfl rfl (PureC.use hc1 (FinMove.refl _ _ _)) ?_ | refine qstep rfl rfl (PureC.use hc2 (FinMove.refl _ _ _)) ?_ | refine qstep rfl rfl (PureC.use hc3 (FinMove.refl _ _ _)) ?_ | refine qstep rfl rfl (PureC.use hc4 (FinMove.refl _ _ _)) ?_ |     refine qstep rfl rfl ⟨⟨oB, oB⟩, _, by assumption, by rfl, FinMove.refl _ _ _⟩ ?_ | refine qstep rfl rfl (.inl ⟨⟨oB, oB⟩, FinMove.refl _ _ _⟩) ?_ | refine qstep rfl rfl ⟨⟨oB, oB⟩, FinMove.refl _ _ _⟩ ?_ | refine qstep rfl rfl ⟨⟨oB, oB, oB⟩, FinMove.refl _ _ _⟩ ?_ | refine qstep rfl rfl ⟨⟨oB, oB, oB⟩, .inl rfl, FinMove.refl _ _ _⟩ ?_ | refine qstep rfl rfl ⟨_, rfl, _, rfl, FinMove.refl _ _ _⟩ ?_ | refine qstep rfl rfl ⟨_, rfl, FinMove.refl _ _ _⟩ ?_ | refine qstep rfl rfl ⟨_, rfl, Nat.le_refl _, FinMove.refl _ _ _⟩ ?_ | refine qstep rfl rfl ⟨Nat.le_refl _, FinMove.refl _ _ _⟩ ?_ | refine qstep rfl rfl ⟨by decide, FinMove.refl _ _ _⟩ ?_ | refine qstep rfl rfl ⟨show _ ≤ (9223372036854775807 : Nat) from oB, FinMove.refl _ _ _⟩ ?_ | fail)
     repeat' (first | refine PureC.use hc1 ?_ | refine PureC.use hc2 ?_ | refine PureC.use hc3 ?_ | refine PureC.use hc4 ?_ |                    refine ⟨fun _ => ?_, fun h => absurd h (by decide)⟩ | refine ⟨fun h => absurd h (by decide), fun _ => ?_⟩ | (refine ⟨fun h => ?_, fun h => ?_⟩ <;> (try simp only [wS, List.length_cons, List.length_nil] at h) <;> (try exact wX h)) | refine ⟨⟨oB, oB⟩, _, by assumption, by rfl, ?_⟩ | refine .inl ⟨⟨oB, oB⟩, ?_⟩ | refine ⟨⟨oB, oB⟩, ?_⟩ | refine ⟨⟨oB, oB, oB⟩, ?_⟩ | refine ⟨.inl rfl, ?_⟩ | refine ⟨.inr (.inl oB), ?_⟩ | refine ⟨_, rfl, rfl, oL, ?_⟩ | refine ⟨_, rfl, oL, ?_⟩ | refine ⟨oL, ?_⟩ | refine ⟨show _ ≤ (9223372036854775807 : Nat) from oB, ?_⟩ | refine ⟨show _ ≠ (0 : Int) from oB, ?_⟩ | refine ⟨_, rfl, _, rfl, ?_⟩ | refine ⟨_, by assumption, Nat.le_of_ble_eq_true rfl, ?_⟩ | refine ⟨_, by assumption, _, rfl, ?_⟩ | refine ⟨_, rfl, ?_⟩ | fail)
     all_goals first | exact ⟨_, _, fin_out rfl, rfl⟩ | exact ⟨_, _, fin_out rfl, congrArg (fun b => AV.d (.bool b)) (by first | (simp_all [aN, forcedB]; done) | (simp_all [aN, forcedB]; exact decide_eq_decide.2 Iff.rfl))⟩
   ·rw [if_neg hs]
    have hs' : ¬ nm = [115, 116, 121, 108, 101] := hs
    clear hs
    have hc2 := rAttr_ok p el nm hp he h1
    by_cases hk : nm = clsN
    ·subst hk
     rw [if_pos rfl]
     have hc3 := rClasses_ok v p.cl (by omega) (by have := hp.cl.1; omega)
     refine pure_okT Tryz.wf Tryz.tab_ok Tryz.func21 (by decide +kernel) rfl rfl rfl rfl ?_
     cases hA : attrP p el clsN with
     | false =>
      rw [hA] at hc2
      repeat' (first | refine PureC.use hc1 ?_ | refine PureC.use hc2 ?_ | refine PureC.use hc3 ?_ | refine PureC.use hc4 ?_ |                    refine ⟨fun _ => ?_, fun h => absurd h (by decide)⟩ | refine ⟨fun h => absurd h (by decide), fun _ => ?_⟩ | (refine ⟨fun h => ?_, fun h => ?_⟩ <;> (try simp only [wS, List.length_cons, List.length_nil] at h) <;> (try exact wX h)) | refine ⟨⟨oB, oB⟩, _, by assumption, by rfl, ?_⟩ | refine .inl ⟨⟨oB, oB⟩, ?_⟩ | refine ⟨⟨oB, oB⟩, ?_⟩ | refine ⟨⟨oB, oB, oB⟩, ?_⟩ | refine ⟨.inl rfl, ?_⟩ | refine ⟨.inr (.inl oB), ?_⟩ | refine ⟨_, rfl, rfl, oL, ?_⟩ | refine ⟨_, rfl, oL, ?_⟩ | refine ⟨oL, ?_⟩ | refine ⟨show _ ≤ (9223372036854775807 : Nat) from oB, ?_⟩ | refine ⟨show _ ≠ (0 : Int) from oB, ?_⟩ | refine ⟨_, rfl, _, rfl, ?_⟩ | refine ⟨_, by assumption, Nat.le_of_ble_eq_true rfl, ?_⟩ | refine ⟨_, by assumption, _, rfl, ?_⟩ | refine ⟨_, rfl, ?_⟩ | fail)
      all_goals first | exact ⟨_, _, fin_out rfl, rfl⟩ | exact ⟨_, _, fin_out rfl, congrArg (fun b => AV.d (.bool b)) (by first | (simp_all [aN, forcedB]; done) | (simp_all [aN, forcedB]; exact decide_eq_decide.2 Iff.rfl))⟩
     | true =>
      rw [hA] at hc2
      repeat' (first | refine PureC.use hc1 ?_ | refine PureC.use hc2 ?_ | refine PureC.use hc3 ?_ | refine PureC.use hc4 ?_ |                    refine ⟨fun _ => ?_, fun h => absurd h (by decide)⟩ | refine ⟨fun h => absurd h (by decide), fun _ => ?_⟩ | (refine ⟨fun h => ?_, fun h => ?_⟩ <;> (try simp only [wS, List.length_cons, List.length_nil] at h) <;> (try exact wX h)) | refine ⟨⟨oB, oB⟩, _, by assumption, by rfl, ?_⟩ | refine .inl ⟨⟨oB, oB⟩, ?_⟩ | refine ⟨⟨oB, oB⟩, ?_⟩ | refine ⟨⟨oB, oB, oB⟩, ?_⟩ | refine ⟨.inl rfl, ?_⟩ | refine ⟨.inr (.inl oB), ?_⟩ | refine ⟨_, rfl, rfl, oL, ?_⟩ | refine ⟨_, rfl, oL, ?_⟩ | refine ⟨oL, ?_⟩ | refine ⟨show _ ≤ (9223372036854775807 : Nat) from oB, ?_⟩ | refine ⟨show _ ≠ (0 : Int) from oB, ?_⟩ | refine ⟨_, rfl, _, rfl, ?_⟩ | refine ⟨_, by assumption, Nat.le_of_ble_eq_true rfl, ?_⟩ | refine ⟨_, by assumption, _, rfl, ?_⟩ | refine ⟨_, rfl, ?_⟩ | fail)
      all_goals first | exact ⟨_, _, fin_out rfl, rfl⟩ | exact ⟨_, _, fin_out rfl, congrArg (fun b => AV.d (.bool b)) (by first | (simp_all [aN, forcedB]; done) | (simp_all [aN, forcedB]; exact decide_eq_decide.2 Iff.rfl))⟩
    ·rw [if_neg hk]
     have hk' : ¬ nm = [99, 108, 97, 115, 115] := hk
     clear hk
     have hc3 := rPlace_ok nm
     have hc4 := rAllowed_ok v p.sc (by omega) (by have := hp.sc.1; omega)
     refine pure_okT Tryz.wf Tryz.tab_ok Tryz.func21 (by decide +kernel) rfl rfl rfl rfl ?_
     cases hA : attrP p el nm with
     | false =>
      rw [hA] at hc2
      repeat' (first | refine PureC.use hc1 ?_ | refine PureC.use hc2 ?_ | refine PureC.use hc3 ?_ | refine PureC.use hc4 ?_ |                    refine ⟨fun _ => ?_, fun h => absurd h (by decide)⟩ | refine ⟨fun h => absurd h (by decide), fun _ => ?_⟩ | (refine ⟨fun h => ?_, fun h => ?_⟩ <;> (try simp only [wS, List.length_cons, List.length_nil] at h) <;> (try exact wX h)) | refine ⟨⟨oB, oB⟩, _, by assumption, by rfl, ?_⟩ | refine .inl ⟨⟨oB, oB⟩, ?_⟩ | refine ⟨⟨oB, oB⟩, ?_⟩ | refine ⟨⟨oB, oB, oB⟩, ?_⟩ | refine ⟨.inl rfl, ?_⟩ | refine ⟨.inr (.inl oB), ?_⟩ | refine ⟨_, rfl, rfl, oL, ?_⟩ | refine ⟨_, rfl, oL, ?_⟩ | refine ⟨oL, ?_⟩ | refine ⟨show _ ≤ (9223372036854775807 : Nat) from oB, ?_⟩ | refine ⟨show _ ≠ (0 : Int) from oB, ?_⟩ | refine ⟨_, rfl, _, rfl, ?_⟩ | refine ⟨_, by assumption, Nat.le_of_ble_eq_true rfl, ?_⟩ | refine ⟨_, by assumption, _, rfl, ?_⟩ | refine ⟨_, rfl, ?_⟩ | fail)
      all_goals first | exact ⟨_, _, fin_out rfl, rfl⟩ | exact ⟨_, _, fin_out rfl, congrArg (fun b => AV.d (.bool b)) (by first | (simp_all [aN, forcedB]; done) | (simp_all [aN, forcedB]; exact decide_eq_decide.2 Iff.rfl))⟩
     | true =>
      rw [hA] at hc2
      by_cases hpl : nm ∈ places
      ·rw [decide_eq_true hpl] at hc3 ⊢
       repeat' (first | refine PureC.use hc1 ?_ | refine PureC.use hc2 ?_ | refine PureC.use hc3 ?_ | refine PureC.use hc4 ?_ |                    refine ⟨fun _ => ?_, fun h => absurd h (by decide)⟩ | refine ⟨fun h => absurd h (by decide), fun _ => ?_⟩ | (refine ⟨fun h => ?_, fun h => ?_⟩ <;> (try simp only [wS, List.length_cons, List.length_nil] at h) <;> (try exact wX h)) | refine ⟨⟨oB, oB⟩, _, by assumption, by rfl, ?_⟩ | refine .inl ⟨⟨oB, oB⟩, ?_⟩ | refine ⟨⟨oB, oB⟩, ?_⟩ | refine ⟨⟨oB, oB, oB⟩, ?_⟩ | refine ⟨.inl rfl, ?_⟩ | refine ⟨.inr (.inl oB), ?_⟩ | refine ⟨_, rfl, rfl, oL, ?_⟩ | refine ⟨_, rfl, oL, ?_⟩ | refine ⟨oL, ?_⟩ | refine ⟨show _ ≤ (9223372036854775807 : Nat) from oB, ?_⟩ | refine ⟨show _ ≠ (0 : Int) from oB, ?_⟩ | refine ⟨_, rfl, _, rfl, ?_⟩ | refine ⟨_, by assumption, Nat.le_of_ble_eq_true rfl, ?_⟩ | refine ⟨_, by assumption, _, rfl, ?_⟩ | refine ⟨_, rfl, ?_⟩ | fail)
       all_goals first | exact ⟨_, _, fin_out rfl, rfl⟩ | exact ⟨_, _, fin_out rfl, congrArg (fun b => AV.d (.bool b)) (by first | (simp_all [aN, forcedB]; done) | (simp_all [aN, forcedB]; exact decide_eq_decide.2 Iff.rfl))⟩
      ·rw [decide_eq_false hpl] at hc3 ⊢
       repeat' (first | refine PureC.use hc1 ?_ | refine PureC.use hc2 ?_ | refine PureC.use hc3 ?_ | refine PureC.use hc4 ?_ |                    refine ⟨fun _ => ?_, fun h => absurd h (by decide)⟩ | refine ⟨fun h => absurd h (by decide), fun _ => ?_⟩ | (refine ⟨fun h => ?_, fun h => ?_⟩ <;> (try simp only [wS, List.length_cons, List.length_nil] at h) <;> (try exact wX h)) | refine ⟨⟨oB, oB⟩, _, by assumption, by rfl, ?_⟩ | refine .inl ⟨⟨oB, oB⟩, ?_⟩ | refine ⟨⟨oB, oB⟩, ?_⟩ | refine ⟨⟨oB, oB, oB⟩, ?_⟩ | refine ⟨.inl rfl, ?_⟩ | refine ⟨.inr (.inl oB), ?_⟩ | refine ⟨_, rfl, rfl, oL, ?_⟩ | refine ⟨_, rfl, oL, ?_⟩ | refine ⟨oL, ?_⟩ | refine ⟨show _ ≤ (9223372036854775807 : Nat) from oB, ?_⟩ | refine ⟨show _ ≠ (0 : Int) from oB, ?_⟩ | refine ⟨_, rfl, _, rfl, ?_⟩ | refine ⟨_, by assumption, Nat.le_of_ble_eq_true rfl, ?_⟩ | refine ⟨_, by assumption, _, rfl, ?_⟩ | refine ⟨_, rfl, ?_⟩ | fail)
       all_goals first | exact ⟨_, _, fin_out rfl, rfl⟩ | exact ⟨_, _, fin_out rfl, congrArg (fun b => AV.d (.bool b)) (by first | (simp_all [aN, forcedB]; done) | (simp_all [aN, forcedB]; exact decide_eq_decide.2 Iff.rfl))⟩
 ·rw [decide_eq_false hE] at hc1 ⊢
  refine pure_okT Tryz.wf Tryz.tab_ok Tryz.func21 (by decide +kernel) rfl rfl rfl rfl ?_
  refine wR (k := ?_)
  exact ⟨_, _, fin_out rfl, rfl⟩
def nboxS (n : Node) : Ob := .rows (4, 34) [[.d (.str n.name), .d (.sl (attrsD n.attrs)), .d (.str n.text), .d (.sl (nodesD n.kids))]]
set_option maxRecDepth 100000 in
set_option maxHeartbeats 1000000 in
theorem rhas_ok (n : Node) (nm : List UInt8) (hl : n.attrs.length ≤ 1000000) : PureC Tryz.prog 41 [nodeA n, .d (.str nm)] (.d (.bool (hasA nm n.attrs))) := by
 have hn := attrsD_len n.attrs
 refine pure_okT Tryz.wf Tryz.tab_ok Tryz.func41 (by decide +kernel) rfl rfl rfl rfl ?_
 refine wR (k := ?_)
 refine loopT Tryz.wf Tryz.tab_ok (fun m s' σ => ∃ k : Nat, m = n.attrs.length - k ∧ k ≤ n.attrs.length ∧ hasA nm (n.attrs.take k) = false ∧ s' = [(1, .d (.str nm)), (2, .ref 0 0 0), (5, .d (.int .i64 k))] ∧ σ = ⟨1, [(0, nboxS n)]⟩)
  ⟨0, rfl, Nat.zero_le _, rfl, rfl, rfl⟩ (Mv.of [.old 0] rfl rfl rfl ⟨⟨rfl, .inl ⟨rfl, fun row h => by rw [List.mem_singleton.1 h]; rfl⟩⟩, trivial⟩ ⟨rfl, ⟨rfl, rfl, rfl⟩, rfl, trivial⟩) ?_
 rintro _ _ _ ⟨k, rfl, hk, hI, rfl, rfl⟩
 by_cases hlt : k < n.attrs.length
 ·have hg := attrsD_get n.attrs k hlt
  have hha := hasA_take nm n.attrs k hlt
  rw [hI, Bool.false_or] at hha
  by_cases he : n.attrs[k].1 = nm
  ·have hyes : hasA nm n.attrs = true := by unfold hasA; rw [decide_eq_true_eq]; exact List.mem_map.2 ⟨_, List.getElem_mem hlt, he⟩
   rw [hyes]
   clear hyes
   refine wR (k := ?_)
   exact ⟨_, _, fin_out rfl, rfl⟩
  ·rw [decide_eq_false he] at hha
   refine wR (k := ?_)
   exact ⟨_, _, _, ⟨k + 1, rfl, hlt, hha, rfl, rfl⟩, by omega, Mv.of [.old 0] rfl rfl rfl ⟨⟨rfl, .inl ⟨rfl, fun row h => by rw [List.mem_singleton.1 h]; rfl⟩⟩, trivial⟩ ⟨rfl, ⟨rfl, rfl, rfl⟩, rfl, trivial⟩⟩
 ·have hk' : k = n.attrs.length := by omega
  subst hk'
  rw [List.take_length] at hI
  rw [hI]
  refine wR (k := ?_)
  exact ⟨_, _, fin_out rfl, rfl⟩
set_option maxRecDepth 100000 in
set_option maxHeartbeats 1000000 in
theorem rlinked_ok (n : Node) (hl : n.attrs.length ≤ 1000000) : PureC Tryz.prog 23 [nodeA n] (.d (.bool (linkB n.attrs))) := by
 have hc1 := rhas_ok n hrefN hl
 have hc2 := rhas_ok n relN hl
 unfold linkB
 cases hh : hasA hrefN n.attrs with
 | false =>
  rw [hh] at hc1
  rw [if_neg Bool.false_ne_true]
  refine pure_okT Tryz.wf Tryz.tab_ok Tryz.func23 (by decide +kernel) rfl rfl rfl rfl ?_
  refine wR (k := ?_)
  exact ⟨_, _, fin_out rfl, rfl⟩
 | true =>
  rw [hh] at hc1
  rw [if_pos rfl]
  clear hc2
  unfold nodeA at hc1 ⊢
  generalize n.attrs = l at *
  rcases List.eq_nil_or_concat l with rfl | ⟨r, x, rfl⟩
  ·exact absurd hh (by decide)
  ·rw [List.concat_eq_append] at *
   have hg := attrsD_get (r ++ [x]) r.length (by simp)
   have hidx : ((attrsD (r ++ [x])).length : Int) - 1 = ((r.length : Nat) : Int) := by rw [attrsD_len]; simp
   rw [← hidx, List.getElem_concat_length rfl] at hg
   have hn := attrsD_len (r ++ [x])
   have hl2 : (r ++ [x]).length = r.length + 1 := by simp
   rw [List.map_append]
   simp only [List.map_cons, List.map_nil, List.getLast?_concat, Option.some.injEq]
   refine pure_okT Tryz.wf Tryz.tab_ok Tryz.func23 (by decide +kernel) rfl rfl rfl rfl ?_
   refine wR (k := ?_)
   exact ⟨_, _, fin_out rfl, rfl⟩
set_option maxRecDepth 100000 in
set_option maxHeartbeats 4000000 in
theorem rinner_ok (p : Pol) (hp : Fits p) (N : Nat) : ∀ l : List Node, szL l ≤ N → N ≤ 1000000000 → FitL l → PureC Tryz.prog 16 [polA p, .d (.sl (nodesD l))] (.d (.bool (innL p l))) := by
 induction N using Nat.strongRecOn with
 | ind N ih =>
 intro l hN hB hF
 rw [innL_all]
 have hn := nodesD_len l
 have hlen := sz_len l
 refine pure_okT Tryz.wf Tryz.tab_ok Tryz.func16 (by decide +kernel) rfl rfl rfl rfl ?_
 refine wR (k := ?_)
 refine loopT Tryz.wf Tryz.tab_ok (fun m s' σ => ∃ k : Nat, m = l.length - k ∧ k ≤ l.length ∧ (l.take k).all (innN p) = true ∧ s' = [(1, .d (.sl (nodesD l))), (2, .ref 0 0 0), (5, .d (.int .i64 k))] ∧ σ = ⟨1, [(0, .rows (9, 24) [(polD p).map .d])]⟩)
  ⟨0, rfl, Nat.zero_le _, rfl, rfl, rfl⟩ (Mv.of [.old 0] rfl rfl rfl ⟨⟨rfl, .inl ⟨rfl, fun row h => by rw [List.mem_singleton.1 h]; rfl⟩⟩, trivial⟩ ⟨rfl, ⟨rfl, rfl, rfl⟩, rfl, trivial⟩) ?_
 rintro _ _ _ ⟨k, rfl, hk, hI, rfl, rfl⟩
 by_cases hlt : k < l.length
 ·have hg := nodesD_get l k hlt
  have hkl := kids_lt (List.getElem_mem hlt)
  have hfn := FitL_mem hF _ (List.getElem_mem hlt)
  have hal := all_take (innN p) l k hlt
  have hno := all_no (innN p) l k hlt
  rw [hI, Bool.true_and] at hal
  have hie := innN_eq p l[k]
  have hc4 := ih (szL l[k].kids) (by omega) l[k].kids (Nat.le_refl _) (by omega) hfn.2
  obtain ⟨f1, f2, f3⟩ := hfn.1
  generalize innN p l[k] = b at *
  generalize l[k] = n at *
  by_cases h0 : n.name = []
  ·rw [decide_eq_true h0, Bool.true_or] at hie
   rw [hie] at hal
   clear hc4
   refine wR (k := ?_)
   exact ⟨_, _, _, ⟨k + 1, rfl, hlt, hal, rfl, rfl⟩, by omega, Mv.of [.old 0] rfl rfl rfl ⟨⟨rfl, .inl ⟨rfl, fun row h => by rw [List.mem_singleton.1 h]; rfl⟩⟩, trivial⟩ ⟨rfl, ⟨rfl, rfl, rfl⟩, rfl, trivial⟩⟩
  ·rw [decide_eq_false h0, Bool.false_or] at hie
   unfold elemP at hie
   have hna := attrsD_len n.attrs
   refine wR (k := ?_)
   refine loopT Tryz.wf Tryz.tab_ok (fun m s' σ => ∃ j : Nat, m = n.attrs.length - j ∧ j ≤ n.attrs.length ∧ (n.attrs.take j).all (valueP p n.name) = true ∧ s' = [(1, .d (.sl (nodesD l))), (2, .ref 0 0 0), (5, .d (.int .i64 k)), (6, .ref 1 0 0), (7, .d (.int .i64 j))] ∧ σ = ⟨2, [(1, nboxS n), (0, .rows (9, 24) [(polD p).map .d])]⟩)
    ⟨0, rfl, Nat.zero_le _, rfl, rfl, rfl⟩ (Mv.of [.old 0, .old 1] rfl rfl rfl ⟨⟨rfl, .inl ⟨rfl, fun row h => by rw [List.mem_singleton.1 h]; rfl⟩⟩, ⟨rfl, .inl ⟨rfl, fun row h => by rw [List.mem_singleton.1 h]; rfl⟩⟩, trivial⟩ ⟨rfl, ⟨rfl, rfl, rfl⟩, rfl, ⟨rfl, rfl, rfl⟩, rfl, trivial⟩) ?_
   rintro _ _ _ ⟨j, rfl, hj, hJ, rfl, rfl⟩
   by_cases hltj : j < n.attrs.length
   ·have hga := attrsD_get n.attrs j hltj
    have hlk := f3 _ (List.getElem_mem hltj)
    have hc1 := rValue2_ok p n.name n.attrs[j].1 n.attrs[j].2 hp f1 hlk.1 hlk.2
    have hal2 := all_take (valueP p n.name) n.attrs j hltj
    have hno2 := all_no (valueP p n.name) n.attrs j hltj
    rw [hJ, Bool.true_and] at hal2
    rw [show (n.attrs[j].1, n.attrs[j].2) = n.attrs[j] from rfl] at hc1
    clear hc4
    cases hv : valueP p n.name n.attrs[j] with
    | false =>
     rw [hv] at hc1
     rw [hno2 hv, Bool.false_and, Bool.false_and] at hie
     rw [hno hie]
     refine wR (k := ?_)
     refine drawnT Tryz.wf Tryz.tab_ok Tryz.mixed (by decide +kernel) ?_; repeat' (first |       refine qskip rfl rfl ?_ | refine qstep (r := .d (.bool true)) rfl rfl (fin_eq (congrArg (fun b => AV.d (.bool b)) (decide_eq_true (by omega)))) ?_ | refine qstep (r := .d (.bool false)) rfl rfl (fin_eq (congrArg (fun b => AV.d (.bool b)) (decide_eq_false (by omega)))) ?_ | refine qstep rfl rfl ⟨fun _ => FinMove.refl _ _ _, fun h => absurd h (by decide)⟩ ?_ | refine qstep rfl rfl ⟨fun h => absurd h (by decide), fun _ => FinMove.refl _ _ _⟩ ?_ | refine qstep rfl rfl (FinMove.refl _ _ _) ?_ |     refine qstep rfl rfl (PureC.use hc1 (FinMove.refl _ _ _)) ?_ | refine qstep rfl rfl (PureC.use hc2 (FinMove.refl _ _ _)) ?_ |  refine qstep rfl rfl (PureC.use hc4 (FinMove.refl _ _ _)) ?_ |     refine qstep rfl rfl ⟨⟨oB, oB⟩, _, by assumption, by rfl, FinMove.refl _ _ _⟩ ?_ | refine qstep rfl rfl (.inl ⟨⟨oB, oB⟩, FinMove.refl _ _ _⟩) ?_ | refine qstep rfl rfl ⟨⟨oB, oB⟩, FinMove.refl _ _ _⟩ ?_ | refine qstep rfl rfl ⟨⟨oB, oB, oB⟩, FinMove.refl _ _ _⟩ ?_ | refine qstep rfl rfl ⟨⟨oB, oB, oB⟩, .inl rfl, FinMove.refl _ _ _⟩ ?_ | refine qstep rfl rfl ⟨_, rfl, _, rfl, FinMove.refl _ _ _⟩ ?_ | refine qstep rfl rfl ⟨_, rfl, FinMove.refl _ _ _⟩ ?_ | refine qstep rfl rfl ⟨_, rfl, Nat.le_refl _, FinMove.refl _ _ _⟩ ?_ | refine qstep rfl rfl ⟨Nat.le_refl _, FinMove.refl _ _ _⟩ ?_ | refine qstep rfl rfl ⟨by decide, FinMove.refl _ _ _⟩ ?_ | refine qstep rfl rfl ⟨show _ ≤ (9223372036854775807 : Nat) from oB, FinMove.refl _ _ _⟩ ?_ | fail)
     refine wR (k := ?_)
     exact ⟨_, _, fin_out rfl, rfl⟩
    | true =>
     rw [hv] at hc1 hal2
     refine wR (k := ?_)
     refine drawnT Tryz.wf Tryz.tab_ok Tryz.mixed (by decide +kernel) ?_; repeat' (first |       refine qskip rfl rfl ?_ | refine qstep (r := .d (.bool true)) rfl rfl (fin_eq (congrArg (fun b => AV.d (.bool b)) (decide_eq_true (by omega)))) ?_ | refine qstep (r := .d (.bool false)) rfl rfl (fin_eq (congrArg (fun b => AV.d (.bool b)) (decide_eq_false (by omega)))) ?_ | refine qstep rfl rfl ⟨fun _ => FinMove.refl _ _ _, fun h => absurd h (by decide)⟩ ?_ | refine qstep rfl rfl ⟨fun h => absurd h (by decide), fun _ => FinMove.refl _ _ _⟩ ?_ | refine qstep rfl rfl (FinMove.refl _ _ _) ?_ |     refine qstep rfl rfl (PureC.use hc1 (FinMove.refl _ _ _)) ?_ | refine qstep rfl rfl (PureC.use hc2 (FinMove.refl _ _ _)) ?_ |  refine qstep rfl rfl (PureC.use hc4 (FinMove.refl _ _ _)) ?_ |     refine qstep rfl rfl ⟨⟨oB, oB⟩, _, by assumption, by rfl, FinMove.refl _ _ _⟩ ?_ | refine qstep rfl rfl (.inl ⟨⟨oB, oB⟩, FinMove.refl _ _ _⟩) ?_ | refine qstep rfl rfl ⟨⟨oB, oB⟩, FinMove.refl _ _ _⟩ ?_ | refine qstep rfl rfl ⟨⟨oB, oB, oB⟩, FinMove.refl _ _ _⟩ ?_ | refine qstep rfl rfl ⟨⟨oB, oB, oB⟩, .inl rfl, FinMove.refl _ _ _⟩ ?_ | refine qstep rfl rfl ⟨_, rfl, _, rfl, FinMove.refl _ _ _⟩ ?_ | refine qstep rfl rfl ⟨_, rfl, FinMove.refl _ _ _⟩ ?_ | refine qstep rfl rfl ⟨_, rfl, Nat.le_refl _, FinMove.refl _ _ _⟩ ?_ | refine qstep rfl rfl ⟨Nat.le_refl _, FinMove.refl _ _ _⟩ ?_ | refine qstep rfl rfl ⟨by decide, FinMove.refl _ _ _⟩ ?_ | refine qstep rfl rfl ⟨show _ ≤ (9223372036854775807 : Nat) from oB, FinMove.refl _ _ _⟩ ?_ | fail)
     refine wR (k := ?_)
     exact ⟨_, _, _, ⟨j + 1, rfl, hltj, hal2, rfl, rfl⟩, by omega, Mv.of [.old 0, .old 1] rfl rfl rfl ⟨⟨rfl, .inl ⟨rfl, fun row h => by rw [List.mem_singleton.1 h]; rfl⟩⟩, ⟨rfl, .inl ⟨rfl, fun row h => by rw [List.mem_singleton.1 h]; rfl⟩⟩, trivial⟩ ⟨rfl, ⟨rfl, rfl, rfl⟩, rfl, ⟨rfl, rfl, rfl⟩, rfl, trivial⟩⟩
   ·have hj' : j = n.attrs.length := by omega
    subst hj'
    rw [List.take_length] at hJ
    rw [hJ, Bool.true_and] at hie
    have hc1 := rHas_ok p.el n.name (by have := hp.el.1; omega)
    have hc2 := rlinked_ok n f2
    unfold nodeA at hc2
    have hnA : decide (n.name = aN) = decide (n.name = [97]) := rfl
    rw [hnA] at hie
    generalize linkB n.attrs = lb at *
    by_cases hE : n.name ∈ p.el
    ·rw [decide_eq_true hE] at hc1 hie
     rw [Bool.and_true] at hie
     by_cases hA : n.name = [97]
     ·rw [decide_eq_true hA, Bool.not_true, Bool.false_or] at hie
      cases lb with
      | false =>
       rw [Bool.false_and] at hie
       rw [hno hie]
       clear hc4
       refine wR (k := ?_)
       exact ⟨_, _, fin_out rfl, rfl⟩
      | true =>
       rw [Bool.true_and] at hie
       rw [← hie] at hc4
       cases b with
       | false =>
        rw [hno rfl]
        refine wR (k := ?_)
        exact ⟨_, _, fin_out rfl, rfl⟩
       | true =>
        refine wR (k := ?_)
        exact ⟨_, _, _, ⟨k + 1, rfl, hlt, hal, rfl, rfl⟩, by omega, Mv.of [.old 0] rfl rfl rfl ⟨⟨rfl, .inl ⟨rfl, fun row h => by rw [List.mem_singleton.1 h]; rfl⟩⟩, trivial⟩ ⟨rfl, ⟨rfl, rfl, rfl⟩, rfl, trivial⟩⟩
     ·rw [decide_eq_false hA, Bool.not_false, Bool.true_or, Bool.true_and] at hie
      rw [← hie] at hc4
      clear hc2
      cases b with
      | false =>
       rw [hno rfl]
       refine wR (k := ?_)
       exact ⟨_, _, fin_out rfl, rfl⟩
      | true =>
       refine wR (k := ?_)
       exact ⟨_, _, _, ⟨k + 1, rfl, hlt, hal, rfl, rfl⟩, by omega, Mv.of [.old 0] rfl rfl rfl ⟨⟨rfl, .inl ⟨rfl, fun row h => by rw [List.mem_singleton.1 h]; rfl⟩⟩, trivial⟩ ⟨rfl, ⟨rfl, rfl, rfl⟩, rfl, trivial⟩⟩
    ·rw [decide_eq_false hE] at hc1 hie
     rw [Bool.and_false, Bool.false_and] at hie
     rw [hno hie]
     clear hc2 hc4
     refine wR (k := ?_)
     exact ⟨_, _, fin_out rfl, rfl⟩
 ·have hk' : k = l.length := by omega
  subst hk'
  rw [List.take_length] at hI
  rw [hI]
  refine wR (k := ?_)
  exact ⟨_, _, fin_out rfl, rfl⟩
set_option maxRecDepth 100000 in
set_option maxHeartbeats 1000000 in
theorem rSafe_ok (p : Pol) (l : List Node) (hp : Fits p) (hB : szL l ≤ 1000000000) (hF : FitL l) (hS : ShL l) : PureC Tryz.prog 8 [polA p, .d (.sl (nodesD l))] (.d (.bool (safeB p l))) := by
 have hc1 := rSize_ok (szL l) l (Nat.le_refl _) hB
 have hc2 := rStable_ok l hB hS
 have hc3 := rinner_ok p hp (szL l) l (Nat.le_refl _) hB hF
 unfold sizeV at hc1
 unfold safeB
 cases hs : stableB l with
 | false =>
  rw [hs] at hc2
  rw [Bool.false_and, Bool.and_false, Bool.and_false]
  clear hc3
  refine pure_okT Tryz.wf Tryz.tab_ok Tryz.func8 (by decide +kernel) rfl rfl rfl rfl ?_
  refine wR (k := ?_)
  exact ⟨_, _, fin_out rfl, rfl⟩
 | true =>
  rw [hs] at hc2
  rw [Bool.true_and]
  by_cases h1 : (szL l : Int) ≤ p.nd
  ·rw [decide_eq_true h1, Bool.true_and]
   by_cases h2 : (dpL l : Int) ≤ p.dp
   ·rw [decide_eq_true h2, Bool.true_and]
    refine pure_okT Tryz.wf Tryz.tab_ok Tryz.func8 (by decide +kernel) rfl rfl rfl rfl ?_
    refine wR (k := ?_)
    exact ⟨_, _, fin_out rfl, rfl⟩
   ·rw [decide_eq_false h2, Bool.false_and]
    clear hc3
    refine pure_okT Tryz.wf Tryz.tab_ok Tryz.func8 (by decide +kernel) rfl rfl rfl rfl ?_
    refine wR (k := ?_)
    exact ⟨_, _, fin_out rfl, rfl⟩
  ·rw [decide_eq_false h1, Bool.false_and]
   clear hc3
   refine pure_okT Tryz.wf Tryz.tab_ok Tryz.func8 (by decide +kernel) rfl rfl rfl rfl ?_
   refine wR (k := ?_)
   exact ⟨_, _, fin_out rfl, rfl⟩
set_option maxRecDepth 100000 in
set_option maxHeartbeats 2000000 in
theorem SafeTells_ok (p : Pol) (l : List Node) : PureC Tryz.prog 3 [polA p, .d (.sl (nodesD l))] (.d (.bool true)) := by
 have hc1 := awake_ok
 have hc2 := pLight_ok p
 cases hlp : lightP p with
 | false =>
  rw [hlp] at hc2
  refine pure_okT Tryz.wf Tryz.tab_ok Tryz.func3 (by decide +kernel) rfl rfl rfl rfl ?_
  refine wR (k := ?_)
  refine Light_at l _ fun b hb => ?_
  refine wR (k := ?_)
  exact ⟨_, _, fin_out rfl, rfl⟩
 | true =>
  rw [hlp] at hc2
  have hp := light_fits hlp
  refine pure_okT Tryz.wf Tryz.tab_ok Tryz.func3 (by decide +kernel) rfl rfl rfl rfl ?_
  refine wR (k := ?_)
  refine Light_at l _ fun b hb => ?_
  cases b with
  | false =>
   refine wR (k := ?_)
   exact ⟨_, _, fin_out rfl, rfl⟩
  | true =>
   have hw := hb rfl
   clear hb
   have hc3 := Safe_light p l hp hw
   have hc4 := rSafe_ok p l hp (by have := sz_wtL l; omega) (Fit_wtL l (by omega)) (Sh_wtL l (by omega))
   generalize safeB p l = b at *
   cases b with
   | false =>
    have hq1 : (false == false) = true := rfl
    refine wR (k := ?_)
    refine drawnT Tryz.wf Tryz.tab_ok Tryz.mixed (by decide +kernel) ?_; repeat' (first | refine qstep rfl rfl (fin_eq (congrArg (fun b => AV.d (.bool b)) hq1)) ?_ |      refine qskip rfl rfl ?_ | refine qstep (r := .d (.bool true)) rfl rfl (fin_eq (congrArg (fun b => AV.d (.bool b)) (decide_eq_true (by omega)))) ?_ | refine qstep (r := .d (.bool false)) rfl rfl (fin_eq (congrArg (fun b => AV.d (.bool b)) (decide_eq_false (by omega)))) ?_ | refine qstep rfl rfl ⟨fun _ => FinMove.refl _ _ _, fun h => absurd h (by decide)⟩ ?_ | refine qstep rfl rfl ⟨fun h => absurd h (by decide), fun _ => FinMove.refl _ _ _⟩ ?_ | refine qstep rfl rfl (FinMove.refl _ _ _) ?_ |     refine qstep rfl rfl (PureC.use hc1 (FinMove.refl _ _ _)) ?_ | refine qstep rfl rfl (PureC.use hc2 (FinMove.refl _ _ _)) ?_ | refine qstep rfl rfl (PureC.use hc3 (FinMove.refl _ _ _)) ?_ | refine qstep rfl rfl (PureC.use hc4 (FinMove.refl _ _ _)) ?_ |     refine qstep rfl rfl ⟨⟨oB, oB⟩, _, by assumption, by rfl, FinMove.refl _ _ _⟩ ?_ | refine qstep rfl rfl (.inl ⟨⟨oB, oB⟩, FinMove.refl _ _ _⟩) ?_ | refine qstep rfl rfl ⟨⟨oB, oB⟩, FinMove.refl _ _ _⟩ ?_ | refine qstep rfl rfl ⟨⟨oB, oB, oB⟩, FinMove.refl _ _ _⟩ ?_ | refine qstep rfl rfl ⟨⟨oB, oB, oB⟩, .inl rfl, FinMove.refl _ _ _⟩ ?_ | refine qstep rfl rfl ⟨_, rfl, _, rfl, FinMove.refl _ _ _⟩ ?_ | refine qstep rfl rfl ⟨_, rfl, FinMove.refl _ _ _⟩ ?_ | refine qstep rfl rfl ⟨_, rfl, Nat.le_refl _, FinMove.refl _ _ _⟩ ?_ | refine qstep rfl rfl ⟨Nat.le_refl _, FinMove.refl _ _ _⟩ ?_ | refine qstep rfl rfl ⟨by decide, FinMove.refl _ _ _⟩ ?_ | refine qstep rfl rfl ⟨show _ ≤ (9223372036854775807 : Nat) from oB, FinMove.refl _ _ _⟩ ?_ | fail)
    refine wR (k := ?_)
    exact ⟨_, _, fin_out rfl, rfl⟩
   | true =>
    have hq1 : (true == true) = true := rfl
    refine wR (k := ?_)
    refine drawnT Tryz.wf Tryz.tab_ok Tryz.mixed (by decide +kernel) ?_; repeat' (first | refine qstep rfl rfl (fin_eq (congrArg (fun b => AV.d (.bool b)) hq1)) ?_ |      refine qskip rfl rfl ?_ | refine qstep (r := .d (.bool true)) rfl rfl (fin_eq (congrArg (fun b => AV.d (.bool b)) (decide_eq_true (by omega)))) ?_ | refine qstep (r := .d (.bool false)) rfl rfl (fin_eq (congrArg (fun b => AV.d (.bool b)) (decide_eq_false (by omega)))) ?_ | refine qstep rfl rfl ⟨fun _ => FinMove.refl _ _ _, fun h => absurd h (by decide)⟩ ?_ | refine qstep rfl rfl ⟨fun h => absurd h (by decide), fun _ => FinMove.refl _ _ _⟩ ?_ | refine qstep rfl rfl (FinMove.refl _ _ _) ?_ |     refine qstep rfl rfl (PureC.use hc1 (FinMove.refl _ _ _)) ?_ | refine qstep rfl rfl (PureC.use hc2 (FinMove.refl _ _ _)) ?_ | refine qstep rfl rfl (PureC.use hc3 (FinMove.refl _ _ _)) ?_ | refine qstep rfl rfl (PureC.use hc4 (FinMove.refl _ _ _)) ?_ |     refine qstep rfl rfl ⟨⟨oB, oB⟩, _, by assumption, by rfl, FinMove.refl _ _ _⟩ ?_ | refine qstep rfl rfl (.inl ⟨⟨oB, oB⟩, FinMove.refl _ _ _⟩) ?_ | refine qstep rfl rfl ⟨⟨oB, oB⟩, FinMove.refl _ _ _⟩ ?_ | refine qstep rfl rfl ⟨⟨oB, oB, oB⟩, FinMove.refl _ _ _⟩ ?_ | refine qstep rfl rfl ⟨⟨oB, oB, oB⟩, .inl rfl, FinMove.refl _ _ _⟩ ?_ | refine qstep rfl rfl ⟨_, rfl, _, rfl, FinMove.refl _ _ _⟩ ?_ | refine qstep rfl rfl ⟨_, rfl, FinMove.refl _ _ _⟩ ?_ | refine qstep rfl rfl ⟨_, rfl, Nat.le_refl _, FinMove.refl _ _ _⟩ ?_ | refine qstep rfl rfl ⟨Nat.le_refl _, FinMove.refl _ _ _⟩ ?_ | refine qstep rfl rfl ⟨by decide, FinMove.refl _ _ _⟩ ?_ | refine qstep rfl rfl ⟨show _ ≤ (9223372036854775807 : Nat) from oB, FinMove.refl _ _ _⟩ ?_ | fail)
    refine wR (k := ?_)
    exact ⟨_, _, fin_out rfl, rfl⟩
theorem SafeTells_law {n n' : Nat} {r r' : List D} (h : DOk Tryz.prog n 24 r) (h' : DOk Tryz.prog n' 25 r') : PureC Tryz.prog 3 [argAV Tryz.prog 24 r, argAV Tryz.prog 25 r'] (.d (.bool true)) := by
 obtain ⟨p, rfl⟩ := dok_pol h
 obtain ⟨l, rfl⟩ := dok_nodes n' h'
 rw [arg_pol, arg_nodes]; exact SafeTells_ok p l
end Go.Proofs.YtfchacihhljfhaaGreatDoor
