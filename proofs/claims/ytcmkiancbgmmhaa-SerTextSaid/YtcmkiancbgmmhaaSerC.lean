import Derived.Test.YtcmkiancbgmmhaaSerB
namespace Go.Proofs.Ytcmkiancbgmmhaa
open Go.Aw
set_option maxHeartbeats 1600000
set_option linter.unusedSimpArgs false
set_option linter.unusedVariables false

/-- A node as a value. -/
def nodeA (n : Node) : AV := .agg [.d (.str n.name), .d (.sl (attrsD n.attrs)), .d (.str n.text), .d (.sl (nodesD n.kids))]

theorem mlook_mput (x k : List UInt8) (v : AV) : ∀ es, strKeys es → mlook x (mput k v es) = if x = k then some v else mlook x es := by
  intro es
  induction es with
  | nil => intro _; simp [mput, mlook]
  | cons e r ih =>
    intro hk
    obtain ⟨s, hs⟩ := hk e (by simp)
    obtain ⟨a, u⟩ := e
    simp only at hs
    subst hs
    have ih' := ih (fun y hy => hk y (by simp [hy]))
    simp only [mput]
    by_cases h1 : k = s
    · subst h1
      rw [if_pos rfl]
      simp only [mlook]
      by_cases h2 : x = k <;> simp [h2]
    · rw [if_neg h1]
      simp only [mlook]
      by_cases h2 : x = s
      · subst h2; rw [if_pos rfl, if_pos rfl, if_neg (fun e => h1 e.symm)]
      · rw [if_neg h2, if_neg h2, ih']
theorem strKeys_mput (k : List UInt8) (v : AV) : ∀ es, strKeys es → strKeys (mput k v es) := by
  intro es
  induction es with
  | nil => intro _ e he; simp [mput] at he; subst he; exact ⟨k, rfl⟩
  | cons e r ih =>
    intro hk
    obtain ⟨s, hs⟩ := hk e (by simp)
    obtain ⟨a, u⟩ := e
    simp only at hs
    subst hs
    have ih' := ih (fun y hy => hk y (by simp [hy]))
    simp only [mput]
    by_cases h1 : k = s
    · rw [if_pos h1]
      intro y hy
      rcases List.mem_cons.1 hy with rfl | hy
      · exact ⟨k, rfl⟩
      · exact hk y (by simp [hy])
    · rw [if_neg h1]
      intro y hy
      rcases List.mem_cons.1 hy with rfl | hy
      · exact ⟨s, rfl⟩
      · exact ih' y hy

theorem pure_mput (k : List UInt8) (v : AV) (hv : v.pure = true) : ∀ es : List (AV × AV), (∀ e ∈ es, e.1.pure = true ∧ e.2.pure = true) → ∀ e ∈ mput k v es, e.1.pure = true ∧ e.2.pure = true := by
  intro es
  induction es with
  | nil => intro _ e he; simp [mput] at he; subst he; exact ⟨rfl, hv⟩
  | cons e r ih =>
    intro hk
    have ih' := ih (fun y hy => hk y (by simp [hy]))
    have h0 := hk e (by simp)
    have h1 : ∀ y ∈ r, y.1.pure = true ∧ y.2.pure = true := fun y hy => hk y (by simp [hy])
    have other : ∀ y ∈ e :: mput k v r, y.1.pure = true ∧ y.2.pure = true := fun y hy => by
      rcases List.mem_cons.1 hy with rfl | hy
      · exact h0
      · exact ih' y hy
    unfold mput
    split
    · rename_i heq; simp at heq
    · rename_i s u r' heq
      obtain ⟨rfl, rfl⟩ := List.cons.inj heq
      split
      · intro y hy
        rcases List.mem_cons.1 hy with rfl | hy
        · exact ⟨rfl, hv⟩
        · exact h1 y hy
      · exact other
    · rename_i x r' hne heq
      obtain ⟨rfl, rfl⟩ := List.cons.inj heq
      exact other

def nodeO (n : Node) : Ob := .rows (4, 29) [[.d (.str n.name), .d (.sl (attrsD n.attrs)), .d (.str n.text), .d (.sl (nodesD n.kids))]]

set_option maxRecDepth 100000 in
theorem own_ok (n : Node) (hn : n.name.length ≤ 1000000000) (hl : Short n.attrs) : PureC Try.prog 45 [nodeA n] (.d (.bool (ownB n))) := by
  refine PureC.of rfl rfl (fn_okTE Try.wf Try.tab_ok Try.func45 (by decide +kernel) rfl rfl ?_)
  have ha := attrsD_len n.attrs
  have hk := nodesD_len n.kids
  have c1 := tRaw_ok n.name
  rw [rawV_fst] at c1
  have c2 := small_ok n.name [45] (by omega) (by decide)
  have c3 := Void_ok n.name
  have hO : ownB n = (!(rawB n.name || !small n.name [45] || !decide (n.text = []) || decide (n.name ∈ voids) && !decide (n.kids = [])) && attrsFrom [] n.attrs) := rfl
  have hkz : decide ((0 : Int) < ((nodesD n.kids).length : Nat)) = !decide (n.kids = []) := by
    rw [hk]; cases n.kids <;> simp
  have no : ∀ σ : Store, ownB n = false → ∃ r2 σ2, FinMove ⟨0, []⟩ (AV.d (.bool false)) σ r2 σ2 ∧ r2 = AV.d (.bool (ownB n)) ∧ σ2.n = 0 := fun σ h => ⟨_, _, fin_out rfl, by rw [h], rfl⟩
  refine E.seq (E.of Try.wf Try.tab_ok ?_)
  rw [hO] at no ⊢
  refine midT Try.wf Try.tab_ok (fun s' σ => (!(rawB n.name || !small n.name [45] || !decide (n.text = []) || decide (n.name ∈ voids) && !decide (n.kids = []))) = true ∧ s' = [(1, .ref 0 0 0)] ∧ σ = ⟨1, [(0, nodeO n)]⟩) ?_ ?_
  · have hz0 : n.kids = [] → decide (n.kids = []) = true := fun h => decide_eq_true h
    refine ⟨_, rfl, _, rfl, ?_⟩
    refine PureC.use c1 ?_
    generalize rawB n.name = b1 at *
    cases b1 with
    | true =>
      repeat (first | refine ⟨fun _ => ?_, fun h => absurd h (by decide)⟩ | refine ⟨fun h => absurd h (by decide), fun _ => ?_⟩)
      exact no _ rfl
    | false =>
      repeat (first | refine ⟨fun _ => ?_, fun h => absurd h (by decide)⟩ | refine ⟨fun h => absurd h (by decide), fun _ => ?_⟩)
      refine ⟨_, rfl, _, rfl, ?_⟩
      refine PureC.use c2 ?_
      generalize small n.name [45] = b2 at *
      cases b2 with
      | false =>
        repeat (first | refine ⟨fun _ => ?_, fun h => absurd h (by decide)⟩ | refine ⟨fun h => absurd h (by decide), fun _ => ?_⟩)
        exact no _ rfl
      | true =>
        repeat (first | refine ⟨fun _ => ?_, fun h => absurd h (by decide)⟩ | refine ⟨fun h => absurd h (by decide), fun _ => ?_⟩)
        refine ⟨_, rfl, _, rfl, ?_⟩
        by_cases ht : n.text = []
        · rw [decide_eq_true ht] at no ⊢
          refine ⟨fun _ => ?_, fun h => absurd h (by rw [ht]; decide)⟩
          refine ⟨_, rfl, _, rfl, ?_⟩
          refine PureC.use c3 ?_
          generalize decide (n.name ∈ voids) = b3 at *
          cases b3 with
          | true =>
            repeat (first | refine ⟨fun _ => ?_, fun h => absurd h (by decide)⟩ | refine ⟨fun h => absurd h (by decide), fun _ => ?_⟩)
            refine ⟨_, rfl, _, rfl, ?_⟩
            by_cases hz : n.kids = []
            · rw [decide_eq_true hz] at hkz ⊢
              refine ⟨fun h => absurd (h.symm.trans hkz) (by decide), fun _ => ?_⟩
              exact ⟨_, _, ⟨rfl, rfl, rfl⟩, Mv.of [.old 0] rfl rfl rfl ⟨⟨rfl, .inl ⟨rfl, fun row h => by rw [List.mem_singleton.1 h]; rfl⟩⟩, trivial⟩ ⟨⟨rfl, rfl, rfl⟩, trivial⟩⟩
            · rw [decide_eq_false hz] at no hkz ⊢
              refine ⟨fun _ => no _ rfl, fun h => absurd (h.symm.trans hkz) (by decide)⟩
          | false =>
            repeat (first | refine ⟨fun _ => ?_, fun h => absurd h (by decide)⟩ | refine ⟨fun h => absurd h (by decide), fun _ => ?_⟩)
            exact ⟨_, _, ⟨rfl, rfl, rfl⟩, Mv.of [.old 0] rfl rfl rfl ⟨⟨rfl, .inl ⟨rfl, fun row h => by rw [List.mem_singleton.1 h]; rfl⟩⟩, trivial⟩ ⟨⟨rfl, rfl, rfl⟩, trivial⟩⟩
        · rw [decide_eq_false ht] at no ⊢
          refine ⟨fun h => absurd h (by show ¬ (!decide (n.text = [])) = false; rw [decide_eq_false ht]; decide), fun _ => ?_⟩
          exact no _ rfl
  · rintro _ _ ⟨hQ, rfl, rfl⟩
    rw [hQ] at no ⊢
    rw [Bool.true_and] at no ⊢
    unfold nodeO
    generalize n.attrs = l at *
    generalize n.name = na at *
    generalize n.text = nt at *
    generalize nodesD n.kids = nk at *
    refine E.seq (E.of Try.wf Try.tab_ok ?_)
    refine E.seq (E.of Try.wf Try.tab_ok ?_)
    refine ⟨_, rfl, _, rfl, ?_⟩
    refine loopT Try.wf Try.tab_ok (fun m s' σ => ∃ (k : Nat) (es : List (AV × AV)), m = l.length - k ∧ k ≤ l.length ∧ attrsFrom ((l.take k).map Prod.fst) (l.drop k) = attrsFrom [] l ∧ strKeys es ∧ (∀ e ∈ es, e.1.pure = true ∧ e.2.pure = true) ∧ (∀ x, mlook x es = if x ∈ (l.take k).map Prod.fst then some (.d (.bool true)) else none) ∧ s' = [(5, .mp 0), (39, .d (.sl (attrsD l))), (40, .d (.int .i64 l.length)), (41, .d (.int .i64 k))] ∧ σ = ⟨1, [(0, .map es)]⟩)
      ⟨0, [], rfl, Nat.zero_le _, rfl, fun e he => by simp at he, fun e he => by simp at he, fun x => by simp [mlook], rfl, rfl⟩ (Mv.of [.old 1] rfl rfl rfl ⟨.inl ⟨rfl, fun e he => by simp at he⟩, trivial⟩ ⟨rfl, rfl, by rw [← ha]; rfl, rfl, trivial⟩) ?_
    rintro _ _ _ ⟨k, es, rfl, hk', hI, hes, hpu, hml, rfl, rfl⟩
    have hl1 := hl.1
    refine ⟨fun h => ?_, fun h => ?_⟩
    · have hlt : k < l.length := by have := of_decide_eq_true h; omega
      clear h
      rw [List.drop_eq_getElem_cons hlt, attrsFrom] at hI
      have hsm : attrsFrom ((l.take (k + 1)).map Prod.fst) (l.drop (k + 1)) = attrsFrom ((l.take k).map Prod.fst ++ [l[k].1]) (l.drop (k + 1)) := by rw [List.take_succ_eq_append_getElem hlt, List.map_append]; rfl
      have htk : (l.take (k + 1)).map Prod.fst = (l.take k).map Prod.fst ++ [l[k].1] := by rw [List.take_succ_eq_append_getElem hlt, List.map_append]; rfl
      have c5 := small_ok l[k].1 [45, 95, 58] (by have := (hl.2 _ (List.getElem_mem hlt)).1; omega) (by decide)
      refine ⟨⟨by omega, by rw [ha]; omega⟩, _, attrsD_get l k hlt, rfl, ?_⟩
      refine ⟨Nat.le_refl _, _, rfl, rfl, Nat.le_refl _, ?_⟩
      refine ⟨_, rfl, _, rfl, ?_⟩
      refine PureC.use c5 ?_
      generalize small l[k].1 [45, 95, 58] = b1 at *
      have no2 : ∀ σ : Store, attrsFrom [] l = false → ∃ r2 σ2, FinMove ⟨0, []⟩ (AV.d (.bool false)) σ r2 σ2 ∧ r2 = AV.d (.bool (attrsFrom [] l)) ∧ σ2.n = 0 := fun σ h => ⟨_, _, fin_out rfl, by rw [h], rfl⟩
      cases b1 with
      | false =>
        repeat (first | refine ⟨fun _ => ?_, fun h => absurd h (by decide)⟩ | refine ⟨fun h => absurd h (by decide), fun _ => ?_⟩)
        exact no2 _ hI.symm
      | true =>
        repeat (first | refine ⟨fun _ => ?_, fun h => absurd h (by decide)⟩ | refine ⟨fun h => absurd h (by decide), fun _ => ?_⟩)
        refine ⟨_, rfl, _, rfl, ?_⟩
        have hm := hml l[k].1
        refine ⟨rfl, es, _, rfl, hes, rfl, rfl, ?_⟩
        by_cases hin : l[k].1 ∈ (l.take k).map Prod.fst
        · rw [if_pos hin] at hm
          rw [decide_eq_true hin] at hI
          rw [hm]
          repeat (first | refine ⟨fun _ => ?_, fun h => absurd h (by decide)⟩ | refine ⟨fun h => absurd h (by decide), fun _ => ?_⟩)
          exact no2 _ hI.symm
        · rw [if_neg hin] at hm
          rw [decide_eq_false hin] at hI
          rw [hm]
          repeat (first | refine ⟨fun _ => ?_, fun h => absurd h (by decide)⟩ | refine ⟨fun h => absurd h (by decide), fun _ => ?_⟩)
          refine ⟨_, rfl, _, rfl, ?_⟩
          refine ⟨rfl, es, rfl, hes, ?_⟩
          repeat (first | refine ⟨fun _ => ?_, fun h => absurd (of_decide_eq_false h) (by omega)⟩ | refine ⟨fun h => absurd (of_decide_eq_true h) (by omega), fun _ => ?_⟩ | refine ⟨fun _ => ?_, fun h => absurd (of_decide_eq_true h) (by omega)⟩ | refine ⟨fun h => absurd (of_decide_eq_false h) (by omega), fun _ => ?_⟩ | refine .inl ⟨⟨by omega, by omega⟩, ?_⟩ | refine ⟨⟨by omega, by omega⟩, ?_⟩)
          refine ⟨_, _, _, ⟨k + 1, _, rfl, hlt, hsm.trans hI, strKeys_mput _ _ _ hes, pure_mput _ _ rfl _ hpu, fun x => ?_, rfl, rfl⟩, by omega, Mv.of [.old 0] rfl rfl rfl ⟨.inl ⟨rfl, pure_mput _ _ rfl _ hpu⟩, trivial⟩ ⟨rfl, rfl, rfl, rfl, trivial⟩⟩
          rw [mlook_mput _ _ _ _ hes, htk]
          simp only [List.mem_append, List.mem_singleton]
          by_cases hx : x = l[k].1
          · rw [if_pos hx, if_pos (Or.inr hx)]; rfl
          · rw [if_neg hx, hml x]
            by_cases hx2 : x ∈ (l.take k).map Prod.fst
            · rw [if_pos hx2, if_pos (Or.inl hx2)]
            · rw [if_neg hx2, if_neg (fun h => h.elim hx2 hx)]
    · refine E.of Try.wf Try.tab_ok ?_
      have hk2 : k = l.length := by have := of_decide_eq_false h; omega
      subst hk2
      refine ⟨_, _, fin_out rfl, congrArg (fun b => AV.d (.bool b)) ?_, rfl⟩
      rw [← hI, List.drop_length]; rfl

end Go.Proofs.Ytcmkiancbgmmhaa
