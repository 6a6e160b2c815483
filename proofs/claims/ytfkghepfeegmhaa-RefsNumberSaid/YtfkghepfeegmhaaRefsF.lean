import Derived.Test.YtfkghepfeegmhaaRefsE
namespace Go.Proofs.Ytfkghepfeegmhaa
open Go.Aw

theorem ints_get (l : List Int) (k : Nat) (h : k < l.length) : (intsD l)[((k : Nat) : Int).toNat]? = some [.int .i64 l[k]] := by simp [intsD, h]
theorem tab_pos : ∀ e ∈ nameTab, 0 ≤ e.2 ∧ e.2 ≤ 65535 ∧ fixN e.2 = e.2 := by decide

set_option maxRecDepth 100000 in
theorem rNamed_ok (s : List UInt8) : PureC Try.prog 13 [.d (.str s)] (optV (named s)) := by
  refine pure_okT Try.wf Try.tab_ok Try.func13 (by decide +kernel) rfl rfl rfl (optV_pure _) ?_
  have hn := strsD_len nmL
  have hnl : nmL.length = 22 := rfl
  refine PureC.use names_ok ?_
  refine loopT Try.wf Try.tab_ok (fun n s' σ => ∃ k : Nat, n = 22 - k ∧ k ≤ 22 ∧ (∀ j (hj : j < nameTab.length), j < k → nameTab[j].1 ≠ s) ∧ s' = [(0, .d (.str s)), (4, .d (.sl (strsD nmL))), (5, .d (.int .i64 k))] ∧ σ = ⟨0, []⟩)
    ⟨0, rfl, Nat.zero_le _, fun j _ h => absurd h (by omega), rfl, rfl⟩ (Mv.of [] rfl rfl rfl trivial ⟨rfl, rfl, rfl, trivial⟩) ?_
  rintro _ _ _ ⟨k, rfl, hk, hI, rfl, rfl⟩
  refine ⟨fun h => ?_, fun h => ?_⟩
  · have hlt : k < 22 := by have := of_decide_eq_true h; rw [hn, hnl] at this; omega
    have hlt' : k < nameTab.length := hlt
    have hge : nmL[k]'hlt = nameTab[k].1 := by simp [nmL]
    have hlt2 : k < (nameTab.map (·.2)).length := hlt
    have hge2 : (nameTab.map (·.2))[k]'hlt2 = nameTab[k].2 := List.getElem_map _
    refine ⟨⟨by omega, by rw [hn, hnl]; omega⟩, _, strsD_get nmL k hlt, rfl, _, rfl, fun h1 => ?_, fun h1 => ?_⟩
    · have h1' : nameTab[k].1 = s := hge ▸ of_decide_eq_true h1
      refine PureC.use numbers_ok ⟨⟨by omega, by show (k : Int) < ((intsD (nameTab.map (·.2))).length : Int); rw [show (intsD (nameTab.map (·.2))).length = 22 from rfl]; omega⟩, _, ints_get _ k hlt2, rfl, _, rfl, ?_⟩
      rw [hge2]
      have hp := tab_pos nameTab[k] (List.getElem_mem hlt')
      have c := Char_ok nameTab[k].2 hp.1 (by omega)
      rw [hp.2.2] at c
      refine PureC.use c ?_
      exact ⟨_, _, fin_out rfl, by rw [named_hit hlt' hI h1']; rfl⟩
    · have h1' : ¬ nameTab[k].1 = s := hge ▸ of_decide_eq_false h1
      refine .inl ⟨⟨by omega, by omega⟩, _, _, _, ⟨k + 1, rfl, hlt, fun j hj hjk => ?_, rfl, rfl⟩, by omega, Mv.of [] rfl rfl rfl trivial ⟨rfl, rfl, rfl, trivial⟩⟩
      by_cases hj2 : j = k
      · subst hj2; exact h1'
      · exact hI j hj (by omega)
  · have hk' : k = 22 := by have := of_decide_eq_false h; rw [hn, hnl] at this; omega
    subst hk'
    exact ⟨_, _, fin_out rfl, by rw [named_miss (fun j hj => hI j hj hj)]; rfl⟩

def digV (c : UInt8) (b : Nat) : Int := match hexv c with
  | some d => if d < b then d else 99
  | none => 99
set_option maxRecDepth 100000 in
theorem digit_ok (c : UInt8) (b : Nat) (hb : b ≤ 16) : PureC Try.prog 41 [.d (.int .u8 c.toNat), .d (.int .i64 b)] (.d (.int .i64 (digV c b))) := by
  refine pure_okT Try.wf Try.tab_ok Try.func41 (by decide +kernel) rfl rfl rfl rfl ?_
  have hu := c.toNat_lt
  have fin : ∀ (x : Int) (σ : Store), x = digV c b → ∃ r2 σ2, FinMove ⟨0, []⟩ (AV.d (.int .i64 x)) σ r2 σ2 ∧ r2 = AV.d (.int .i64 (digV c b)) := fun x σ h => ⟨_, _, fin_out rfl, by rw [h]⟩
  by_cases h1 : 48 ≤ c.toNat ∧ c.toNat ≤ 57
  · have hx : hexv c = some (c.toNat - 48) := by unfold hexv; rw [if_pos h1]
    by_cases h2 : c.toNat - 48 < b
    · repeat (first | refine ⟨fun _ => ?_, fun h => absurd (of_decide_eq_false h) (by omega)⟩ | refine ⟨fun h => absurd (of_decide_eq_true h) (by omega), fun _ => ?_⟩ | refine ⟨fun _ => ?_, fun h => absurd (of_decide_eq_true h) (by omega)⟩ | refine ⟨fun h => absurd (of_decide_eq_false h) (by omega), fun _ => ?_⟩ | refine .inl ⟨⟨by omega, by omega⟩, ?_⟩ | refine ⟨⟨by omega, by omega⟩, ?_⟩)
      exact fin _ _ (by simp only [digV, hx]; rw [if_pos h2]; omega)
    · repeat (first | refine ⟨fun _ => ?_, fun h => absurd (of_decide_eq_false h) (by omega)⟩ | refine ⟨fun h => absurd (of_decide_eq_true h) (by omega), fun _ => ?_⟩ | refine ⟨fun _ => ?_, fun h => absurd (of_decide_eq_true h) (by omega)⟩ | refine ⟨fun h => absurd (of_decide_eq_false h) (by omega), fun _ => ?_⟩ | refine .inl ⟨⟨by omega, by omega⟩, ?_⟩ | refine ⟨⟨by omega, by omega⟩, ?_⟩)
      exact fin _ _ (by simp only [digV, hx]; rw [if_neg h2])
  · by_cases h3 : 97 ≤ c.toNat ∧ c.toNat ≤ 102
    · have hx : hexv c = some (c.toNat - 87) := by unfold hexv; rw [if_neg h1, if_pos h3]
      by_cases h2 : c.toNat - 87 < b
      · by_cases h4 : 48 ≤ c.toNat ∧ c.toNat ≤ 57
        · omega
        · repeat (first | refine ⟨fun _ => ?_, fun h => absurd (of_decide_eq_false h) (by omega)⟩ | refine ⟨fun h => absurd (of_decide_eq_true h) (by omega), fun _ => ?_⟩ | refine ⟨fun _ => ?_, fun h => absurd (of_decide_eq_true h) (by omega)⟩ | refine ⟨fun h => absurd (of_decide_eq_false h) (by omega), fun _ => ?_⟩ | refine .inl ⟨⟨by omega, by omega⟩, ?_⟩ | refine ⟨⟨by omega, by omega⟩, ?_⟩)
          exact fin _ _ (by simp only [digV, hx]; rw [if_pos h2]; omega)
      · repeat (first | refine ⟨fun _ => ?_, fun h => absurd (of_decide_eq_false h) (by omega)⟩ | refine ⟨fun h => absurd (of_decide_eq_true h) (by omega), fun _ => ?_⟩ | refine ⟨fun _ => ?_, fun h => absurd (of_decide_eq_true h) (by omega)⟩ | refine ⟨fun h => absurd (of_decide_eq_false h) (by omega), fun _ => ?_⟩ | refine .inl ⟨⟨by omega, by omega⟩, ?_⟩ | refine ⟨⟨by omega, by omega⟩, ?_⟩)
        exact fin _ _ (by simp only [digV, hx]; rw [if_neg h2])
    · by_cases h4 : 65 ≤ c.toNat ∧ c.toNat ≤ 70
      · have hx : hexv c = some (c.toNat - 55) := by unfold hexv; rw [if_neg h1, if_neg h3, if_pos h4]
        by_cases h2 : c.toNat - 55 < b
        · repeat (first | refine ⟨fun _ => ?_, fun h => absurd (of_decide_eq_false h) (by omega)⟩ | refine ⟨fun h => absurd (of_decide_eq_true h) (by omega), fun _ => ?_⟩ | refine ⟨fun _ => ?_, fun h => absurd (of_decide_eq_true h) (by omega)⟩ | refine ⟨fun h => absurd (of_decide_eq_false h) (by omega), fun _ => ?_⟩ | refine .inl ⟨⟨by omega, by omega⟩, ?_⟩ | refine ⟨⟨by omega, by omega⟩, ?_⟩)
          exact fin _ _ (by simp only [digV, hx]; rw [if_pos h2]; omega)
        · repeat (first | refine ⟨fun _ => ?_, fun h => absurd (of_decide_eq_false h) (by omega)⟩ | refine ⟨fun h => absurd (of_decide_eq_true h) (by omega), fun _ => ?_⟩ | refine ⟨fun _ => ?_, fun h => absurd (of_decide_eq_true h) (by omega)⟩ | refine ⟨fun h => absurd (of_decide_eq_false h) (by omega), fun _ => ?_⟩ | refine .inl ⟨⟨by omega, by omega⟩, ?_⟩ | refine ⟨⟨by omega, by omega⟩, ?_⟩)
          exact fin _ _ (by simp only [digV, hx]; rw [if_neg h2])
      · have hx : hexv c = none := by unfold hexv; rw [if_neg h1, if_neg h3, if_neg h4]
        (repeat' first | refine ⟨fun _ => ?_, fun _ => ?_⟩ | fail)
        all_goals first
          | exact fin _ _ (by simp only [digV, hx])
          | (exfalso; simp only [decide_eq_true_eq, decide_eq_false_iff_not] at *; omega)

end Go.Proofs.Ytfkghepfeegmhaa
