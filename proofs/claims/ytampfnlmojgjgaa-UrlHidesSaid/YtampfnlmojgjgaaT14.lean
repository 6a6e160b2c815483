import Derived.Test.YtampfnlmojgjgaaT13
namespace Go.Proofs.Ytampfnlmojgjgaa
open Go.Aw

theorem data_rows1 (l : List (List UInt8)) : ∀ r ∈ strsD l, r.length = 1 := by
  intro r hr
  obtain ⟨s, _, rfl⟩ := List.mem_map.1 hr
  rfl
theorem strs_snoc (l : List (List UInt8)) (m : List UInt8) : (strsD l).map (fun r => r.map AV.d) ++ [[.d (.str m)]] = (strsD (l ++ [m])).map (fun r => r.map AV.d) := by simp [strsD]

set_option maxRecDepth 10000 in
theorem UrlMore_ok (s : List UInt8) (l : List (List UInt8)) (m : List UInt8) : PureC Try.prog 6 [.d (.str s), .d (.sl (strsD l)), .d (.str m)] (.d (.bool true)) := by
  refine pure_okT Try.wf Try.tab_ok Try.func6 (by decide +kernel) rfl rfl rfl rfl ?_
  refine PureC.use awake_ok ⟨fun h1 => ⟨fun h2 => ⟨fun h3 => ?_, fun h3 => ?_⟩, fun h2 => ?_⟩, fun h1 => ?_⟩
  · exact ⟨_, _, FinMove.refl _ _ _, rfl⟩
  · have hs : s.length ≤ 1000 := by have := of_decide_eq_false h1; omega
    have hl : l.length ≤ 100 := by have := of_decide_eq_false h2; rw [strsD_len] at this; omega
    have hm : m.length ≤ 1000 := by have := of_decide_eq_false h3; omega
    have e1 := allowed_more s l m
    have e2 := allowed_one s m
    have c1 := Scheme_ok s (by omega)
    have c2 := Allowed_ok s l (by omega) (by omega)
    have c3 := Allowed_ok s (l ++ [m]) (by omega) (by simp; omega)
    have c4 := Allowed_ok s [m] (by omega) (by simp)
    rw [schemeV] at c1
    generalize schemeS s = x at *
    generalize schemeB s = y at *
    generalize allowed s l = a at *
    generalize allowed s (l ++ [m]) = b at *
    generalize allowed s [m] = c at *
    refine PureC.use c1 (PureC.use c2 ?_)
    refine ⟨_, _, rfl, rfl, rfl, trivial, ?_, Nat.le_refl _, by decide, rfl, rfl, rowsNone, dataRows (data_rows1 l), ?_⟩
    · rw [List.length_map, strsD_len]
      show (0 + l.length) * 16 ≤ _
      omega
    refine ⟨(strsD l).map (fun r => r.map AV.d), _, congrArg some (takeAll (by simp)), rfl, (by show List.length _ = _; simp), rfl, ?_, Nat.le_refl _, by decide, rfl, rfl, dataRows (data_rows1 l), rowsOne rfl rfl, ?_⟩
    · rw [List.length_map, strsD_len]
      show (l.length + 1) * 16 ≤ _
      omega
    refine CallsAbs.freezeTo (args' := [.d (.str s), .d (.sl (strsD (l ++ [m])))]) 3 rfl ((congrArg rowsD (strs_snoc l m)).trans (rowsD_d _)) ⟨trivial, fun _ => (by show _ + _ ≤ List.length _; simp), trivial⟩ (congrArg (fun x => [AV.d (.str s), x]) (frz_whole 3 (strsD (l ++ [m])) (((strsD l).map fun r => r.map AV.d).length + 1) (by simp [strsD]))) (PureC.use c3 ?_)
    have fin : ∀ (v : Bool), v = true → ∀ (σ : Store), (Nat.ble 0 σ.n = true) → ∃ r2 σ2, FinMove ⟨0, []⟩ (AV.d (.bool v)) σ r2 σ2 ∧ r2 = AV.d (.bool true) := fun v hv σ hn => ⟨.d (.bool true), ⟨0, []⟩, fin_mv [] hn rfl rfl trivial (congrArg D.bool hv.symm), rfl⟩
    have e3 : (!a || b) = true := by cases a <;> simp_all
    have e4 : y = true → (c == decide (m = x)) = true := fun h => by rw [e2 h]; simp
    clear e1 e2 c1 c2 c3
    cases a <;> cases b <;> cases y <;> first
      | exact absurd e3 (by decide)
      | skip
    all_goals
      repeat (first | refine ⟨fun _ => ?_, fun h => absurd h (by decide)⟩ | refine ⟨fun h => absurd h (by decide), fun _ => ?_⟩)
      try exact fin _ rfl _ rfl
    all_goals
      refine CallsAbs.freeze 4 rfl rfl ⟨trivial, fun _ => Nat.le_refl _, trivial⟩ (PureC.use c4 ?_)
      exact fin _ (e4 rfl) _ rfl
  · exact ⟨_, _, FinMove.refl _ _ _, rfl⟩
  · exact ⟨_, _, FinMove.refl _ _ _, rfl⟩
end Go.Proofs.Ytampfnlmojgjgaa
