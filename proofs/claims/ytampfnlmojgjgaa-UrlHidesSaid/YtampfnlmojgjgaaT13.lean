import Derived.Test.YtampfnlmojgjgaaT12
namespace Go.Proofs.Ytampfnlmojgjgaa
open Go.Aw

theorem allowed_more (s : List UInt8) (l : List (List UInt8)) (m : List UInt8) (h : allowed s l = true) : allowed s (l ++ [m]) = true := by
  unfold allowed at h ⊢
  split at h
  · rename_i hb
    rw [if_pos hb]
    have := of_decide_eq_true h
    exact decide_eq_true (by simp [this])
  · rename_i hb
    rw [if_neg hb]; exact h
theorem allowed_one (s m : List UInt8) (h : schemeB s = true) : allowed s [m] = decide (m = schemeS s) := by
  rw [allowed, if_pos h]
  by_cases e : m = schemeS s
  · subst e; simp
  · rw [decide_eq_false e]; exact decide_eq_false (by simp; exact fun q => e q.symm)
theorem allowed_nil (s : List UInt8) (h : schemeB s = true) : allowed s [] = false := by
  rw [allowed, if_pos h]; simp
theorem scan_len : ∀ (r acc x : List UInt8), scan acc r = some x → x.length ≤ acc.length + r.length
  | [], acc, x, h => by simp [scan] at h
  | c :: r, acc, x, h => by
    unfold scan at h
    have go : scan (acc ++ [c]) r = some x → x.length ≤ acc.length + (c :: r).length := fun h => by
      have := scan_len r (acc ++ [c]) x h
      simp at this ⊢; omega
    split at h
    · exact go h
    · split at h
      · cases h
      · split at h
        · cases h; simp
        · split at h
          · exact go h
          · cases h
theorem schemeS_len (s : List UInt8) : (schemeS s).length ≤ s.length := by
  unfold schemeS
  cases h : schemeO s with
  | none => simp
  | some x =>
    have h1 := scan_len _ _ _ h
    rw [lower_len] at h1
    have h2 := bare_len s
    simp at h1 ⊢; omega

set_option maxRecDepth 10000 in
theorem UrlAllows_ok (s : List UInt8) (l : List (List UInt8)) : PureC Try.prog 4 [.d (.str s), .d (.sl (strsD l))] (.d (.bool true)) := by
  refine pure_okT Try.wf Try.tab_ok Try.func4 (by decide +kernel) rfl rfl rfl rfl ?_
  refine PureC.use awake_ok ⟨fun h1 => ⟨fun h2 => ?_, fun h2 => ?_⟩, fun h1 => ?_⟩
  · exact ⟨_, _, FinMove.refl _ _ _, rfl⟩
  · have hs : s.length ≤ 2000 := by have := of_decide_eq_false h1; omega
    have hl : l.length ≤ 100 := by have := of_decide_eq_false h2; rw [strsD_len] at this; omega
    repeat (first | refine ⟨fun _ => ?_, fun h => absurd h (by decide)⟩ | refine ⟨fun h => absurd h (by decide), fun _ => ?_⟩)
    refine PureC.use (Allowed_ok s l (by omega) (by omega)) (PureC.use (rAllowed_ok s l (by omega) (by omega)) ?_)
    exact ⟨_, _, FinMove.refl _ _ _, congrArg (fun b => AV.d (.bool b)) (by simp)⟩
  · exact ⟨_, _, FinMove.refl _ _ _, rfl⟩

set_option maxRecDepth 10000 in
theorem UrlNone_ok (s : List UInt8) : PureC Try.prog 8 [.d (.str s)] (.d (.bool true)) := by
  refine pure_okT Try.wf Try.tab_ok Try.func8 (by decide +kernel) rfl rfl rfl rfl ?_
  refine PureC.use awake_ok ⟨fun h1 => ?_, fun h1 => ?_⟩
  · exact ⟨_, _, FinMove.refl _ _ _, rfl⟩
  · have hs : s.length ≤ 2000 := by have := of_decide_eq_false h1; omega
    have hx := schemeS_len s
    have e0 := allowed_nil s
    have c1 := Scheme_ok s (by omega)
    have c2 := Allowed_ok s [] (by omega) (by simp)
    have c3 := Allowed_ok s [schemeS s] (by omega) (by simp)
    have c4 := Allowed_ok s [schemeS s ++ [120]] (by omega) (by simp)
    have e1 := allowed_one s (schemeS s)
    have e2 := allowed_one s (schemeS s ++ [120])
    rw [schemeV] at c1
    generalize schemeS s = x at *
    generalize schemeB s = y at *
    have hend : decide ((x.length : Int) < (s.length : Int) + 1) = true := decide_eq_true (by omega)
    cases y with
    | false =>
      generalize allowed s [] = p at *
      refine PureC.use c1 ?_
      repeat (first | refine ⟨fun _ => ?_, fun h => absurd h (by decide)⟩ | refine ⟨fun h => absurd h (by decide), fun _ => ?_⟩)
      refine CallsAbs.sub (sub_nil1 _) (PureC.use c2 ?_)
      cases p
      all_goals
        repeat (first | refine ⟨fun _ => ?_, fun h => absurd h (by decide)⟩ | refine ⟨fun h => absurd h (by decide), fun _ => ?_⟩)
        refine .inl ⟨⟨by omega, by omega⟩, ?_⟩
        exact ⟨_, _, FinMove.refl _ _ _, congrArg (fun b => AV.d (.bool b)) hend⟩
    | true =>
      rw [e0 rfl] at c2
      rw [e1 rfl, decide_eq_true rfl] at c3
      rw [e2 rfl, decide_eq_false (by intro h; have := congrArg List.length h; simp at this)] at c4
      refine PureC.use c1 ?_
      repeat (first | refine ⟨fun _ => ?_, fun h => absurd h (by decide)⟩ | refine ⟨fun h => absurd h (by decide), fun _ => ?_⟩)
      refine CallsAbs.sub (sub_nil1 _) (PureC.use c2 ?_)
      repeat (first | refine ⟨fun _ => ?_, fun h => absurd h (by decide)⟩ | refine ⟨fun h => absurd h (by decide), fun _ => ?_⟩)
      refine CallsAbs.freeze 0 rfl rfl ⟨trivial, fun _ => Nat.le_refl _, trivial⟩ (PureC.use c3 ?_)
      repeat (first | refine ⟨fun _ => ?_, fun h => absurd h (by decide)⟩ | refine ⟨fun h => absurd h (by decide), fun _ => ?_⟩)
      refine ⟨by simp; omega, ?_⟩
      refine CallsAbs.freeze 1 rfl rfl ⟨trivial, fun _ => Nat.le_refl _, trivial⟩ (PureC.use c4 ?_)
      repeat (first | refine ⟨fun _ => ?_, fun h => absurd h (by decide)⟩ | refine ⟨fun h => absurd h (by decide), fun _ => ?_⟩)
      refine .inl ⟨⟨by omega, by omega⟩, ?_⟩
      exact ⟨.d (.bool true), ⟨0, []⟩, fin_mv [] rfl rfl rfl trivial (congrArg D.bool hend.symm), rfl⟩
theorem UrlAllows_law {n m : Nat} {r q : List D} (h : DOk Try.prog n 9 r) (k : DOk Try.prog m 27 q) : PureC Try.prog 4 [argAV Try.prog 9 r, argAV Try.prog 27 q] (.d (.bool true)) := by
  obtain ⟨s, rfl, _⟩ := dok_str h
  obtain ⟨l, rfl, _, _⟩ := dok_strs k
  rw [arg_str, arg_strs]
  exact UrlAllows_ok s l
theorem UrlNone_law {n : Nat} {r : List D} (h : DOk Try.prog n 9 r) : PureC Try.prog 8 [argAV Try.prog 9 r] (.d (.bool true)) := by
  obtain ⟨s, rfl, _⟩ := dok_str h
  rw [arg_str]
  exact UrlNone_ok s
end Go.Proofs.Ytampfnlmojgjgaa
