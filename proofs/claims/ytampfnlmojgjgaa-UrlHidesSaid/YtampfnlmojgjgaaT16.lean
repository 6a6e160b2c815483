import Derived.Test.YtampfnlmojgjgaaT15
namespace Go.Proofs.Ytampfnlmojgjgaa
open Go.Aw

theorem kept_sp (c : UInt8) (h : kept c = false) : sp c = true := by
  have : c.toNat = 9 ∨ c.toNat = 10 ∨ c.toNat = 13 := by simp [kept] at h; omega
  simp [sp]; omega
theorem trimL_filter : ∀ s : List UInt8, (trimL s).filter kept = trimL (s.filter kept)
  | [] => rfl
  | c :: r => by
    unfold trimL
    by_cases h : sp c = true
    · rw [List.dropWhile_cons, if_pos h]
      have ih := trimL_filter r
      unfold trimL at ih
      rw [ih, List.filter_cons]
      split
      · rw [List.dropWhile_cons, if_pos h]
      · rfl
    · have hk : kept c = true := by
        cases hk : kept c with
        | true => rfl
        | false => exact absurd (kept_sp c hk) h
      rw [List.dropWhile_cons, if_neg h, List.filter_cons, if_pos hk, List.dropWhile_cons, if_neg h]
theorem trimR_filter (s : List UInt8) : (trimR s).filter kept = trimR (s.filter kept) := by
  unfold trimR
  have := trimL_filter s.reverse
  unfold trimL at this
  rw [List.filter_reverse, this, List.filter_reverse]
theorem bare_eq (s : List UInt8) : bare s = trimR (trimL (s.filter kept)) := by rw [bare, trimR_filter, trimL_filter]
theorem bare_ins (a b : List UInt8) (c : UInt8) (h : kept c = false) : bare (a ++ [c] ++ b) = bare (a ++ b) := by
  rw [bare_eq, bare_eq]; simp [h]
theorem bare_lead (c : UInt8) (s : List UInt8) (h : sp c = true) : bare (c :: s) = bare s := by
  unfold bare trimL
  rw [List.dropWhile_cons, if_pos h]
theorem trimL_head (s : List UInt8) : trimL s = [] ∨ ∃ c r, trimL s = c :: r ∧ sp c = false := by
  induction s with
  | nil => exact .inl rfl
  | cons c r ih =>
    unfold trimL at ih ⊢
    rw [List.dropWhile_cons]
    split
    · exact ih
    · rename_i h; exact .inr ⟨c, r, rfl, by simpa using h⟩
theorem trimL_idem (s : List UInt8) : trimL (trimL s) = trimL s := by
  rcases trimL_head s with h | ⟨c, r, h, hc⟩
  · rw [h]; rfl
  · rw [h]; simp [trimL, hc]
theorem trimR_idem (s : List UInt8) : trimR (trimR s) = trimR s := by
  unfold trimR
  rw [List.reverse_reverse]
  have := trimL_idem s.reverse
  unfold trimL at this
  rw [this]
theorem trimR_pre (s : List UInt8) : ∃ r, s = trimR s ++ r := by
  have : (s.reverse.dropWhile sp) <:+ s.reverse := List.dropWhile_suffix _
  obtain ⟨t, ht⟩ := this
  refine ⟨t.reverse, ?_⟩
  unfold trimR
  rw [← List.reverse_append, ht, List.reverse_reverse]
theorem trimL_trimR (s : List UInt8) : trimL (trimR (trimL s)) = trimR (trimL s) := by
  rcases trimL_head s with h | ⟨c, r, h, hc⟩
  · rw [h]; rfl
  · obtain ⟨t, ht⟩ := trimR_pre (trimL s)
    cases hu : trimR (trimL s) with
    | nil => rfl
    | cons d u =>
      rw [hu, h] at ht
      injection ht with e _
      subst e
      simp [trimL, hc]
theorem bare_idem (s : List UInt8) : bare (bare s) = bare s := by
  have hf : (bare s).filter kept = bare s := by unfold bare; rw [List.filter_filter]; congr 1; funext c; simp
  rw [bare_eq (bare s), hf, bare_eq, trimL_trimR, trimR_idem]
theorem low_sp (c : UInt8) : sp (lowB c) = sp c := by
  unfold lowB
  split
  · rename_i h
    have := lowB_hi c h
    unfold lowB at this
    rw [if_pos h] at this
    simp [sp]; omega
  · rfl
theorem low_kept (c : UInt8) : kept (lowB c) = kept c := by
  unfold lowB
  split
  · rename_i h
    have := lowB_hi c h
    unfold lowB at this
    rw [if_pos h] at this
    have h9 : (c + 32).toNat ≠ 9 ∧ (c + 32).toNat ≠ 10 ∧ (c + 32).toNat ≠ 13 := by omega
    have h0 : c.toNat ≠ 9 ∧ c.toNat ≠ 10 ∧ c.toNat ≠ 13 := by omega
    simp only [kept, h9.1, h9.2.1, h9.2.2, h0.1, h0.2.1, h0.2.2]
  · rfl
theorem low_low (c : UInt8) : lowB (lowB c) = lowB c := by
  by_cases h : 65 ≤ c.toNat ∧ c.toNat ≤ 90
  · have := lowB_hi c h
    exact lowB_lo _ (by omega)
  · rw [lowB_lo c h, lowB_lo c h]
theorem lower_trimL (s : List UInt8) : trimL (lower s) = lower (trimL s) := by
  unfold trimL lower
  rw [List.dropWhile_map]
  congr 2
  funext c
  exact low_sp c
theorem lower_trimR (s : List UInt8) : trimR (lower s) = lower (trimR s) := by
  have h : (lower s).reverse = lower s.reverse := by unfold lower; rw [List.map_reverse]
  have h2 := lower_trimL s.reverse
  unfold trimL at h2
  unfold trimR
  rw [h, h2]
  unfold lower
  rw [List.map_reverse]
theorem bare_lower (s : List UInt8) : bare (lower s) = lower (bare s) := by
  unfold bare
  rw [lower_trimL, lower_trimR]
  unfold lower
  rw [List.filter_map]
  congr 2
  funext c
  exact low_kept c
theorem scheme_lower (s : List UInt8) : schemeO (lower s) = schemeO s := by
  unfold schemeO
  rw [bare_lower]
  congr 1
  unfold lower
  rw [List.map_map]
  exact List.map_congr_left fun c _ => low_low c
theorem scheme_bare {s t : List UInt8} (h : bare s = bare t) : schemeV s = schemeV t := by simp only [schemeV, schemeS, schemeB, schemeO, h]
theorem scheme_low (s : List UInt8) : schemeV (lower s) = schemeV s := by simp only [schemeV, schemeS, schemeB, scheme_lower]

theorem tab3 (c : UInt8) : ∃ d : UInt8, kept d = false ∧ ([[.d (.int .u8 9)], [.d (.int .u8 10)], [.d (.int .u8 13)]] : List (List AV))[((c.toNat : Int).tmod 3).toNat]? = some [.d (.int .u8 d.toNat)] := by
  have h : ((c.toNat : Int).tmod 3).toNat = c.toNat % 3 := by
    rw [Int.tmod_eq_emod_of_nonneg (by omega)]; omega
  rw [h]
  have : c.toNat % 3 = 0 ∨ c.toNat % 3 = 1 ∨ c.toNat % 3 = 2 := by omega
  rcases this with e | e | e <;> rw [e]
  · exact ⟨9, by decide, rfl⟩
  · exact ⟨10, by decide, rfl⟩
  · exact ⟨13, by decide, rfl⟩
theorem tab3D (c : UInt8) : ∃ d : UInt8, kept d = false ∧ ([[.int .u8 9], [.int .u8 10], [.int .u8 13]] : List (List D))[((c.toNat : Int).tmod 3).toNat]? = some [.int .u8 d.toNat] := by
  have h : ((c.toNat : Int).tmod 3).toNat = c.toNat % 3 := by
    rw [Int.tmod_eq_emod_of_nonneg (by omega)]; omega
  rw [h]
  have : c.toNat % 3 = 0 ∨ c.toNat % 3 = 1 ∨ c.toNat % 3 = 2 := by omega
  rcases this with e | e | e <;> rw [e]
  · exact ⟨9, by decide, rfl⟩
  · exact ⟨10, by decide, rfl⟩
  · exact ⟨13, by decide, rfl⟩

set_option maxRecDepth 10000 in
theorem UrlHides_ok (s : List UInt8) (at_ : Int) (c : UInt8) (hat : at_ ≤ 9223372036854775807) : PureC Try.prog 5 [.d (.str s), .d (.int .i64 at_), .d (.int .u8 c.toNat)] (.d (.bool true)) := by
  refine pure_okT Try.wf Try.tab_ok Try.func5 (by decide +kernel) rfl rfl rfl rfl ?_
  refine PureC.use awake_ok ⟨fun h1 => ⟨fun h2 => ?_, fun h2 => ?_⟩, fun h1 => ?_⟩
  · exact ⟨_, _, FinMove.refl _ _ _, rfl⟩
  · have hs : s.length ≤ 1000 := by have := of_decide_eq_false h1; omega
    have ha : 0 ≤ at_ := by have := of_decide_eq_false h2; omega
    clear h1 h2
    have c1 := Scheme_ok s (by omega)
    refine PureC.use c1 ?_
    have hk : ∃ k : Nat, k ≤ s.length ∧ at_.tmod ((s.length : Int) + 1) = k := by
      refine ⟨(at_.tmod ((s.length : Int) + 1)).toNat, ?_, ?_⟩
      · have h0 := Int.tmod_lt_of_pos at_ (b := (s.length : Int) + 1) (by omega)
        omega
      · have := Int.tmod_nonneg ((s.length : Int) + 1) ha
        omega
    obtain ⟨k, hk1, hk2⟩ := hk
    refine .inl ⟨⟨by omega, by omega⟩, by omega, ?_⟩
    rw [hk2]
    obtain ⟨d, hd1, hd2⟩ := tab3D c
    have h3 : 0 ≤ ((c.toNat : Int).tmod 3) ∧ ((c.toNat : Int).tmod 3) < 3 := ⟨Int.tmod_nonneg _ (by omega), Int.tmod_lt_of_pos _ (by decide)⟩
    refine drawnT Try.wf Try.tab_ok Try.mixed (by decide +kernel) ?_
    refine qstep rfl rfl (FinMove.refl _ _ _) ?_
    refine qstep rfl rfl (FinMove.refl _ _ _) ?_
    refine qstep rfl rfl ⟨⟨by omega, by omega, by omega⟩, FinMove.refl _ _ _⟩ ?_
    refine qstep (r := .d (.sl [[.int .u8 9], [.int .u8 10], [.int .u8 13]])) rfl rfl (fin_lit0 rfl rfl) ?_
    refine qstep rfl rfl (FinMove.refl _ _ _) ?_
    refine qstep rfl rfl ⟨by decide, FinMove.refl _ _ _⟩ ?_
    refine qstep rfl rfl ⟨⟨h3.1, h3.2⟩, _, hd2, rfl, FinMove.refl _ _ _⟩ ?_
    refine qstep rfl rfl ⟨_, rfl, FinMove.refl _ _ _⟩ ?_
    refine qstep (r := .d (.sl [[.int .u8 d.toNat]])) rfl rfl (fin_lit0 rfl rfl) ?_
    refine qstep rfl rfl ⟨[d], rfl, FinMove.refl _ _ _⟩ ?_
    refine qstep rfl rfl ⟨by simp; omega, FinMove.refl _ _ _⟩ ?_
    refine qstep rfl rfl (FinMove.refl _ _ _) ?_
    refine qstep rfl rfl (FinMove.refl _ _ _) ?_
    refine qstep rfl rfl ⟨⟨by omega, by omega, by omega⟩, FinMove.refl _ _ _⟩ ?_
    refine qstep rfl rfl ⟨by simp; omega, FinMove.refl _ _ _⟩ ?_
    refine qstep rfl rfl (FinMove.refl _ _ _) ?_
    have e0 : List.drop (Int.toNat 0) (List.take (Int.toNat k) s) ++ [d] ++ List.drop (Int.toNat k) (List.take (Int.toNat s.length) s) = s.take k ++ [d] ++ s.drop k := by simp
    have e1 : schemeV (s.take k ++ [d] ++ s.drop k) = schemeV s := scheme_bare (by rw [bare_ins _ _ _ hd1, List.take_append_drop])
    have c2 := Scheme_ok (s.take k ++ [d] ++ s.drop k) (by simp; omega)
    rw [e1, ← e0] at c2
    have c3 := Scheme_ok ([32, 0] ++ s) (by simp; omega)
    have e3 : schemeV ([32, 0] ++ s) = schemeV s := scheme_bare ((bare_lead 32 (0 :: s) rfl).trans (bare_lead 0 s rfl))
    rw [e3] at c3
    have c4 := Lower_ok s (by omega)
    have c5 := Scheme_ok (lower s) (by rw [lower_len]; omega)
    rw [scheme_low] at c5
    have c6 := Bare_ok s (by omega) (by omega)
    have hb := bare_len s
    have c7 := Bare_ok (bare s) (by omega) (by omega)
    rw [bare_idem] at c7
    rw [schemeV] at c2 c3 c5
    refine PureC.use c2 ?_
    refine ⟨by simp; omega, PureC.use c3 ?_⟩
    refine PureC.use c4 (PureC.use c5 ?_)
    generalize schemeS s = x at *
    generalize schemeB s = y at *
    repeat (first | refine ⟨fun _ => ?_, fun h => absurd h (by decide)⟩ | refine ⟨fun h => absurd h (by decide), fun _ => ?_⟩)
    repeat (first | refine ⟨fun _ => ?_, fun h => absurd h (by simp)⟩)
    refine PureC.use c6 (PureC.use c7 (PureC.use c6 ?_))
    exact ⟨_, _, FinMove.refl _ _ _, congrArg (fun b => AV.d (.bool b)) (by simp)⟩
  · exact ⟨_, _, FinMove.refl _ _ _, rfl⟩
theorem UrlHides_law {n m o : Nat} {r q p : List D} (h : DOk Try.prog n 9 r) (k : DOk Try.prog m 3 q) (j : DOk Try.prog o 5 p) : PureC Try.prog 5 [argAV Try.prog 9 r, argAV Try.prog 3 q, argAV Try.prog 5 p] (.d (.bool true)) := by
  obtain ⟨s, rfl, _⟩ := dok_str h
  obtain ⟨x, rfl, _, hx⟩ := dok_int k
  obtain ⟨c, rfl⟩ := dok_u8 j
  rw [arg_str, arg_int, arg_u8]
  exact UrlHides_ok s x c hx
end Go.Proofs.Ytampfnlmojgjgaa
