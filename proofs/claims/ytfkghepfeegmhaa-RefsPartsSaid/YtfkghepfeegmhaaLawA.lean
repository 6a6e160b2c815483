import Derived.Test.YtfkghepfeegmhaaRefsK
import Derived.Test.YtfkghepfeegmhaaDok
namespace Go.Proofs.Ytfkghepfeegmhaa
open Go.Aw

set_option maxRecDepth 100000 in
theorem awake_ok : PureC Try.prog 11 [] (.d (.bool true)) := by
  refine pure_okT Try.wf Try.tab_ok Try.func11 (by decide +kernel) rfl rfl rfl rfl ?_
  have e1 : named [108, 116] = some [60] := by decide +kernel
  have e2 : resolve [97, 38, 108, 116, 59, 98, 38, 35, 54, 53, 59, 38, 35, 120, 52, 49, 59, 38, 110, 111, 59, 38] = [97, 60, 98, 65, 65, 38, 110, 111, 59, 38] := by decide +kernel
  have e3 : escape true [97, 60, 34, 98, 34, 38] = [97, 38, 108, 116, 59, 38, 113, 117, 111, 116, 59, 98, 38, 113, 117, 111, 116, 59, 38, 97, 109, 112, 59] := by decide +kernel
  have c1 := Named_ok [108, 116]
  have c2 := Resolve_ok [97, 38, 108, 116, 59, 98, 38, 35, 54, 53, 59, 38, 35, 120, 52, 49, 59, 38, 110, 111, 59, 38] (by decide)
  have c3 := Escape_ok [97, 60, 34, 98, 34, 38] true (by decide)
  rw [e1] at c1; rw [e2] at c2; rw [e3] at c3
  refine PureC.use c1 ?_
  repeat (first | refine ⟨fun _ => ?_, fun h => absurd h (by decide)⟩ | refine ⟨fun h => absurd h (by decide), fun _ => ?_⟩)
  refine PureC.use c2 ?_
  repeat (first | refine ⟨fun _ => ?_, fun h => absurd h (by decide)⟩ | refine ⟨fun h => absurd h (by decide), fun _ => ?_⟩)
  refine PureC.use c3 ?_
  exact ⟨_, _, fin_out rfl, rfl⟩

set_option maxRecDepth 100000 in
theorem RefsNames_ok (s : List UInt8) : PureC Try.prog 3 [.d (.str s)] (.d (.bool true)) := by
  refine pure_okT Try.wf Try.tab_ok Try.func3 (by decide +kernel) rfl rfl rfl rfl ?_
  have c1 := Named_ok s
  have c2 := rNamed_ok s
  generalize named s = n at *
  refine PureC.use awake_ok ⟨fun h => ?_, fun h => ?_⟩
  · exact ⟨_, _, fin_out rfl, rfl⟩
  · cases n with
    | none =>
      refine PureC.use c1 (PureC.use c2 ?_)
      repeat (first | refine ⟨fun _ => ?_, fun h => absurd h (by decide)⟩ | refine ⟨fun h => absurd h (by decide), fun _ => ?_⟩)
      exact ⟨_, _, fin_out rfl, rfl⟩
    | some x =>
      refine PureC.use c1 (PureC.use c2 ?_)
      repeat (first | refine ⟨fun _ => ?_, fun h => absurd h (by decide)⟩ | refine ⟨fun h => absurd h (by decide), fun _ => ?_⟩)
      refine ⟨fun _ => ?_, fun h => absurd h (by simp)⟩
      exact ⟨_, _, fin_out rfl, rfl⟩

set_option maxRecDepth 100000 in
theorem RefsResolves_ok (s : List UInt8) : PureC Try.prog 4 [.d (.str s)] (.d (.bool true)) := by
  refine pure_okT Try.wf Try.tab_ok Try.func4 (by decide +kernel) rfl rfl rfl rfl ?_
  refine PureC.use awake_ok ⟨fun h => ?_, fun h => ?_⟩
  · exact ⟨_, _, fin_out rfl, rfl⟩
  · have hs : s.length ≤ 2000 := by have := of_decide_eq_false h; omega
    have c1 := Resolve_ok s (by omega)
    have c2 := rResolve_ok s (by omega)
    generalize resolve s = x at *
    repeat (first | refine ⟨fun _ => ?_, fun h => absurd h (by decide)⟩ | refine ⟨fun h => absurd h (by decide), fun _ => ?_⟩)
    refine PureC.use c1 (PureC.use c2 ?_)
    exact ⟨_, _, fin_out rfl, congrArg (fun b => AV.d (.bool b)) (by simp)⟩

set_option maxRecDepth 100000 in
theorem RefsEscapes_ok (s : List UInt8) (q : Bool) : PureC Try.prog 5 [.d (.str s), .d (.bool q)] (.d (.bool true)) := by
  refine pure_okT Try.wf Try.tab_ok Try.func5 (by decide +kernel) rfl rfl rfl rfl ?_
  refine PureC.use awake_ok ⟨fun h => ?_, fun h => ?_⟩
  · exact ⟨_, _, fin_out rfl, rfl⟩
  · have hs : s.length ≤ 2000 := by have := of_decide_eq_false h; omega
    have c1 := Escape_ok s q (by omega)
    have c2 := rEscape_ok s q (by omega)
    generalize escape q s = x at *
    repeat (first | refine ⟨fun _ => ?_, fun h => absurd h (by decide)⟩ | refine ⟨fun h => absurd h (by decide), fun _ => ?_⟩)
    refine PureC.use c1 (PureC.use c2 ?_)
    exact ⟨_, _, fin_out rfl, congrArg (fun b => AV.d (.bool b)) (by simp)⟩

theorem escape_grow : ∀ (n : Nat) (s : List UInt8), s.length ≤ n → (escape false s).length ≤ (escape true s).length
  | _, [], _ => by simp [escape]
  | 0, _ :: _, h => by simp at h
  | n + 1, c :: r, h => by
    simp at h
    by_cases hc : c = 194 ∧ ∃ t, r = 160 :: t
    · obtain ⟨rfl, t, rfl⟩ := hc
      rw [escape_nb, escape_nb]
      have := escape_grow n t (by simp at h; omega)
      simp; omega
    · rw [escape_cons _ c r hc, escape_cons _ c r hc]
      have := escape_grow n r h
      have h1 : (esc1 false c).length ≤ (esc1 true c).length := by
        unfold esc1
        repeat' split
        all_goals first | (simp; done) | simp_all
      simp; omega

set_option maxRecDepth 100000 in
theorem RefsSizes_ok (s : List UInt8) : PureC Try.prog 10 [.d (.str s)] (.d (.bool true)) := by
  refine pure_okT Try.wf Try.tab_ok Try.func10 (by decide +kernel) rfl rfl rfl rfl ?_
  refine PureC.use awake_ok ⟨fun h => ?_, fun h => ?_⟩
  · exact ⟨_, _, fin_out rfl, rfl⟩
  · have hs : s.length ≤ 3000 := by have := of_decide_eq_false h; omega
    clear h
    have c1 := Resolve_ok s (by omega)
    have c2 := Escape_ok s false (by omega)
    have c3 := Escape_ok s true (by omega)
    have l1 := resolve_len s.length s (Nat.le_refl _)
    have l2 := (escape_len s.length false s (Nat.le_refl _)).1
    have l3 := escape_grow s.length s (Nat.le_refl _)
    generalize resolve s = x at *
    generalize escape false s = y at *
    generalize escape true s = z at *
    repeat (first | refine ⟨fun _ => ?_, fun h => absurd h (by decide)⟩ | refine ⟨fun h => absurd h (by decide), fun _ => ?_⟩)
    refine PureC.use c1 ⟨fun _ => ?_, fun h => absurd (of_decide_eq_false h) (by omega)⟩
    refine PureC.use c2 ⟨fun _ => ?_, fun h => absurd (of_decide_eq_false h) (by omega)⟩
    refine PureC.use c3 (PureC.use c2 ?_)
    exact ⟨_, _, fin_out rfl, congrArg (fun b => AV.d (.bool b)) (decide_eq_true (by omega))⟩

set_option maxRecDepth 100000 in
theorem RefsPlain_ok (a b : List UInt8) : PureC Try.prog 7 [.d (.str a), .d (.str b)] (.d (.bool true)) := by
  refine pure_okT Try.wf Try.tab_ok Try.func7 (by decide +kernel) rfl rfl rfl rfl ?_
  refine PureC.use awake_ok ⟨fun h1 => ⟨fun h2 => ?_, fun h2 => ?_⟩, fun h1 => ?_⟩
  · exact ⟨_, _, fin_out rfl, rfl⟩
  · have ha : a.length ≤ 3000 := by have := of_decide_eq_false h1; omega
    have hb : b.length ≤ 3000 := by have := of_decide_eq_false h2; omega
    clear h1 h2
    refine loopT Try.wf Try.tab_ok (fun n s' σ => ∃ k : Nat, n = a.length - k ∧ k ≤ a.length ∧ (38 : UInt8) ∉ a.take k ∧ s' = [(0, .d (.str a)), (1, .d (.str b)), (5, .d (.bool true)), (6, .d (.int .i64 k))] ∧ σ = ⟨0, []⟩)
      ⟨0, rfl, Nat.zero_le _, by simp, rfl, rfl⟩ (Mv.of [] rfl rfl rfl trivial ⟨rfl, rfl, rfl, rfl, trivial⟩) ?_
    rintro _ _ _ ⟨k, rfl, hk, hI, rfl, rfl⟩
    refine ⟨fun h => ?_, fun h => ?_⟩
    · have hlt : k < a.length := by have := of_decide_eq_true h; omega
      have hg := getD_at a k hlt
      refine ⟨⟨by omega, by omega⟩, ?_⟩
      rw [hg]
      refine ⟨fun h3 => ?_, fun h3 => ?_⟩
      · exact ⟨_, _, fin_out rfl, rfl⟩
      · refine .inl ⟨⟨by omega, by omega⟩, _, _, _, ⟨k + 1, rfl, hlt, ?_, rfl, rfl⟩, by omega, Mv.of [] rfl rfl rfl trivial ⟨rfl, rfl, rfl, rfl, trivial⟩⟩
        rw [List.take_succ_eq_append_getElem hlt]
        simp only [List.mem_append, not_or, List.mem_singleton]
        exact ⟨hI, fun e => by rw [← e] at h3; exact absurd h3 (by decide)⟩
    · have hk' : k = a.length := by have := of_decide_eq_false h; omega
      subst hk'
      rw [List.take_length] at hI
      have c1 := Resolve_ok a (by omega)
      rw [resolve_same a hI] at c1
      have c2 := Resolve_ok (a ++ b) (by simp; omega)
      rw [resolve_plain a b hI] at c2
      have c3 := Resolve_ok b (by omega)
      have l3 := resolve_len b.length b (Nat.le_refl _)
      generalize resolve b = x at *
      repeat (first | refine ⟨fun _ => ?_, fun h => absurd h (by decide)⟩ | refine ⟨fun h => absurd h (by decide), fun _ => ?_⟩)
      refine PureC.use c1 ⟨fun _ => ?_, fun h => absurd h (by simp)⟩
      refine ⟨(by first | omega | (simp; done) | (simp; omega)), PureC.use c2 (PureC.use c3 ⟨(by first | omega | (simp; done) | (simp; omega)), ?_⟩)⟩
      exact ⟨_, _, fin_out rfl, congrArg (fun b => AV.d (.bool b)) (by simp)⟩
  · exact ⟨_, _, fin_out rfl, rfl⟩

theorem esc1_clean (q : Bool) (c : UInt8) : ∀ d ∈ esc1 q c, d ≠ 60 ∧ d ≠ 62 ∧ (q = true → d ≠ 34) := by
  unfold esc1
  split
  · intro d hd; revert d; cases q <;> decide
  · split
    · intro d hd; revert d; cases q <;> decide
    · split
      · intro d hd; revert d; cases q <;> decide
      · split
        · intro d hd; revert d; cases q <;> decide
        · rename_i h1 h2 h3 h4
          intro d hd
          simp at hd
          subst hd
          exact ⟨h2, h3, fun hq e => h4 ⟨e, hq⟩⟩
theorem escape_clean (q : Bool) : ∀ (n : Nat) (s : List UInt8), s.length ≤ n → ∀ d ∈ escape q s, d ≠ 60 ∧ d ≠ 62 ∧ (q = true → d ≠ 34)
  | _, [], _ => by simp [escape]
  | 0, _ :: _, h => by simp at h
  | n + 1, c :: r, h => by
    simp at h
    by_cases hc : c = 194 ∧ ∃ t, r = 160 :: t
    · obtain ⟨rfl, t, rfl⟩ := hc
      rw [escape_nb]
      intro d hd
      rcases List.mem_append.1 hd with hd2 | hd
      · clear hd; revert d; cases q <;> decide
      · exact escape_clean q n t (by simp at h; omega) d hd
    · rw [escape_cons _ c r hc]
      intro d hd
      rcases List.mem_append.1 hd with hd | hd
      · exact esc1_clean q c d hd
      · exact escape_clean q n r h d hd
theorem resolve_ref (x t : List UInt8) (u : List UInt8) (h : (59 : UInt8) ∉ x) (hl : x.length ≤ 10) (hs : stands x = some u) : resolve (38 :: (x ++ 59 :: t)) = u ++ resolve t := by
  rw [resolve_amp, oneR_some x t h hl, hs]; rfl
theorem resolve_escape (q : Bool) : ∀ (n : Nat) (s : List UInt8), s.length ≤ n → resolve (escape q s) = s
  | _, [], _ => rfl
  | 0, _ :: _, h => by simp at h
  | n + 1, c :: r, h => by
    simp at h
    by_cases hc : c = 194 ∧ ∃ t, r = 160 :: t
    · obtain ⟨rfl, t, rfl⟩ := hc
      have ih := resolve_escape q n t (by simp at h; omega)
      rw [escape_nb]
      have := resolve_ref [110, 98, 115, 112] (escape q t) [194, 160] (by decide) (by decide) (by decide +kernel)
      exact this.trans (by rw [ih]; rfl)
    · rw [escape_cons _ c r hc]
      have ih := resolve_escape q n r h
      unfold esc1
      split
      · rename_i h1; subst h1
        exact (resolve_ref [97, 109, 112] (escape q r) [38] (by decide) (by decide) (by decide +kernel)).trans (by rw [ih]; rfl)
      · split
        · rename_i h1; subst h1
          exact (resolve_ref [108, 116] (escape q r) [60] (by decide) (by decide) (by decide +kernel)).trans (by rw [ih]; rfl)
        · split
          · rename_i h1; subst h1
            exact (resolve_ref [103, 116] (escape q r) [62] (by decide) (by decide) (by decide +kernel)).trans (by rw [ih]; rfl)
          · split
            · rename_i h1; obtain ⟨rfl, _⟩ := h1
              exact (resolve_ref [113, 117, 111, 116] (escape q r) [34] (by decide) (by decide) (by decide +kernel)).trans (by rw [ih]; rfl)
            · rename_i h38 _ _ _
              show resolve (c :: escape q r) = _
              rw [resolve_other c _ h38, ih]

set_option maxRecDepth 100000 in
theorem RefsBack_ok (s : List UInt8) (q : Bool) : PureC Try.prog 6 [.d (.str s), .d (.bool q)] (.d (.bool true)) := by
  refine pure_okT Try.wf Try.tab_ok Try.func6 (by decide +kernel) rfl rfl rfl rfl ?_
  refine PureC.use awake_ok ⟨fun h1 => ?_, fun h1 => ?_⟩
  · exact ⟨_, _, fin_out rfl, rfl⟩
  · have hs : s.length ≤ 5000 := by have := of_decide_eq_false h1; omega
    clear h1
    have hb := resolve_escape q s.length s (Nat.le_refl _)
    have hcl := escape_clean q s.length s (Nat.le_refl _)
    have hel := (escape_len s.length q s (Nat.le_refl _)).2
    have c1 := Escape_ok s q (by omega)
    have c2 := Resolve_ok (escape q s) (by omega)
    rw [hb] at c2
    refine PureC.use c1 ?_
    generalize escape q s = t at *
    refine loopT Try.wf Try.tab_ok (fun n s' σ => ∃ k : Nat, n = t.length - k ∧ k ≤ t.length ∧ s' = [(0, .d (.str s)), (1, .d (.bool q)), (5, .d (.bool true)), (6, .d (.str t)), (7, .d (.int .i64 k))] ∧ σ = ⟨0, []⟩)
      ⟨0, rfl, Nat.zero_le _, rfl, rfl⟩ (Mv.of [] rfl rfl rfl trivial ⟨rfl, rfl, rfl, rfl, rfl, trivial⟩) ?_
    rintro _ _ _ ⟨k, rfl, hk, rfl, rfl⟩
    refine ⟨fun h => ?_, fun h => ?_⟩
    · have hlt : k < t.length := by have := of_decide_eq_true h; omega
      have hg := getD_at t k hlt
      obtain ⟨n60, n62, n34⟩ := hcl t[k] (List.getElem_mem hlt)
      generalize t[k] = c at *
      refine ⟨⟨by omega, by omega⟩, ?_⟩
      rw [hg]
      refine ⟨fun _ => ?_, fun h => absurd (u8_is (of_decide_eq_true h) rfl) n60⟩
      refine ⟨⟨by omega, by omega⟩, ?_⟩
      rw [hg]
      refine ⟨fun _ => ?_, fun h => absurd (u8_is (of_decide_eq_true h) rfl) n62⟩
      cases q with
      | false =>
        repeat (first | refine ⟨fun _ => ?_, fun h => absurd h (by decide)⟩ | refine ⟨fun h => absurd h (by decide), fun _ => ?_⟩)
        exact .inl ⟨⟨by omega, by omega⟩, _, _, _, ⟨k + 1, rfl, hlt, rfl, rfl⟩, by omega, Mv.of [] rfl rfl rfl trivial ⟨rfl, rfl, rfl, rfl, rfl, trivial⟩⟩
      | true =>
        repeat (first | refine ⟨fun _ => ?_, fun h => absurd h (by decide)⟩ | refine ⟨fun h => absurd h (by decide), fun _ => ?_⟩)
        refine ⟨⟨by omega, by omega⟩, ?_⟩
        rw [hg]
        refine ⟨fun h => absurd (u8_is (of_decide_eq_true h) rfl) (n34 rfl), fun _ => ?_⟩
        exact .inl ⟨⟨by omega, by omega⟩, _, _, _, ⟨k + 1, rfl, hlt, rfl, rfl⟩, by omega, Mv.of [] rfl rfl rfl trivial ⟨rfl, rfl, rfl, rfl, rfl, trivial⟩⟩
    · repeat (first | refine ⟨fun _ => ?_, fun h => absurd h (by decide)⟩ | refine ⟨fun h => absurd h (by decide), fun _ => ?_⟩)
      refine PureC.use c2 ?_
      exact ⟨_, _, fin_out rfl, congrArg (fun b => AV.d (.bool b)) (by simp)⟩

theorem escape_app (q : Bool) : ∀ (n : Nat) (a b : List UInt8), a.length ≤ n → (b = [] ∨ ∃ d t, b = d :: t ∧ d.toNat < 128) → escape q (a ++ b) = escape q a ++ escape q b
  | _, [], _, _, _ => rfl
  | 0, _ :: _, _, h, _ => by simp at h
  | n + 1, c :: r, b, h, hb => by
    simp at h
    by_cases hc : c = 194 ∧ ∃ t, r = 160 :: t
    · obtain ⟨rfl, t, rfl⟩ := hc
      show escape q (194 :: 160 :: (t ++ b)) = _
      rw [escape_nb, escape_nb, escape_app q n t b (by simp at h; omega) hb, List.append_assoc]
    · have hc2 : ¬ (c = 194 ∧ ∃ t, r ++ b = 160 :: t) := by
        rintro ⟨h1, t, h2⟩
        cases r with
        | nil =>
          rcases hb with rfl | ⟨d, u, rfl, hd⟩
          · cases h2
          · injection h2 with h3 _
            subst h3; exact absurd hd (by decide)
        | cons d u =>
          injection h2 with h3 _
          exact hc ⟨h1, u, by rw [h3]⟩
      rw [List.cons_append, escape_cons q c _ hc2, escape_cons q c r hc, escape_app q n r b h hb, List.append_assoc]

set_option maxRecDepth 100000 in
theorem RefsParts_ok (a b : List UInt8) (q : Bool) : PureC Try.prog 8 [.d (.str a), .d (.str b), .d (.bool q)] (.d (.bool true)) := by
  refine pure_okT Try.wf Try.tab_ok Try.func8 (by decide +kernel) rfl rfl rfl rfl ?_
  have main : ∀ (s' : St) , True := fun _ => trivial
  refine PureC.use awake_ok ⟨fun h1 => ⟨fun h2 => ⟨fun h3 => ⟨⟨by omega, by have := of_decide_eq_true h3; omega⟩, ⟨fun h4 => ?_, fun h4 => ?_⟩⟩, fun h3 => ?_⟩, fun h2 => ?_⟩, fun h1 => ?_⟩
  · exact ⟨_, _, fin_out rfl, rfl⟩
  · have ha : a.length ≤ 3000 := by have := of_decide_eq_false h1; omega
    have hb : b.length ≤ 3000 := by have := of_decide_eq_false h2; omega
    have hpos : 0 < b.length := by have := of_decide_eq_true h3; omega
    have hb0 : b = [] ∨ ∃ d t, b = d :: t ∧ d.toNat < 128 := by
      cases b with
      | nil => exact .inl rfl
      | cons d t => exact .inr ⟨d, t, rfl, by have := of_decide_eq_false h4; simp at this; omega⟩
    have c1 := Escape_ok (a ++ b) q (by simp; omega)
    rw [escape_app q a.length a b (Nat.le_refl _) hb0] at c1
    have c2 := Escape_ok a q (by omega)
    have c3 := Escape_ok b q (by omega)
    have l2 := (escape_len a.length q a (Nat.le_refl _)).2
    have l3 := (escape_len b.length q b (Nat.le_refl _)).2
    generalize escape q a = x at *
    generalize escape q b = y at *
    repeat (first | refine ⟨fun _ => ?_, fun h => absurd h (by decide)⟩ | refine ⟨fun h => absurd h (by decide), fun _ => ?_⟩)
    refine ⟨(by first | omega | (simp; done) | (simp; omega)), PureC.use c1 (PureC.use c2 (PureC.use c3 ⟨(by first | omega | (simp; done) | (simp; omega)), ?_⟩))⟩
    exact ⟨_, _, fin_out rfl, congrArg (fun b => AV.d (.bool b)) (by simp)⟩
  · have ha : a.length ≤ 3000 := by have := of_decide_eq_false h1; omega
    have hb : b.length ≤ 3000 := by have := of_decide_eq_false h2; omega
    have hb0 : b = [] := List.length_eq_zero_iff.1 (by have := of_decide_eq_false h3; omega)
    have c1 := Escape_ok (a ++ b) q (by simp; omega)
    rw [escape_app q a.length a b (Nat.le_refl _) (.inl hb0)] at c1
    have c2 := Escape_ok a q (by omega)
    have c3 := Escape_ok b q (by omega)
    have l2 := (escape_len a.length q a (Nat.le_refl _)).2
    have l3 := (escape_len b.length q b (Nat.le_refl _)).2
    generalize escape q a = x at *
    generalize escape q b = y at *
    repeat (first | refine ⟨fun _ => ?_, fun h => absurd h (by decide)⟩ | refine ⟨fun h => absurd h (by decide), fun _ => ?_⟩)
    refine ⟨(by first | omega | (simp; done) | (simp; omega)), PureC.use c1 (PureC.use c2 (PureC.use c3 ⟨(by first | omega | (simp; done) | (simp; omega)), ?_⟩))⟩
    exact ⟨_, _, fin_out rfl, congrArg (fun b => AV.d (.bool b)) (by simp)⟩
  · exact ⟨_, _, fin_out rfl, rfl⟩
  · exact ⟨_, _, fin_out rfl, rfl⟩

end Go.Proofs.Ytfkghepfeegmhaa
