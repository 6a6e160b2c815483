import Derived.Test.YtampfnlmojgjgaaT14
namespace Go.Proofs.Ytampfnlmojgjgaa
open Go.Aw

theorem bare_id (s : List UInt8) (h : ∀ c ∈ s, 32 < c.toNat) : bare s = s := by
  have hsp : ∀ c ∈ s, sp c = false := fun c hc => by have := h c hc; simp [sp]; omega
  have hL : trimL s = s := by
    cases s with
    | nil => rfl
    | cons c r => simp [trimL, hsp c (by simp)]
  have hR : trimR s = s := by
    unfold trimR
    have : s.reverse.dropWhile sp = s.reverse := by
      cases hr : s.reverse with
      | nil => rfl
      | cons c r =>
        have hc : c ∈ s := by rw [← List.mem_reverse, hr]; simp
        simp [hsp c hc]
    rw [this, List.reverse_reverse]
  rw [bare, hL, hR]
  refine List.filter_eq_self.2 fun c hc => ?_
  have := h c hc
  simp [kept]; omega
theorem lower_id (s : List UInt8) (h : ∀ c ∈ s, ¬ (65 ≤ c.toNat ∧ c.toNat ≤ 90)) : lower s = s := by
  unfold lower
  refine (List.map_congr_left fun c hc => lowB_lo c (h c hc)).trans (List.map_id' s)
theorem scan_letters : ∀ (m acc r : List UInt8), (∀ c ∈ m, letter c = true) → acc ++ m ≠ [] → scan acc (m ++ 58 :: r) = some (acc ++ m)
  | [], acc, r, _, h => by
    have : acc ≠ [] := by simpa using h
    simp [scan, letter, this]
  | c :: m, acc, r, hm, h => by
    rw [List.cons_append, scan, if_pos (hm c (by simp)), scan_letters m (acc ++ [c]) r (fun d hd => hm d (by simp [hd])) (by simp)]
    simp
theorem scan_none : ∀ (s acc : List UInt8), (∀ c ∈ s, c.toNat ≠ 58) → scan acc s = none
  | [], _, _ => rfl
  | c :: r, acc, h => by
    unfold scan
    rw [scan_none r _ (fun d hd => h d (by simp [hd])), if_neg (h c (by simp))]
    simp
def okc (c : UInt8) : Prop := (97 ≤ c.toNat ∧ c.toNat ≤ 122) ∨ (48 ≤ c.toNat ∧ c.toNat ≤ 57) ∨ c.toNat = 95
theorem plain_scheme (m s : List UInt8) (x : List UInt8) (hm0 : m ≠ []) (hm : ∀ c ∈ m, 97 ≤ c.toNat ∧ c.toNat ≤ 122) (hs : ∀ c ∈ s, okc c) (hx : ∀ c ∈ x, c.toNat = 47) : schemeO (m ++ 58 :: (x ++ s)) = some m := by
  have h1 : ∀ c ∈ m ++ 58 :: (x ++ s), 32 < c.toNat ∧ ¬ (65 ≤ c.toNat ∧ c.toNat ≤ 90) := by
    intro c hc
    simp only [List.mem_append, List.mem_cons] at hc
    rcases hc with h | h | h | h
    · have := hm c h; omega
    · subst h; decide
    · have := hx c h; omega
    · have := hs c h; unfold okc at this; omega
  rw [schemeO, bare_id _ (fun c hc => (h1 c hc).1), lower_id _ (fun c hc => (h1 c hc).2), scan_letters m [] _ (fun c hc => by have := hm c hc; simp [letter]; omega) (by simpa using hm0)]
  rfl
theorem plain_none (s x : List UInt8) (hs : ∀ c ∈ s, okc c) (hx : ∀ c ∈ x, c.toNat = 47) : schemeO (x ++ s) = none ∧ bare (x ++ s) = x ++ s := by
  have h1 : ∀ c ∈ x ++ s, 32 < c.toNat ∧ ¬ (65 ≤ c.toNat ∧ c.toNat ≤ 90) ∧ c.toNat ≠ 58 := by
    intro c hc
    rcases List.mem_append.1 hc with h | h
    · have := hx c h; omega
    · have := hs c h; unfold okc at this; omega
  have hb := bare_id _ (fun c hc => (h1 c hc).1)
  refine ⟨?_, hb⟩
  rw [schemeO, hb, lower_id _ (fun c hc => (h1 c hc).2.1), scan_none _ _ (fun c hc => (h1 c hc).2.2)]
theorem plain_allowed (s x : List UInt8) (l : List (List UInt8)) (hs : ∀ c ∈ s, okc c) (hx : ∀ c ∈ x, c.toNat = 47) : allowed (x ++ s) l = !hasPre (x ++ s) [47, 47] := by
  obtain ⟨h1, h2⟩ := plain_none s x hs hx
  rw [allowed, if_neg (by simp [schemeB, h1]), h2]
  have : (x ++ s).all (fun c => !badc c) = true := by
    rw [List.all_eq_true]
    intro c hc
    rcases List.mem_append.1 hc with h | h
    · have := hx c h; simp [badc]; omega
    · have := hs c h; unfold okc at this; simp [badc]; omega
  rw [this, Bool.and_true]
theorem hasPre_s (s : List UInt8) (hs : ∀ c ∈ s, okc c) : hasPre s [47, 47] = false ∧ hasPre (47 :: s) [47, 47] = false ∧ hasPre (47 :: 47 :: s) [47, 47] = true := by
  have h47 : ¬ okc 47 := by unfold okc; decide
  refine ⟨?_, ?_, by simp [hasPre]⟩
  · cases s with
    | nil => rfl
    | cons c r =>
      have hc : c ≠ 47 := fun e => h47 (e ▸ hs c (by simp))
      simp [hasPre, hc]
  · cases s with
    | nil => rfl
    | cons c r =>
      have hc : c ≠ 47 := fun e => h47 (e ▸ hs c (by simp))
      simp [hasPre, hc]

theorem take_snoc_all {p : UInt8 → Prop} (s : List UInt8) (k : Nat) (hlt : k < s.length) (h : ∀ c ∈ s.take k, p c) (hk : p s[k]) : ∀ c ∈ s.take (k + 1), p c := by
  intro c hc
  rw [List.take_succ_eq_append_getElem hlt] at hc
  rcases List.mem_append.1 hc with q | q
  · exact h c q
  · simp at q; subst q; exact hk

set_option maxRecDepth 10000 in
theorem UrlPlain_ok (s m : List UInt8) : PureC Try.prog 7 [.d (.str s), .d (.str m)] (.d (.bool true)) := by
  refine pure_okT Try.wf Try.tab_ok Try.func7 (by decide +kernel) rfl rfl rfl rfl ?_
  refine PureC.use awake_ok ⟨fun h1 => ⟨fun h2 => ⟨fun h3 => ?_, fun h3 => ?_⟩, fun h2 => ?_⟩, fun h1 => ?_⟩
  · exact ⟨_, _, FinMove.refl _ _ _, rfl⟩
  · have hsl : s.length ≤ 1000 := by have := of_decide_eq_false h1; omega
    have hm1 : 1 ≤ m.length := by have := of_decide_eq_false h2; omega
    have hm2 : m.length ≤ 100 := by have := of_decide_eq_false h3; omega
    clear h1 h2 h3
    refine loopT Try.wf Try.tab_ok (fun n s' σ => ∃ k : Nat, n = s.length - k ∧ k ≤ s.length ∧ (∀ c ∈ s.take k, okc c) ∧ s' = [(0, .d (.str s)), (1, .d (.str m)), (5, .d (.bool true)), (6, .d (.int .i64 k))] ∧ σ = ⟨0, []⟩)
      ⟨0, rfl, Nat.zero_le _, by simp, rfl, rfl⟩ (Mv.of [] rfl rfl rfl trivial ⟨rfl, rfl, rfl, rfl, trivial⟩) ?_
    rintro _ _ _ ⟨k, rfl, hk, hI, rfl, rfl⟩
    refine ⟨fun h => ?_, fun h => ?_⟩
    · have hlt : k < s.length := by have := of_decide_eq_true h; omega
      have hg := getD_at s k hlt
      refine ⟨⟨by omega, by omega⟩, ?_⟩
      rw [hg]
      clear h hg
      (repeat' first | refine ⟨fun _ => ?_, fun _ => ?_⟩ | fail)
      all_goals first | exact ⟨_, _, FinMove.refl _ _ _, rfl⟩ | skip
      all_goals
        refine .inl ⟨⟨by omega, by omega⟩, _, _, _, ⟨k + 1, rfl, hlt, take_snoc_all s k hlt hI ?_, rfl, rfl⟩, by omega, Mv.of [] rfl rfl rfl trivial ⟨rfl, rfl, rfl, rfl, trivial⟩⟩
        simp only [decide_eq_true_eq, decide_eq_false_iff_not, Bool.not_eq_true', Bool.not_eq_false', Bool.not_eq_eq_eq_not, Bool.not_true, Bool.not_false] at *
        unfold okc
        omega
    · have hk' : k = s.length := by have := of_decide_eq_false h; omega
      subst hk'
      rw [List.take_length] at hI
      clear h
      refine loopT Try.wf Try.tab_ok (fun n s' σ => ∃ k : Nat, n = m.length - k ∧ k ≤ m.length ∧ (∀ c ∈ m.take k, 97 ≤ c.toNat ∧ c.toNat ≤ 122) ∧ s' = [(0, .d (.str s)), (1, .d (.str m)), (5, .d (.bool true)), (8, .d (.int .i64 k))] ∧ σ = ⟨0, []⟩)
        ⟨0, rfl, Nat.zero_le _, by simp, rfl, rfl⟩ (Mv.of [] rfl rfl rfl trivial ⟨rfl, rfl, rfl, rfl, trivial⟩) ?_
      rintro _ _ _ ⟨k, rfl, hk, hJ, rfl, rfl⟩
      refine ⟨fun h => ?_, fun h => ?_⟩
      · have hlt : k < m.length := by have := of_decide_eq_true h; omega
        have hg := getD_at m k hlt
        refine ⟨⟨by omega, by omega⟩, ?_⟩
        rw [hg]
        refine ⟨fun h4 => ⟨⟨by omega, by omega⟩, ?_⟩, fun h4 => ?_⟩
        · rw [hg]
          refine ⟨fun h5 => ?_, fun h5 => ?_⟩
          · exact ⟨_, _, FinMove.refl _ _ _, rfl⟩
          · have h4' := of_decide_eq_false h4
            have h5' := of_decide_eq_false h5
            exact .inl ⟨⟨by omega, by omega⟩, _, _, _, ⟨k + 1, rfl, hlt, take_snoc_all m k hlt hJ (by omega), rfl, rfl⟩, by omega, Mv.of [] rfl rfl rfl trivial ⟨rfl, rfl, rfl, rfl, trivial⟩⟩
        · exact ⟨_, _, FinMove.refl _ _ _, rfl⟩
      · have hk' : k = m.length := by have := of_decide_eq_false h; omega
        subst hk'
        rw [List.take_length] at hJ
        clear h
        have hm0 : m ≠ [] := by intro e; subst e; simp at hm1
        obtain ⟨p1, p2, p3⟩ := hasPre_s s hI
        have f1 : schemeV (m ++ [58] ++ s) = .tup [.d (.str m), .d (.bool true)] := by
          have := plain_scheme m s [] hm0 hJ hI (by simp)
          rw [List.nil_append] at this
          rw [List.append_assoc]
          exact schemeV_some this
        have f2 : allowed ([47] ++ s) [] = true := by
          rw [plain_allowed s [47] [] hI (by simp)]; simp [p2]
        have f3 : allowed s [] = true := by
          have := plain_allowed s [] [] hI (by simp)
          rw [List.nil_append] at this
          rw [this, p1]; rfl
        have f4 : allowed ([47, 47] ++ s) [m] = false := by
          rw [plain_allowed s [47, 47] [m] hI (by simp)]; simp [p3]
        have f5 : allowed (m ++ [58, 47, 47] ++ s) [m] = true := by
          have := plain_scheme m s [47, 47] hm0 hJ hI (by simp)
          have e : m ++ [58, 47, 47] ++ s = m ++ 58 :: ([47, 47] ++ s) := by simp
          have hB : schemeB (m ++ 58 :: ([47, 47] ++ s)) = true := by unfold schemeB; rw [this]; rfl
          have hS : schemeS (m ++ 58 :: ([47, 47] ++ s)) = m := by unfold schemeS; rw [this]; rfl
          rw [e, allowed_one _ _ hB, hS]
          simp
        have f6 : allowed (m ++ [58] ++ s) [] = false := by
          have := plain_scheme m s [] hm0 hJ hI (by simp)
          rw [List.nil_append] at this
          rw [List.append_assoc]
          exact allowed_nil _ (by unfold schemeB; exact (congrArg Option.isSome this).trans rfl)
        have c1 := Scheme_ok (m ++ [58] ++ s) (by simp; omega)
        have c2 := Allowed_ok ([47] ++ s) [] (by simp; omega) (by simp)
        have c3 := Allowed_ok s [] (by omega) (by simp)
        have c4 := Allowed_ok ([47, 47] ++ s) [m] (by simp; omega) (by simp)
        have c5 := Allowed_ok (m ++ [58, 47, 47] ++ s) [m] (by simp; omega) (by simp)
        have c6 := Allowed_ok (m ++ [58] ++ s) [] (by simp; omega) (by simp)
        rw [f1] at c1; rw [f2] at c2; rw [f3] at c3; rw [f4] at c4; rw [f5] at c5; rw [f6] at c6
        refine ⟨by simp; omega, by simp; omega, PureC.use c1 ?_⟩
        repeat (first | refine ⟨fun _ => ?_, fun h => absurd h (by decide)⟩ | refine ⟨fun h => absurd h (by decide), fun _ => ?_⟩)
        refine ⟨by simp; omega, CallsAbs.sub (sub_nil1 _) (PureC.use c2 ?_)⟩
        repeat (first | refine ⟨fun _ => ?_, fun h => absurd h (by decide)⟩ | refine ⟨fun h => absurd h (by decide), fun _ => ?_⟩)
        refine CallsAbs.sub (sub_nil1 _) (PureC.use c3 ?_)
        repeat (first | refine ⟨fun _ => ?_, fun h => absurd h (by decide)⟩ | refine ⟨fun h => absurd h (by decide), fun _ => ?_⟩)
        refine ⟨fun _ => ?_, fun h => absurd h (by simp)⟩
        refine ⟨by simp; omega, CallsAbs.freeze 0 rfl rfl ⟨trivial, fun _ => Nat.le_refl _, trivial⟩ (PureC.use c4 ?_)⟩
        repeat (first | refine ⟨fun _ => ?_, fun h => absurd h (by decide)⟩ | refine ⟨fun h => absurd h (by decide), fun _ => ?_⟩)
        refine ⟨by simp; omega, by simp; omega, CallsAbs.freeze 1 rfl rfl ⟨trivial, fun _ => Nat.le_refl _, trivial⟩ (PureC.use c5 ?_)⟩
        repeat (first | refine ⟨fun _ => ?_, fun h => absurd h (by decide)⟩ | refine ⟨fun h => absurd h (by decide), fun _ => ?_⟩)
        refine ⟨by simp; omega, by simp; omega, CallsAbs.sub (sub_nil1 _) (PureC.use c6 ?_)⟩
        exact ⟨.d (.bool true), ⟨0, []⟩, fin_mv [] rfl rfl rfl trivial rfl, rfl⟩
  · exact ⟨_, _, FinMove.refl _ _ _, rfl⟩
  · exact ⟨_, _, FinMove.refl _ _ _, rfl⟩
theorem UrlMore_law {n m o : Nat} {r q p : List D} (h : DOk Try.prog n 9 r) (k : DOk Try.prog m 27 q) (j : DOk Try.prog o 9 p) : PureC Try.prog 6 [argAV Try.prog 9 r, argAV Try.prog 27 q, argAV Try.prog 9 p] (.d (.bool true)) := by
  obtain ⟨s, rfl, _⟩ := dok_str h
  obtain ⟨l, rfl, _, _⟩ := dok_strs k
  obtain ⟨u, rfl, _⟩ := dok_str j
  rw [arg_str, arg_strs, arg_str]
  exact UrlMore_ok s l u
theorem UrlPlain_law {n m : Nat} {r q : List D} (h : DOk Try.prog n 9 r) (k : DOk Try.prog m 9 q) : PureC Try.prog 7 [argAV Try.prog 9 r, argAV Try.prog 9 q] (.d (.bool true)) := by
  obtain ⟨s, rfl, _⟩ := dok_str h
  obtain ⟨u, rfl, _⟩ := dok_str k
  rw [arg_str, arg_str]
  exact UrlPlain_ok s u
end Go.Proofs.Ytampfnlmojgjgaa
