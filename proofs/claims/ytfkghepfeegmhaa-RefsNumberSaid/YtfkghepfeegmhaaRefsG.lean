import Derived.Test.YtfkghepfeegmhaaRefsF
namespace Go.Proofs.Ytfkghepfeegmhaa
open Go.Aw

theorem digs_next {b : Nat} {e : List UInt8} {k n : Nat} (h : k < e.length) : digs b (e.drop k) n = match hexv e[k] with
    | some d => if d < b then digs b (e.drop (k + 1)) (n * b + d) else none
    | none => none := by
  rw [List.drop_eq_getElem_cons h]; rfl
theorem p16 {k : Nat} (h : k ≤ 7) : 16 ^ k ≤ 268435456 := Nat.pow_le_pow_right (by decide) h

set_option maxRecDepth 100000 in
theorem body_ok (s : List UInt8) (hs : s.length ≤ 9223372036854775807) : PureC Try.prog 34 [.d (.str s)] (optV (stands s)) := by
  refine PureC.of rfl (optV_pure _) (fn_okTE Try.wf Try.tab_ok Try.func34 (by decide +kernel) rfl rfl ?_)
  refine E.seq (E.of Try.wf Try.tab_ok ?_)
  refine E.seq (E.of Try.wf Try.tab_ok ?_)
  have nam : ∀ σ : Store, stands s = named s → CallsAbs Try.prog 13 [.d (.str s)] σ fun r σ' => r = optV (stands s) ∧ σ' = σ := fun σ h => by rw [h]; exact rNamed_ok s σ
  by_cases hh : ∃ x e, s = 35 :: x :: e
  · obtain ⟨x, e0, rfl⟩ := hh
    simp only [List.length_cons] at hs
    refine ⟨fun _ => ?_, fun h => absurd (of_decide_eq_true h) (by simp; omega)⟩
    refine ⟨⟨by omega, by simp; omega⟩, fun h => absurd h (by simp), fun _ => ?_⟩
    refine E.seq (E.of Try.wf Try.tab_ok ?_)
    refine E.seq (E.of Try.wf Try.tab_ok ?_)
    refine ⟨⟨by omega, by simp; omega, by simp⟩, ?_⟩
    have ed : List.drop (Int.toNat 1) (List.take (Int.toNat ((35 :: x :: e0).length : Nat)) (35 :: x :: e0)) = x :: e0 := (tail_at [35] (x :: e0))
    rw [ed]
    refine E.seq (E.of Try.wf Try.tab_ok ?_)
    rw [stands_hash]
    have key : ∃ (e : List UInt8) (b m : Nat), b ≤ 16 ∧ m ≤ 7 ∧ e.length ≤ e0.length + 1 ∧ hashN (x :: e0) = number e b m ∧
        ((x = 120 ∧ e0 = e ∧ b = 16 ∧ m = 6) ∨ (x ≠ 120 ∧ x = 88 ∧ e0 = e ∧ b = 16 ∧ m = 6) ∨ (x ≠ 120 ∧ x ≠ 88 ∧ x :: e0 = e ∧ b = 10 ∧ m = 7)) := by
      by_cases h1 : x = 120
      · subst h1; exact ⟨e0, 16, 6, by decide, by decide, by omega, hash_x e0, .inl ⟨rfl, rfl, rfl, rfl⟩⟩
      · by_cases h2 : x = 88
        · subst h2; exact ⟨e0, 16, 6, by decide, by decide, by omega, hash_X e0, .inr (.inl ⟨h1, rfl, rfl, rfl, rfl⟩)⟩
        · exact ⟨x :: e0, 10, 7, by decide, by decide, by simp, hash_d _ (fun e q => h1 (by injection q)) (fun e q => h2 (by injection q)), .inr (.inr ⟨h1, h2, rfl, rfl, rfl⟩)⟩
    obtain ⟨e, b, m, hb, hm, hel, hN, hcase⟩ := key
    rw [hN]
    refine midT Try.wf Try.tab_ok (fun s' σ => s' = [(4, .d (.int .i64 b)), (5, .d (.str e)), (6, .d (.int .i64 m))] ∧ σ = ⟨0, []⟩) ?_ ?_
    · refine ⟨⟨by omega, (by first | omega | (simp; done) | (simp; omega))⟩, ?_⟩
      rcases hcase with ⟨rfl, rfl, rfl, rfl⟩ | ⟨h1, rfl, rfl, rfl, rfl⟩ | ⟨h1, h2, rfl, rfl, rfl⟩
      · refine ⟨fun h => absurd h (by simp), fun _ => ?_⟩
        refine ⟨⟨by omega, (by first | omega | (simp; done) | (simp; omega)), by simp⟩, _, _, ⟨rfl, rfl⟩, Mv.of [] rfl rfl rfl trivial ⟨rfl, congrArg D.str (tail_at [120] e0).symm, rfl, trivial⟩⟩
      · refine ⟨fun _ => ?_, fun h => absurd h (by simp)⟩
        refine ⟨⟨by omega, (by first | omega | (simp; done) | (simp; omega))⟩, fun _ => ?_, fun h => absurd h (by simp)⟩
        refine ⟨⟨by omega, (by first | omega | (simp; done) | (simp; omega)), by simp⟩, _, _, ⟨rfl, rfl⟩, Mv.of [] rfl rfl rfl trivial ⟨rfl, congrArg D.str (tail_at [88] e0).symm, rfl, trivial⟩⟩
      · refine ⟨fun _ => ?_, fun h => absurd (u8_is' (of_decide_eq_true h) rfl) h1⟩
        refine ⟨⟨by omega, (by first | omega | (simp; done) | (simp; omega))⟩, fun h => absurd (u8_is' (of_decide_eq_true h) rfl) h2, fun _ => ?_⟩
        exact ⟨_, _, ⟨rfl, rfl⟩, Mv.of [] rfl rfl rfl trivial ⟨rfl, rfl, rfl, trivial⟩⟩
    rintro _ _ ⟨rfl, rfl⟩
    refine E.of Try.wf Try.tab_ok ?_
    have no : ∀ σ : Store, number e b m = none → ∃ r' σ', FinMove ⟨0, []⟩ (AV.tup [.d (.str []), .d (.bool false)]) σ r' σ' ∧ r' = optV ((number e b m).map fun (n : Nat) => enc (fixN (n : Int))) ∧ σ'.n = 0 := fun σ h => ⟨_, _, fin_out rfl, by rw [h]; rfl, rfl⟩
    refine ⟨fun h1 => ⟨fun h2 => ?_, fun h2 => ?_⟩, fun h1 => ?_⟩
    · exact no _ (if_pos (.inr (by have := of_decide_eq_true h2; omega)))
    · have h1' : 1 ≤ e.length := by have := of_decide_eq_false h1; omega
      have h2' : e.length ≤ m := by have := of_decide_eq_false h2; omega
      have hD : number e b m = digs b e 0 := if_neg (by rintro (h | h); subst h; simp at h1'; omega)
      clear h1 h2
      refine loopT Try.wf Try.tab_ok (fun q s' σ => ∃ k n : Nat, q = e.length - k ∧ k ≤ e.length ∧ n + 1 ≤ 16 ^ k ∧ digs b e 0 = digs b (e.drop k) n ∧ s' = [(4, .d (.int .i64 b)), (5, .d (.str e)), (7, .d (.int .i64 n)), (8, .d (.int .i64 k))] ∧ σ = ⟨0, []⟩)
        ⟨0, 0, rfl, Nat.zero_le _, by simp, rfl, rfl, rfl⟩ (Mv.of [] rfl rfl rfl trivial ⟨rfl, rfl, rfl, rfl, trivial⟩) ?_
      rintro _ _ _ ⟨k, n, rfl, hk, hn, hI, rfl, rfl⟩
      have h16 := p16 (k := k) (by omega)
      refine ⟨fun h => ?_, fun h => ?_⟩
      · have hlt : k < e.length := by have := of_decide_eq_true h; omega
        have hg := getD_at e k hlt
        refine ⟨⟨by omega, by omega⟩, ?_⟩
        rw [hg]
        rw [digs_next hlt] at hI
        have c := digit_ok e[k] b hb
        unfold digV at c
        cases hv : hexv e[k] with
        | none =>
          rw [hv] at hI c
          dsimp only at hI c
          exact PureC.use c ⟨fun _ => no _ (hD.trans hI), fun h => absurd h (by decide)⟩
        | some d =>
          rw [hv] at hI c
          dsimp only at hI c
          have hd16 := hexv_lt hv
          by_cases hdb : d < b
          · rw [if_pos hdb] at hI c
            have hmul : n * b ≤ n * 16 := Nat.mul_le_mul_left _ hb
            have hcast : (n : Int) * (b : Int) = ((n * b : Nat) : Int) := by simp
            have hd0 : (0 : Int) ≤ (d : Int) := Int.natCast_nonneg d
            have hpos : (0 : Int) ≤ (n : Int) * (b : Int) := Int.mul_nonneg (by omega) (by omega)
            refine PureC.use c ⟨fun h => absurd (of_decide_eq_true h) (by omega), fun _ => ?_⟩
            refine .inl ⟨⟨by omega, by omega⟩, .inl ⟨⟨by omega, by omega⟩, .inl ⟨⟨by omega, by omega⟩, ?_⟩⟩⟩
            refine ⟨_, _, _, ⟨k + 1, n * b + d, rfl, hlt, ?_, hI, rfl, rfl⟩, by omega, Mv.of [] rfl rfl rfl trivial ⟨rfl, rfl, congrArg (D.int .i64) (by simp), rfl, trivial⟩⟩
            rw [Nat.pow_succ]; omega
          · rw [if_neg hdb] at hI c
            exact PureC.use c ⟨fun _ => no _ (hD.trans hI), fun h => absurd h (by decide)⟩
      · have hk' : k = e.length := by have := of_decide_eq_false h; omega
        subst hk'
        rw [List.drop_length] at hI
        refine PureC.use (Char_ok (n : Int) (by omega) (by omega)) ?_
        exact ⟨_, _, fin_out rfl, by rw [hD, hI]; rfl, rfl⟩
    · exact no _ (if_pos (.inl (by have := of_decide_eq_true h1; exact List.length_eq_zero_iff.1 (by omega))))
  · have hst : stands s = named s := by
      cases s with
      | nil => rfl
      | cons c r =>
        by_cases hc : c = 35
        · subst hc
          cases r with
          | nil => rfl
          | cons x e => exact absurd ⟨x, e, rfl⟩ hh
        · exact stands_named _ (fun d e => hc (by injection e))
    have fin : ∀ (o : Option (List UInt8)) (σ : Store), stands s = o → ∃ r' σ', FinMove ⟨0, []⟩ (optV o) σ r' σ' ∧ r' = optV (stands s) ∧ σ'.n = 0 := fun o σ h => ⟨_, _, fin_out (optV_pure _), by rw [h], rfl⟩
    have c := rNamed_ok s
    rw [← hst] at c
    have go : ∀ o, stands s = o → PureC Try.prog 13 [.d (.str s)] (optV o) := fun o h => h ▸ c
    refine ⟨fun h1 => ?_, fun h1 => ?_⟩
    · have h1' : 2 ≤ s.length := by have := of_decide_eq_false h1; omega
      obtain ⟨c0, x, e, rfl⟩ : ∃ c0 x e, s = c0 :: x :: e := by
        match s, h1' with
        | c0 :: x :: e, _ => exact ⟨c0, x, e, rfl⟩
      have hc : c0 ≠ 35 := fun h => hh ⟨x, e, by rw [h]⟩
      refine ⟨⟨by omega, by simp; omega⟩, fun _ => ?_, fun h => absurd (u8_is' (of_decide_eq_true (by simpa using h)) rfl) hc⟩
      cases ho : stands (c0 :: x :: e) with
      | none => exact PureC.use (go _ ho) ⟨_, _, fin_out rfl, rfl, rfl⟩
      | some u => exact PureC.use (go _ ho) ⟨_, _, fin_out rfl, rfl, rfl⟩
    · cases ho : stands s with
      | none => exact PureC.use (go _ ho) ⟨_, _, fin_out rfl, rfl, rfl⟩
      | some u => exact PureC.use (go _ ho) ⟨_, _, fin_out rfl, rfl, rfl⟩

end Go.Proofs.Ytfkghepfeegmhaa
