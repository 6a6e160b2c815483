import Derived.Test.YtampfnlmojgjgaaT3
import Derived.Test.YtampfnlmojgjgaaT1
namespace Go.Proofs.Ytampfnlmojgjgaa
open Go.Aw

theorem getD_at (s : List UInt8) (k : Nat) (h : k < s.length) : s.getD ((k : Nat) : Int).toNat 0 = s[k] := by
  rw [Int.toNat_natCast, List.getD_eq_getElem?_getD, List.getElem?_eq_getElem h, Option.getD_some]
theorem trimL_drop (s : List UInt8) (k : Nat) (h : k < s.length) : trimL (s.drop k) = if sp s[k] then trimL (s.drop (k + 1)) else s.drop k := by
  unfold trimL
  rw [List.drop_eq_getElem_cons h, List.dropWhile_cons]
theorem cut_snoc (s : List UInt8) (k e : Nat) (h1 : k < e) (h2 : e ≤ s.length) : (s.take e).drop k = (s.take (e - 1)).drop k ++ [s[e - 1]] := by
  have h3 : e - 1 < s.length := by omega
  have := List.take_succ_eq_append_getElem h3
  rw [show e - 1 + 1 = e by omega] at this
  rw [this, List.drop_append_of_le_length (by simp; omega)]

theorem cut_snoc1 (s : List UInt8) (k i : Nat) (h1 : k ≤ i) (h2 : i < s.length) : (s.take (i + 1)).drop k = (s.take i).drop k ++ [s[i]] := by
  rw [List.take_succ_eq_append_getElem h2, List.drop_append_of_le_length (by simp; omega)]

set_option maxRecDepth 10000 in
theorem rBare_ok (s : List UInt8) (hs : s.length ≤ 4611686018427387903) : PureC Try.prog 13 [.d (.str s)] (.d (.str (bare s))) := by
  refine PureC.of rfl rfl (fn_okTE Try.wf Try.tab_ok Try.func13 (by decide +kernel) rfl rfl ?_)
  refine E.seq (E.of Try.wf Try.tab_ok ?_)
  refine E.seq (E.of Try.wf Try.tab_ok ?_)
  refine midT Try.wf Try.tab_ok (fun s' σ => ∃ k : Nat, k ≤ s.length ∧ s.drop k = trimL s ∧ s' = [(0, .d (.str s)), (3, .d (.int .i64 k))] ∧ σ = ⟨0, []⟩) ?_ ?_
  · refine loopT Try.wf Try.tab_ok (fun n s' σ => ∃ k : Nat, n = s.length - k ∧ k ≤ s.length ∧ trimL (s.drop k) = trimL s ∧ s' = [(0, .d (.str s)), (3, .d (.int .i64 k))] ∧ σ = ⟨0, []⟩) ⟨0, rfl, Nat.zero_le _, rfl, rfl, rfl⟩ (Mv.of [] rfl rfl rfl trivial ⟨rfl, rfl, trivial⟩) ?_
    rintro _ _ _ ⟨k, rfl, hk, ht, rfl, rfl⟩
    refine ⟨fun h => ?_, fun h => ?_⟩
    · have hlt : k < s.length := by have := of_decide_eq_true h; omega
      rw [trimL_drop s k hlt] at ht
      refine ⟨⟨by omega, by omega⟩, ⟨fun h2 => ?_, fun h2 => ?_⟩⟩
      · have h3 := of_decide_eq_true h2
        rw [getD_at s k hlt] at h3
        have hsp : sp s[k] = true := by simp [sp]; omega
        rw [if_pos hsp] at ht
        exact .inl ⟨⟨by omega, by omega⟩, _, _, _, ⟨k + 1, rfl, hlt, ht, rfl, rfl⟩, by omega, Mv.of [] rfl rfl rfl trivial ⟨rfl, rfl, trivial⟩⟩
      · have h3 := of_decide_eq_false h2
        rw [getD_at s k hlt] at h3
        have hsp : ¬ sp s[k] = true := by simp [sp]; omega
        rw [if_neg hsp] at ht
        exact ⟨_, _, ⟨k, hk, ht, rfl, rfl⟩, Mv.of [] rfl rfl rfl trivial ⟨rfl, rfl, trivial⟩⟩
    · have hk' : k = s.length := by have := of_decide_eq_false h; omega
      subst hk'
      refine ⟨_, _, ⟨s.length, hk, ?_, rfl, rfl⟩, Mv.of [] rfl rfl rfl trivial ⟨rfl, rfl, trivial⟩⟩
      rw [← ht]; simp [trimL]
  rintro _ _ ⟨k, hk, hkt, rfl, rfl⟩
  refine E.seq (E.of Try.wf Try.tab_ok ?_)
  refine midT Try.wf Try.tab_ok (fun s' σ => ∃ e : Nat, k ≤ e ∧ e ≤ s.length ∧ (s.take e).drop k = trimR (trimL s) ∧ s' = [(0, .d (.str s)), (3, .d (.int .i64 k)), (4, .d (.int .i64 e))] ∧ σ = ⟨0, []⟩) ?_ ?_
  · refine loopT Try.wf Try.tab_ok (fun n s' σ => ∃ e : Nat, n = 0 + e ∧ k ≤ e ∧ e ≤ s.length ∧ trimR ((s.take e).drop k) = trimR (trimL s) ∧ s' = [(0, .d (.str s)), (3, .d (.int .i64 k)), (4, .d (.int .i64 e))] ∧ σ = ⟨0, []⟩) ⟨s.length, rfl, hk, Nat.le_refl _, by rw [List.take_length, hkt], rfl, rfl⟩ (Mv.of [] rfl rfl rfl trivial ⟨rfl, rfl, rfl, trivial⟩) ?_
    rintro _ _ _ ⟨e, rfl, hke, he, ht, rfl, rfl⟩
    refine ⟨fun h => ?_, fun h => ?_⟩
    · have hlt : k < e := by have := of_decide_eq_true h; omega
      have e1 : ((e : Nat) : Int) - 1 = ((e - 1 : Nat) : Int) := by omega
      have hget := getD_at s (e - 1) (by omega)
      rw [← e1] at hget
      refine .inl ⟨⟨by omega, by omega⟩, ⟨by omega, by omega⟩, ⟨fun h2 => ?_, fun h2 => ?_⟩⟩
      · have h3 := of_decide_eq_true h2
        rw [hget] at h3
        have hsp : sp s[e - 1] = true := by simp [sp]; omega
        rw [cut_snoc s k e hlt he, trimR_snoc, if_pos hsp] at ht
        exact .inl ⟨⟨by omega, by omega⟩, _, _, _, ⟨e - 1, rfl, by omega, by omega, ht, rfl, rfl⟩, by omega, Mv.of [] rfl rfl rfl trivial ⟨rfl, rfl, congrArg (D.int .i64) e1.symm, trivial⟩⟩
      · have h3 := of_decide_eq_false h2
        rw [hget] at h3
        have hsp : ¬ sp s[e - 1] = true := by simp [sp]; omega
        rw [cut_snoc s k e hlt he, trimR_snoc, if_neg hsp, ← cut_snoc s k e hlt he] at ht
        exact ⟨_, _, ⟨e, hke, he, ht, rfl, rfl⟩, Mv.of [] rfl rfl rfl trivial ⟨rfl, rfl, rfl, trivial⟩⟩
    · have hk' : e = k := by have := of_decide_eq_false h; omega
      subst hk'
      refine ⟨_, _, ⟨e, hke, he, ?_, rfl, rfl⟩, Mv.of [] rfl rfl rfl trivial ⟨rfl, rfl, rfl, trivial⟩⟩
      have h0 : (s.take e).drop e = [] := List.drop_eq_nil_of_le (by simp; omega)
      rw [h0] at ht ⊢
      rw [← ht]; rfl
  rintro _ _ ⟨e, hke, he, het, rfl, rfl⟩
  refine E.of Try.wf Try.tab_ok ?_
  refine loopT Try.wf Try.tab_ok (fun n s' σ => ∃ i : Nat, n = e - i ∧ k ≤ i ∧ i ≤ e ∧ s' = [(0, .d (.str s)), (4, .d (.int .i64 e)), (5, .d (.str (((s.take i).drop k).filter kept))), (6, .d (.int .i64 i))] ∧ σ = ⟨0, []⟩)
    ⟨k, rfl, Nat.le_refl _, hke, rfl, rfl⟩ (Mv.of [] rfl rfl rfl trivial ⟨rfl, rfl, congrArg D.str (by rw [List.drop_eq_nil_of_le (by simp; omega)]; rfl), rfl, trivial⟩) ?_
  rintro _ _ _ ⟨i, rfl, hki, hie, rfl, rfl⟩
  refine ⟨fun h => ?_, fun h => ?_⟩
  · have hlt : i < e := by have := of_decide_eq_true h; omega
    have hg := getD_at s i (by omega)
    have step : ∀ b, kept s[i] = b → ((s.take (i + 1)).drop k).filter kept = ((s.take i).drop k).filter kept ++ (if b then [s[i]] else []) := by
      intro b hb
      rw [cut_snoc1 s k i hki (by omega), List.filter_append]
      cases b <;> simp [hb]
    refine ⟨⟨by omega, by omega⟩, ⟨fun h9 => ?_, fun h9 => ?_⟩⟩
    · refine ⟨⟨by omega, by omega⟩, ⟨fun h10 => ?_, fun h10 => ?_⟩⟩
      · refine ⟨⟨by omega, by omega⟩, ⟨fun h13 => ?_, fun h13 => ?_⟩⟩
        · have hkp : kept s[i] = true := by
            rw [hg] at h9 h10 h13
            simp at h9 h10 h13
            simp [kept]; omega
          have hlen : (((s.take i).drop k).filter kept).length ≤ s.length := Nat.le_trans (List.length_filter_le _ _) (by simp; omega)
          have e2 : ((s.take ((i : Int) + 1).toNat).drop ((i : Nat) : Int).toNat) = [s[i]] := by
            rw [Int.toNat_natCast, show ((i : Int) + 1).toNat = i + 1 by omega, cut_snoc1 s i i (Nat.le_refl _) (by omega)]
            simp
          refine .inl ⟨⟨by omega, by omega⟩, ⟨by omega, by omega, by omega⟩, ?_, .inl ⟨⟨by omega, by omega⟩, _, _, _, ⟨i + 1, rfl, by omega, hlt, rfl, rfl⟩, by omega, Mv.of [] rfl rfl rfl trivial ⟨rfl, rfl, congrArg D.str ?_, rfl, trivial⟩⟩⟩
          · rw [e2]; simp; omega
          · rw [step _ hkp]; show _ = _ ++ _; rw [e2]; rfl
        · have hkp : kept s[i] = false := by
            rw [hg] at h13
            simp at h13
            simp [kept]; omega
          exact .inl ⟨⟨by omega, by omega⟩, _, _, _, ⟨i + 1, rfl, by omega, hlt, rfl, rfl⟩, by omega, Mv.of [] rfl rfl rfl trivial ⟨rfl, rfl, congrArg D.str (by rw [step _ hkp]; simp), rfl, trivial⟩⟩
      · have hkp : kept s[i] = false := by
          rw [hg] at h10
          simp at h10
          simp [kept]; omega
        exact .inl ⟨⟨by omega, by omega⟩, _, _, _, ⟨i + 1, rfl, by omega, hlt, rfl, rfl⟩, by omega, Mv.of [] rfl rfl rfl trivial ⟨rfl, rfl, congrArg D.str (by rw [step _ hkp]; simp), rfl, trivial⟩⟩
    · have hkp : kept s[i] = false := by
        rw [hg] at h9
        simp at h9
        simp [kept]; omega
      exact .inl ⟨⟨by omega, by omega⟩, _, _, _, ⟨i + 1, rfl, by omega, hlt, rfl, rfl⟩, by omega, Mv.of [] rfl rfl rfl trivial ⟨rfl, rfl, congrArg D.str (by rw [step _ hkp]; simp), rfl, trivial⟩⟩
  · have hie' : i = e := by have := of_decide_eq_false h; omega
    subst hie'
    refine ⟨.d (.str (bare s)), ⟨0, []⟩, fin_mv [] rfl rfl rfl trivial (congrArg D.str ?_), rfl, rfl⟩
    rw [bare, ← het]
end Go.Proofs.Ytampfnlmojgjgaa
