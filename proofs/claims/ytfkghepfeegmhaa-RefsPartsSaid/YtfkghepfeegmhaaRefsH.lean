import Derived.Test.YtfkghepfeegmhaaRefsG
namespace Go.Proofs.Ytfkghepfeegmhaa
open Go.Aw

def oneV (r : List UInt8) : AV := match oneR r with
  | some (t, r') => .tup [.d (.str t), .d (.int .i64 ((r.length - r'.length + 1 : Nat)))]
  | none => .tup [.d (.str []), .d (.int .i64 0)]
theorem oneV_pure (r : List UInt8) : (oneV r).pure = true := by unfold oneV; split <;> rfl
theorem oneV_none {r : List UInt8} (h : oneR r = none) : oneV r = .tup [.d (.str []), .d (.int .i64 0)] := by unfold oneV; rw [h]
theorem oneV_some {r t r' : List UInt8} (h : oneR r = some (t, r')) : oneV r = .tup [.d (.str t), .d (.int .i64 ((r.length - r'.length + 1 : Nat)))] := by unfold oneV; rw [h]

theorem mid_of (s : List UInt8) (a b : Nat) (h : b ≤ s.length) : ((s.take ((b : Nat) : Int).toNat).drop ((a : Nat) : Int).toNat) = (s.drop a).take (b - a) := by
  rw [Int.toNat_natCast, Int.toNat_natCast, List.drop_take]

set_option maxRecDepth 100000 in
theorem One_ok (s : List UInt8) (p : Nat) (hp : p < s.length) (hs : s.length ≤ 4611686018427387904) : PureC Try.prog 27 [.d (.str s), .d (.int .i64 p)] (oneV (s.drop (p + 1))) := by
  refine pure_okT Try.wf Try.tab_ok Try.func27 (by decide +kernel) rfl rfl rfl (oneV_pure _) ?_
  have hrl : (s.drop (p + 1)).length = s.length - (p + 1) := by simp
  refine .inl ⟨⟨by omega, by omega⟩, ?_⟩
  refine loopT Try.wf Try.tab_ok (fun q s' σ => ∃ i : Nat, q = 11 - i ∧ i ≤ 11 ∧ p + 1 + i ≤ s.length ∧ (59 : UInt8) ∉ (s.drop (p + 1)).take i ∧ s' = [(0, .d (.str s)), (1, .d (.int .i64 p)), (6, .d (.int .i64 ((p + 1 + i : Nat) : Int)))] ∧ σ = ⟨0, []⟩)
    ⟨0, rfl, Nat.zero_le _, by omega, by simp, rfl, rfl⟩ (Mv.of [] rfl rfl rfl trivial ⟨rfl, rfl, congrArg (D.int .i64) (by simp), trivial⟩) ?_
  rintro _ _ _ ⟨i, rfl, hi, hil, hI, rfl, rfl⟩
  have no : ∀ σ : Store, oneR (s.drop (p + 1)) = none → ∃ r2 σ2, FinMove ⟨0, []⟩ (AV.tup [.d (.str []), .d (.int .i64 0)]) σ r2 σ2 ∧ r2 = oneV (s.drop (p + 1)) := fun σ h => ⟨_, _, fin_out rfl, by rw [oneV_none h]⟩
  by_cases hc : p + 1 + i < s.length ∧ i < 11
  · obtain ⟨hlt, hi11⟩ := hc
    have hg := getD_at s (p + 1 + i) hlt
    repeat (first | refine ⟨fun _ => ?_, fun h => absurd (of_decide_eq_false h) (by omega)⟩ | refine ⟨fun h => absurd (of_decide_eq_true h) (by omega), fun _ => ?_⟩ | refine ⟨fun _ => ?_, fun h => absurd (of_decide_eq_true h) (by omega)⟩ | refine ⟨fun h => absurd (of_decide_eq_false h) (by omega), fun _ => ?_⟩ | refine .inl ⟨⟨by omega, by omega⟩, ?_⟩ | refine ⟨⟨by omega, by omega⟩, ?_⟩)
    rw [hg]
    have hir : i < (s.drop (p + 1)).length := by omega
    have hget : (s.drop (p + 1))[i] = s[p + 1 + i] := by simp
    have hr : s.drop (p + 1) = (s.drop (p + 1)).take i ++ s[p + 1 + i] :: (s.drop (p + 1)).drop (i + 1) := by
      conv => lhs; rw [← List.take_append_drop i (s.drop (p + 1))]
      rw [List.drop_eq_getElem_cons hir, hget]
    have htl : ((s.drop (p + 1)).take i).length = i := by rw [List.length_take]; omega
    refine ⟨fun h => ?_, fun h => ?_⟩
    · have h59 : s[p + 1 + i] = 59 := u8_is' (of_decide_eq_true h) rfl
      rw [h59] at hr
      have ho := oneR_some ((s.drop (p + 1)).take i) ((s.drop (p + 1)).drop (i + 1)) hI (by omega)
      rw [← hr] at ho
      refine .inl ⟨⟨by omega, by omega⟩, ⟨by omega, by omega, by omega⟩, ?_⟩
      refine CallsAbs.to [.d (.str ((s.drop (p + 1)).take i))] (congrArg (fun x => [AV.d (.str x)]) ?_) ?_
      · rw [show ((p : Int) + 1).toNat = p + 1 by omega, Int.toNat_natCast, List.drop_take]
        congr 1; omega
      have c := body_ok ((s.drop (p + 1)).take i) (by omega)
      cases hst : stands ((s.drop (p + 1)).take i) with
      | none =>
        rw [hst] at c ho
        exact PureC.use c ⟨fun h => absurd h (by decide), fun _ => no _ ho⟩
      | some t =>
        rw [hst] at c ho
        refine PureC.use c ⟨fun _ => ?_, fun h => absurd h (by decide)⟩
        refine .inl ⟨⟨by omega, by omega⟩, .inl ⟨⟨by omega, by omega⟩, ?_⟩⟩
        refine ⟨_, _, fin_out rfl, ?_⟩
        rw [oneV_some ho]
        refine congrArg (fun x => AV.tup [.d (.str t), .d (.int .i64 x)]) ?_
        have hdl : ((s.drop (p + 1)).drop (i + 1)).length = s.length - (p + 1) - (i + 1) := by simp; omega
        omega
    · have n59 : s[p + 1 + i] ≠ 59 := fun e => by rw [e] at h; exact absurd h (by decide)
      refine .inl ⟨⟨by omega, by omega⟩, _, _, _, ⟨i + 1, rfl, by omega, by omega, ?_, rfl, rfl⟩, by omega, Mv.of [] rfl rfl rfl trivial ⟨rfl, rfl, congrArg (D.int .i64) (by simp; omega), trivial⟩⟩
      rw [List.take_succ_eq_append_getElem hir, hget]
      simp only [List.mem_append, not_or, List.mem_singleton]
      exact ⟨hI, fun e => n59 e.symm⟩
  · have hno : oneR (s.drop (p + 1)) = none := by
      refine oneR_none _ ?_
      by_cases h11 : i = 11
      · subst h11; exact hI
      · have : i = (s.drop (p + 1)).length := by omega
        rw [List.take_of_length_le (by omega)]
        rw [this, List.take_length] at hI; exact hI
    refine ⟨fun h => ?_, fun h => ?_⟩
    · have h' := of_decide_eq_true h
      refine .inl ⟨⟨by omega, by omega⟩, fun h2 => absurd (of_decide_eq_true h2) (by omega), fun _ => no _ hno⟩
    · exact no _ hno

set_option maxRecDepth 100000 in
theorem rResolve_ok (s : List UInt8) (hs : s.length ≤ 4611686018427387904) : PureC Try.prog 15 [.d (.str s)] (.d (.str (resolve s))) := by
  refine pure_okT Try.wf Try.tab_ok Try.func15 (by decide +kernel) rfl rfl rfl rfl ?_
  have hsl := resolve_len s.length s (Nat.le_refl _)
  refine loopT Try.wf Try.tab_ok (fun q s' σ => ∃ (k : Nat) (out : List UInt8), q = s.length - k ∧ k ≤ s.length ∧ out ++ resolve (s.drop k) = resolve s ∧ s' = [(0, .d (.str s)), (3, .d (.str out)), (4, .d (.int .i64 k))] ∧ σ = ⟨0, []⟩)
    ⟨0, [], rfl, Nat.zero_le _, rfl, rfl, rfl⟩ (Mv.of [] rfl rfl rfl trivial ⟨rfl, rfl, rfl, trivial⟩) ?_
  rintro _ _ _ ⟨k, out, rfl, hk, hI, rfl, rfl⟩
  have hol : out.length + (resolve (s.drop k)).length ≤ s.length := by have := congrArg List.length hI; simp at this; omega
  refine ⟨fun h => ?_, fun h => ?_⟩
  · have hlt : k < s.length := by have := of_decide_eq_true h; omega
    clear h
    have hg := getD_at s k hlt
    have hd : s.drop k = s[k] :: s.drop (k + 1) := List.drop_eq_getElem_cons hlt
    rw [hd] at hI hol
    have hone : ∀ c : UInt8, s[k] = c → List.drop ((k : Nat) : Int).toNat (List.take ((k : Nat) + 1 : Int).toNat s) = [c] := fun c hc => by
      rw [show ((k : Int) + 1).toNat = k + 1 by omega, Int.toNat_natCast, List.drop_take, hd, hc]
      rw [show k + 1 - k = 1 by omega]; rfl
    refine ⟨⟨by omega, by omega⟩, ?_⟩
    rw [hg]
    by_cases h38 : s[k] = 38
    · rw [h38] at hI hol ⊢
      rw [resolve_amp] at hI hol
      refine ⟨fun _ => ?_, fun h => absurd h (by decide)⟩
      have c := One_ok s k hlt hs
      cases ho : oneR (s.drop (k + 1)) with
      | none =>
        rw [oneV_none ho] at c
        rw [ho] at hI hol
        refine PureC.use c ⟨fun _ => ?_, fun h => absurd h (by decide)⟩
        refine .inl ⟨⟨by omega, by omega⟩, ⟨by omega, by omega, by omega⟩, ?_⟩
        rw [hone 38 h38]
        simp only [List.length_cons] at hol
        refine ⟨by simp; omega, .inl ⟨⟨by omega, by omega⟩, ?_⟩⟩
        exact ⟨_, _, _, ⟨k + 1, out ++ [38], rfl, hlt, by rw [List.append_assoc]; exact hI, rfl, rfl⟩, by omega, Mv.of [] rfl rfl rfl trivial ⟨rfl, rfl, rfl, trivial⟩⟩
      | some p =>
        obtain ⟨t, r'⟩ := p
        rw [oneV_some ho] at c
        rw [ho] at hI hol
        dsimp only at hI hol
        have hl1 := oneR_lt ho
        have hdl : (s.drop (k + 1)).length = s.length - (k + 1) := by simp
        have hr' : s.drop (k + (s.length - (k + 1) - r'.length + 1)) = r' := by
          by_cases hm : (59 : UInt8) ∈ (s.drop (k + 1)).take 11
          · obtain ⟨a, b, e, ha, hal⟩ := split_take (s.drop (k + 1)) hm
            rw [e, oneR_some a b ha hal] at ho
            cases hst : stands a with
            | none => rw [hst] at ho; cases ho
            | some u =>
              rw [hst] at ho
              cases ho
              have hlen : (s.drop (k + 1)).length = a.length + 1 + r'.length := by rw [e]; simp; omega
              rw [show k + (s.length - (k + 1) - r'.length + 1) = (k + 1) + (a.length + 1) by omega, ← List.drop_drop, e]
              simp
          · rw [oneR_none _ hm] at ho; cases ho
        rw [hdl] at c
        refine PureC.use c ⟨fun h => absurd (of_decide_eq_true h) (by omega), fun _ => ?_⟩
        simp only [List.length_append] at hol
        refine ⟨by omega, .inl ⟨⟨by omega, by omega⟩, ?_⟩⟩
        exact ⟨_, _, _, ⟨k + (s.length - (k + 1) - r'.length + 1), out ++ t, rfl, by omega, by rw [hr', List.append_assoc]; exact hI, rfl, rfl⟩, by omega, Mv.of [] rfl rfl rfl trivial ⟨rfl, rfl, congrArg (D.int .i64) (by simp), trivial⟩⟩
    · rw [resolve_other _ _ h38] at hI hol
      refine ⟨fun h => absurd (u8_is' (of_decide_eq_true h) rfl) h38, fun _ => ⟨fun _ => ?_, fun h => absurd h (by decide)⟩⟩
      refine .inl ⟨⟨by omega, by omega⟩, ⟨by omega, by omega, by omega⟩, ?_⟩
      rw [hone s[k] rfl]
      simp only [List.length_cons] at hol
      refine ⟨by simp; omega, .inl ⟨⟨by omega, by omega⟩, ?_⟩⟩
      exact ⟨_, _, _, ⟨k + 1, out ++ [s[k]], rfl, hlt, by rw [List.append_assoc]; exact hI, rfl, rfl⟩, by omega, Mv.of [] rfl rfl rfl trivial ⟨rfl, rfl, rfl, trivial⟩⟩
  · have hk' : k = s.length := by have := of_decide_eq_false h; omega
    subst hk'
    rw [List.drop_length, resolve_nil, List.append_nil] at hI
    exact ⟨_, _, fin_out rfl, congrArg (fun x => AV.d (.str x)) hI⟩

end Go.Proofs.Ytfkghepfeegmhaa
