import Derived.Test.YtfkghepfeegmhaaLawA
namespace Go.Proofs.Ytfkghepfeegmhaa
open Go.Aw

/-- Digits of a number, of a base: so many at most. -/
def Dg (b L n : Nat) (x : List UInt8) : Prop := x ≠ [] ∧ x.length ≤ L ∧ digs b x 0 = some n ∧ (59 : UInt8) ∉ x ∧ (120 : UInt8) ∉ x ∧ (88 : UInt8) ∉ x
def digT : List UInt8 := [48, 49, 50, 51, 52, 53, 54, 55, 56, 57, 97, 98, 99, 100, 101, 102]
theorem digT_at : ∀ d (h : d < 16), hexv (digT[d]'h) = some d ∧ digT[d]'h ≠ 59 ∧ digT[d]'h ≠ 120 ∧ digT[d]'h ≠ 88 := by decide
theorem digT_sl (d : Nat) (h : d < 16) (n m : Int) (hn : n = d) (hm : m = d + 1) : List.drop n.toNat (List.take m.toNat digT) = [digT[d]'h] := by
  subst hn; subst hm
  rw [show ((d : Int) + 1).toNat = d + 1 by omega, Int.toNat_natCast, List.drop_take, show d + 1 - d = 1 by omega, List.drop_eq_getElem_cons (show d < digT.length from h)]
  rfl
theorem pow_mono (b : Nat) (hb : 2 ≤ b) {i j : Nat} (h : b ^ i < b ^ j) : i < j := by
  rcases Nat.lt_or_ge i j with h1 | h1
  · exact h1
  · have := Nat.pow_le_pow_right (show 0 < b by omega) h1
    omega
theorem fin_str (x : List UInt8) (σ : Store) : ∃ r2 σ2, FinMove ⟨0, []⟩ (AV.d (.str x)) σ r2 σ2 ∧ r2 = AV.d (.str x) ∧ σ2 = ⟨0, []⟩ := ⟨_, _, fin_out rfl, rfl, rfl⟩

set_option maxRecDepth 100000 in
theorem digits_ok (n b L : Nat) (hb : 2 ≤ b) (hb2 : b ≤ 16) (hL : L ≤ 7) (hn : n < b ^ L) (hL0 : 1 ≤ L) (hn2 : n ≤ 9999999) : CallsAbs Try.prog 18 [.d (.int .i64 n), .d (.int .i64 b)] ⟨0, []⟩ fun r σ' => (∃ x, r = .d (.str x) ∧ Dg b L n x) ∧ σ' = ⟨0, []⟩ := by
  refine fn_okT Try.wf Try.tab_ok Try.func18 (by decide +kernel) rfl rfl ?_
  have hT : digT.length = 16 := rfl
  have dcons : ∀ (d : Nat) (hd : d < 16) (a : List UInt8) (m : Nat), d < b → digs b (digT[d] :: a) m = digs b a (m * b + d) := fun d hd a m hdb => by
    show (match hexv digT[d] with | some d => if d < b then digs b a (m * b + d) else none | none => none) = _
    rw [(digT_at d hd).1]; exact if_pos hdb
  refine loopT Try.wf Try.tab_ok (fun q s' σ => ∃ (m v : Nat) (a : List UInt8), q = m ∧ m ≤ n ∧ (a ≠ [] → 1 ≤ m) ∧ (∀ k, digs b a k = some (k * b ^ a.length + v)) ∧ n = m * b ^ a.length + v ∧ (59 : UInt8) ∉ a ∧ (120 : UInt8) ∉ a ∧ (88 : UInt8) ∉ a ∧ s' = [(0, .d (.int .i64 m)), (1, .d (.int .i64 b)), (5, .d (.str digT)), (6, .d (.str a))] ∧ σ = ⟨0, []⟩)
    ⟨n, 0, [], rfl, Nat.le_refl _, fun h => absurd rfl h, fun k => by simp [digs], by simp, by simp, by simp, by simp, rfl, rfl⟩ (Mv.of [] rfl rfl rfl trivial ⟨rfl, rfl, rfl, rfl, trivial⟩) ?_
  rintro m _ _ ⟨_, v, a, rfl, hm, ha1, ha2, ha3, a59, a120, a88, rfl, rfl⟩
  have hal : a.length < L := by
    by_cases h : a = []
    · subst h; exact hL0
    · have h1 := ha1 h
      have h2 : b ^ a.length ≤ m * b ^ a.length := Nat.le_mul_of_pos_left _ h1
      exact pow_mono b hb (by omega)
  refine ⟨fun h => ?_, fun h => ?_⟩
  · have hbm : b ≤ m := by have := of_decide_eq_true h; omega
    have hmb : m % b < b := Nat.mod_lt _ (by omega)
    have e1 : (m : Int).tmod (b : Int) = ((m % b : Nat) : Int) := rfl
    have e2 : (m : Int).tdiv (b : Int) = ((m / b : Nat) : Int) := rfl
    have hd := digT_at (m % b) (by omega)
    have hsl := digT_sl (m % b) (by omega) ((m : Int).tmod (b : Int)) ((m : Int).tmod (b : Int) + 1) e1 (by rw [e1])
    refine drawnT Try.wf Try.tab_ok Try.mixed (by decide +kernel) ?_
    refine qstep rfl rfl (FinMove.refl _ _ _) ?_
    refine qstep rfl rfl (FinMove.refl _ _ _) ?_
    refine qstep rfl rfl (FinMove.refl _ _ _) ?_
    refine qstep rfl rfl ⟨by omega, FinMove.refl _ _ _⟩ ?_
    refine qstep rfl rfl (FinMove.refl _ _ _) ?_
    refine qstep rfl rfl (FinMove.refl _ _ _) ?_
    refine qstep rfl rfl ⟨by omega, FinMove.refl _ _ _⟩ ?_
    refine qstep rfl rfl (.inl ⟨⟨by rw [e1]; omega, by rw [e1]; omega⟩, FinMove.refl _ _ _⟩) ?_
    refine qstep rfl rfl ⟨⟨by rw [e1]; omega, by omega, by rw [e1]; show _ ≤ ((digT.length : Nat) : Int); omega⟩, FinMove.refl _ _ _⟩ ?_
    refine qstep rfl rfl (FinMove.refl _ _ _) ?_
    refine qstep (r := .d (.str (digT[m % b]'(by omega) :: a))) rfl rfl ⟨?_, ?_⟩ ?_
    · refine Nat.le_trans (Nat.add_le_add_right (Nat.le_of_eq (congrArg List.length hsl)) _) ?_
      show 1 + a.length ≤ _
      omega
    · exact fin_eq (congrArg (fun x => AV.d (.str (x ++ a))) hsl)
    refine qstep rfl rfl (FinMove.refl _ _ _) ?_
    have hdiv : m / b * b + m % b = m := Nat.div_add_mod' m b
    have hlt : m / b < m := Nat.div_lt_self (by omega) (by omega)
    have hpos : 1 ≤ m / b := Nat.div_pos hbm (by omega)
    refine ⟨by omega, ?_⟩
    rw [e2]
    refine .inl ⟨⟨by omega, by omega⟩, ?_⟩
    refine ⟨_, _, _, ⟨m / b, m % b * b ^ a.length + v, digT[m % b]'(by omega) :: a, rfl, by omega, fun _ => hpos, fun k => ?_, ?_, ?_, ?_, ?_, rfl, rfl⟩, hlt, Mv.of [] rfl rfl rfl trivial ⟨rfl, rfl, rfl, rfl, trivial⟩⟩
    · refine (dcons (m % b) (by omega) a k hmb).trans ?_
      rw [ha2, List.length_cons, Nat.pow_succ, Nat.add_mul]
      congr 1
      rw [Nat.mul_assoc, Nat.mul_comm b, Nat.add_assoc]
    · rw [List.length_cons, Nat.pow_succ, ha3]
      conv => lhs; rw [← hdiv]
      rw [Nat.add_mul, Nat.mul_assoc, Nat.mul_comm b, Nat.add_assoc]
    · simp only [List.mem_cons, not_or]; exact ⟨fun e => hd.2.1 e.symm, a59⟩
    · simp only [List.mem_cons, not_or]; exact ⟨fun e => hd.2.2.1 e.symm, a120⟩
    · simp only [List.mem_cons, not_or]; exact ⟨fun e => hd.2.2.2 e.symm, a88⟩
  · have hmb : m < b := by have := of_decide_eq_false h; omega
    have hd := digT_at m (by omega)
    have hsl := digT_sl m (by omega) _ _ rfl rfl
    refine .inl ⟨⟨by omega, by omega⟩, ⟨by omega, by omega, by show _ ≤ ((digT.length : Nat) : Int); omega⟩, ?_⟩
    rw [hsl]
    refine ⟨by show 1 + a.length ≤ _; omega, ?_⟩
    refine ⟨_, _, fin_out rfl, ⟨digT[m]'(by omega) :: a, rfl, by simp, hal, ?_, ?_, ?_, ?_⟩, rfl⟩
    · refine (dcons m (by omega) a 0 hmb).trans ?_
      rw [ha2, Nat.zero_mul, Nat.zero_add, ← ha3]
    · simp only [List.mem_cons, not_or]; exact ⟨fun e => hd.2.1 e.symm, a59⟩
    · simp only [List.mem_cons, not_or]; exact ⟨fun e => hd.2.2.1 e.symm, a120⟩
    · simp only [List.mem_cons, not_or]; exact ⟨fun e => hd.2.2.2 e.symm, a88⟩

theorem enc_bad (n : Int) (h : Utf8.valid n = false) : enc n = enc 65533 := by
  unfold enc Utf8.encode
  rw [h]; rfl
theorem enc_fix (n : Nat) (h : ¬ (n = 0 ∨ n = 13 ∨ 1114111 < n)) : enc (n : Int) = enc (fixN n) := by
  unfold fixN
  by_cases hs : 55296 ≤ n ∧ n ≤ 57343
  · rw [if_pos (by omega)]
    exact enc_bad _ (by simp [Utf8.valid]; omega)
  · rw [if_neg (by omega)]
theorem res_num (n : Nat) (x t : List UInt8) (h : Dg 10 7 n x) : resolve (38 :: (35 :: x ++ 59 :: t)) = enc (fixN n) ++ resolve t := by
  obtain ⟨h1, h2, h3, h4, h5, h6⟩ := h
  refine resolve_ref (35 :: x) t _ (by simp [h4]) (by simp; omega) ?_
  rw [stands_hash, hash_d x (fun e he => h5 (by simp [he])) (fun e he => h6 (by simp [he]))]
  unfold number
  rw [if_neg (by rintro (h | h); exact h1 h; omega), h3]; rfl
theorem res_hex (n : Nat) (x t : List UInt8) (h : Dg 16 6 n x) : resolve (38 :: (35 :: 120 :: x ++ 59 :: t)) = enc (fixN n) ++ resolve t := by
  obtain ⟨h1, h2, h3, h4, h5, h6⟩ := h
  refine resolve_ref (35 :: 120 :: x) t _ (by simp [h4]) (by simp; omega) ?_
  rw [stands_hash, hash_x]
  unfold number
  rw [if_neg (by rintro (h | h); exact h1 h; omega), h3]; rfl
theorem p10 : (10000000 : Nat) ≤ 10 ^ 7 := by decide +kernel
theorem p16' : (10000000 : Nat) ≤ 16 ^ 6 := by decide +kernel
theorem enc_odd : enc 65533 = [239, 191, 189] := by decide +kernel

set_option maxRecDepth 100000 in
theorem RefsNumber_ok (n : Int) : PureC Try.prog 9 [.d (.int .i64 n)] (.d (.bool true)) := by
  refine PureC.of rfl rfl (fn_okTE Try.wf Try.tab_ok Try.func9 (by decide +kernel) rfl rfl ?_)
  refine E.seq (E.of Try.wf Try.tab_ok ?_)
  refine E.seq (E.of Try.wf Try.tab_ok ?_)
  refine PureC.use awake_ok ?_
  refine E.seq (E.of Try.wf Try.tab_ok ?_)
  refine ⟨fun h1 => ⟨fun h2 => ?_, fun h2 => ?_⟩, fun h1 => ?_⟩
  · exact ⟨_, _, fin_out rfl, rfl, rfl⟩
  · have h0 : 0 ≤ n := by have := of_decide_eq_false h1; omega
    have hm : n ≤ 9999999 := by have := of_decide_eq_false h2; omega
    obtain ⟨k, rfl⟩ := Int.eq_ofNat_of_zero_le h0
    clear h1 h2
    refine E.seq (E.of Try.wf Try.tab_ok ?_)
    refine .inl ⟨⟨by omega, by omega⟩, ?_⟩
    refine midT Try.wf Try.tab_ok (fun s' σ => s' = [(0, .d (.int .i64 k)), (3, .d (.bool true)), (4, .d (.str (enc (fixN k))))] ∧ σ = ⟨0, []⟩) ?_ ?_
    · by_cases hf : k = 0 ∨ k = 13 ∨ 1114111 < k
      · have hx : enc (fixN k) = [239, 191, 189] := by rw [show fixN (k : Int) = 65533 from if_pos (by omega), enc_odd]
        (repeat' first | refine ⟨fun _ => ?_, fun _ => ?_⟩ | fail)
        all_goals first
          | (exfalso; simp only [decide_eq_true_eq, decide_eq_false_iff_not] at *; omega)
          | exact ⟨_, _, ⟨rfl, rfl⟩, Mv.of [] rfl rfl rfl trivial ⟨rfl, rfl, congrArg D.str hx, trivial⟩⟩
      · have hx := enc_fix k hf
        (repeat' first | refine ⟨fun _ => ?_, fun _ => ?_⟩ | fail)
        all_goals first
          | (exfalso; simp only [decide_eq_true_eq, decide_eq_false_iff_not] at *; omega)
          | exact ⟨_, _, ⟨rfl, rfl⟩, Mv.of [] rfl rfl rfl trivial ⟨rfl, rfl, congrArg D.str hx.symm, trivial⟩⟩
    rintro _ _ ⟨rfl, rfl⟩
    have hel := (enc_len (fixN (k : Int))).2
    refine E.of Try.wf Try.tab_ok ?_
    refine (digits_ok k 10 7 (by decide) (by decide) (by decide) (Nat.lt_of_lt_of_le (show k < 10000000 by omega) p10) (by decide) (by omega)).mono ?_
    rintro _ _ ⟨⟨x, rfl, hx⟩, rfl⟩
    have hxl := hx.2.1
    have c1 := Resolve_ok ([97, 38, 35] ++ x ++ [59, 98]) (by simp; omega)
    have e1 : resolve ([97, 38, 35] ++ x ++ [59, 98]) = [97] ++ enc (fixN (k : Int)) ++ [98] := by
      have := res_num k x [98] hx
      have h2 : ([97, 38, 35] ++ x ++ [59, 98] : List UInt8) = 97 :: (38 :: (35 :: x ++ 59 :: [98])) := by simp
      rw [h2, resolve_other _ _ (by decide), this, resolve_same [98] (by decide)]
      simp
    rw [e1] at c1
    refine ⟨(by first | omega | (simp; done) | (simp; omega)), (by first | omega | (simp; done) | (simp; omega)), PureC.use c1 ⟨(by first | omega | (simp; done) | (simp; omega)), (by first | omega | (simp; done) | (simp; omega)), fun h => absurd h (by simp), fun _ => ?_⟩⟩
    repeat (first | refine ⟨fun _ => ?_, fun h => absurd h (by decide)⟩ | refine ⟨fun h => absurd h (by decide), fun _ => ?_⟩)
    refine (digits_ok k 16 6 (by decide) (by decide) (by decide) (Nat.lt_of_lt_of_le (show k < 10000000 by omega) p16') (by decide) (by omega)).mono ?_
    rintro _ _ ⟨⟨y, rfl, hy⟩, rfl⟩
    have hyl := hy.2.1
    have c2 := Resolve_ok ([38, 35, 120] ++ y ++ [59]) (by simp; omega)
    have e2 : resolve ([38, 35, 120] ++ y ++ [59]) = enc (fixN (k : Int)) := by
      have := res_hex k y [] hy
      have h2 : ([38, 35, 120] ++ y ++ [59] : List UInt8) = 38 :: (35 :: 120 :: y ++ 59 :: []) := by simp
      rw [h2, this, resolve_nil, List.append_nil]
    rw [e2] at c2
    refine ⟨(by first | omega | (simp; done) | (simp; omega)), (by first | omega | (simp; done) | (simp; omega)), PureC.use c2 ?_⟩
    exact ⟨_, _, fin_out rfl, congrArg (fun b => AV.d (.bool b)) (by simp), rfl⟩
  · exact ⟨_, _, fin_out rfl, rfl, rfl⟩

theorem RefsNames_law {n : Nat} {r : List D} (h : DOk Try.prog n 9 r) : PureC Try.prog 3 [argAV Try.prog 9 r] (.d (.bool true)) := by
  obtain ⟨s, rfl, _⟩ := dok_str h
  rw [arg_str]; exact RefsNames_ok s
theorem RefsResolves_law {n : Nat} {r : List D} (h : DOk Try.prog n 9 r) : PureC Try.prog 4 [argAV Try.prog 9 r] (.d (.bool true)) := by
  obtain ⟨s, rfl, _⟩ := dok_str h
  rw [arg_str]; exact RefsResolves_ok s
theorem RefsSizes_law {n : Nat} {r : List D} (h : DOk Try.prog n 9 r) : PureC Try.prog 10 [argAV Try.prog 9 r] (.d (.bool true)) := by
  obtain ⟨s, rfl, _⟩ := dok_str h
  rw [arg_str]; exact RefsSizes_ok s
theorem RefsEscapes_law {n m : Nat} {r q : List D} (h : DOk Try.prog n 9 r) (k : DOk Try.prog m 4 q) : PureC Try.prog 5 [argAV Try.prog 9 r, argAV Try.prog 4 q] (.d (.bool true)) := by
  obtain ⟨s, rfl, _⟩ := dok_str h
  obtain ⟨b, rfl⟩ := dok_bool k
  rw [arg_str, arg_bool]; exact RefsEscapes_ok s b
theorem RefsBack_law {n m : Nat} {r q : List D} (h : DOk Try.prog n 9 r) (k : DOk Try.prog m 4 q) : PureC Try.prog 6 [argAV Try.prog 9 r, argAV Try.prog 4 q] (.d (.bool true)) := by
  obtain ⟨s, rfl, _⟩ := dok_str h
  obtain ⟨b, rfl⟩ := dok_bool k
  rw [arg_str, arg_bool]; exact RefsBack_ok s b
theorem RefsPlain_law {n m : Nat} {r q : List D} (h : DOk Try.prog n 9 r) (k : DOk Try.prog m 9 q) : PureC Try.prog 7 [argAV Try.prog 9 r, argAV Try.prog 9 q] (.d (.bool true)) := by
  obtain ⟨s, rfl, _⟩ := dok_str h
  obtain ⟨b, rfl, _⟩ := dok_str k
  rw [arg_str, arg_str]; exact RefsPlain_ok s b
theorem RefsParts_law {n m o : Nat} {r q p : List D} (h : DOk Try.prog n 9 r) (k : DOk Try.prog m 9 q) (j : DOk Try.prog o 4 p) : PureC Try.prog 8 [argAV Try.prog 9 r, argAV Try.prog 9 q, argAV Try.prog 4 p] (.d (.bool true)) := by
  obtain ⟨s, rfl, _⟩ := dok_str h
  obtain ⟨b, rfl, _⟩ := dok_str k
  obtain ⟨c, rfl⟩ := dok_bool j
  rw [arg_str, arg_str, arg_bool]; exact RefsParts_ok s b c
theorem RefsNumber_law {n : Nat} {r : List D} (h : DOk Try.prog n 3 r) : PureC Try.prog 9 [argAV Try.prog 3 r] (.d (.bool true)) := by
  obtain ⟨x, rfl, _, _⟩ := dok_int h
  rw [arg_int]; exact RefsNumber_ok x
end Go.Proofs.Ytfkghepfeegmhaa
