import Derived.Test.YtcmkiancbgmmhaaRefsP
import Derived.Test.YtcmkiancbgmmhaaBld
namespace Go.Proofs.Ytcmkiancbgmmhaa
open Go.Aw
set_option maxHeartbeats 1600000
set_option linter.unusedSimpArgs false
set_option linter.unusedVariables false

def tabA : List AV := nameTab.flatMap fun e => [.d (.str e.1), .d (.int .i32 e.2)]
theorem pairs_at : ∀ (l : List (List UInt8 × Int)) (k : Nat) (h : k < l.length), ((l.flatMap fun e => [AV.d (.str e.1), .d (.int .i32 e.2)]).drop (k * 2)).take 2 = [.d (.str l[k].1), .d (.int .i32 l[k].2)]
  | e :: l, 0, _ => rfl
  | e :: l, k + 1, h => by
    have := pairs_at l k (by simpa using h)
    rw [List.flatMap_cons, Nat.add_mul, List.drop_append]
    simpa using this

set_option maxRecDepth 100000 in
theorem Named_ok (s : List UInt8) : PureC Try.prog 88 [.d (.str s)] (optV (named s)) := by
  refine pure_okT Try.wf Try.tab_ok Try.func88 (by decide +kernel) rfl rfl rfl (optV_pure _) ?_
  refine ⟨_, rfl, rfl, by decide, _, rfl, by decide, ?_⟩
  refine loopT Try.wf Try.tab_ok (fun n s' σ => ∃ k : Nat, n = 22 - k ∧ k ≤ 22 ∧ (∀ j (hj : j < nameTab.length), j < k → nameTab[j].1 ≠ s) ∧ s' = [(0, .d (.str s)), (30, .agg tabA), (31, .d (.int .i64 k))] ∧ σ = ⟨0, []⟩)
    ⟨0, rfl, Nat.zero_le _, fun j _ h => absurd h (by omega), rfl, rfl⟩ (Mv.of [] rfl rfl rfl trivial ⟨rfl, vrel_self (.agg tabA) rfl, rfl, trivial⟩) ?_
  rintro _ _ _ ⟨k, rfl, hk, hI, rfl, rfl⟩
  refine ⟨fun h => ?_, fun h => ?_⟩
  · have hlt : k < 22 := by have := of_decide_eq_true h; omega
    have hlt' : k < nameTab.length := hlt
    have e := pairs_at nameTab k hlt'
    refine ⟨⟨by omega, by omega⟩, rfl, ?_⟩
    have e' : List.take (nth Try.tab 115).size (List.drop (((k : Nat) : Int).toNat * (nth Try.tab 115).size) tabA) = [.d (.str nameTab[k].1), .d (.int .i32 nameTab[k].2)] := by
      rw [Int.toNat_natCast]; exact e
    rw [e']
    refine ⟨_, rfl, rfl, Nat.le_refl _, _, rfl, _, rfl, fun h1 => ?_, fun h1 => ?_⟩
    · have h1' : nameTab[k].1 = s := of_decide_eq_true h1
      refine ⟨_, rfl, _, rfl, ?_⟩
      exact ⟨_, _, fin_out rfl, by rw [named_hit hlt' hI h1']; rfl⟩
    · have h1' : ¬ nameTab[k].1 = s := of_decide_eq_false h1
      refine .inl ⟨⟨by omega, by omega⟩, _, _, _, ⟨k + 1, rfl, hlt, fun j hj hjk => ?_, rfl, rfl⟩, by omega, Mv.of [] rfl rfl rfl trivial ⟨rfl, vrel_self (.agg tabA) rfl, rfl, trivial⟩⟩
      by_cases hj2 : j = k
      · subst hj2; exact h1'
      · exact hI j hj (by omega)
  · have hk' : k = 22 := by have := of_decide_eq_false h; omega
    subst hk'
    exact ⟨_, _, FinMove.refl _ _ _, by rw [named_miss (fun j hj => hI j hj hj)]; rfl⟩

def numV : Option Nat → AV
  | some n => .tup [.d (.int .i64 n), .d (.bool true)]
  | none => .tup [.d (.int .i64 0), .d (.bool false)]
theorem numV_pure (o : Option Nat) : (numV o).pure = true := by cases o <;> rfl
def hexs : List UInt8 := [48, 49, 50, 51, 52, 53, 54, 55, 56, 57, 97, 98, 99, 100, 101, 102]
theorem hexs_all : ∀ n < 256, ¬ (65 ≤ n ∧ n ≤ 90) → idxB (UInt8.ofNat n) hexs = match hexv (UInt8.ofNat n) with | some d => (d : Int) | none => -1 := by decide +kernel
theorem hexs_at (c : UInt8) (h : ¬ (65 ≤ c.toNat ∧ c.toNat ≤ 90)) : idxB c hexs = match hexv c with | some d => (d : Int) | none => -1 := by
  have := hexs_all c.toNat c.toNat_lt h
  simpa using this
theorem hex_hi (c : UInt8) (h : 128 ≤ c.toNat) : hexv c = none := by
  unfold hexv
  rw [if_neg (by omega), if_neg (by omega), if_neg (by omega)]
theorem hex_low (c : UInt8) : hexv (lowB c) = hexv c := by
  by_cases h : 65 ≤ c.toNat ∧ c.toNat ≤ 90
  · have := lowB_hi c h
    unfold hexv
    by_cases h2 : c.toNat ≤ 70
    · rw [if_neg (by omega), if_pos (by omega), if_neg (by omega), if_neg (by omega), if_pos (by omega)]
      congr 1; omega
    · rw [if_neg (by omega), if_neg (by omega), if_neg (by omega), if_neg (by omega), if_neg (by omega), if_neg (by omega)]
  · rw [lowB_lo c h]
theorem digs_cons (base : Nat) (c : UInt8) (r : List UInt8) (n : Nat) : digs base (c :: r) n = match hexv c with
    | some d => if d < base then digs base r (n * base + d) else none
    | none => none := rfl
theorem digs_lower (base : Nat) : ∀ (s : List UInt8) (n : Nat), digs base (lower s) n = digs base s n
  | [], _ => rfl
  | c :: r, n => by
    show digs base (lowB c :: lower r) n = _
    unfold digs
    rw [hex_low]
    split
    · rw [digs_lower base r]
    · rfl
theorem low_not (s : List UInt8) : ∀ c ∈ lower s, ¬ (65 ≤ c.toNat ∧ c.toNat ≤ 90) := by
  intro c hc
  obtain ⟨d, _, rfl⟩ := List.mem_map.1 hc
  by_cases h : 65 ≤ d.toNat ∧ d.toNat ≤ 90
  · have := lowB_hi d h; omega
  · rw [lowB_lo d h]; exact h
theorem pow16 {k : Nat} (h : k ≤ 7) : 16 ^ k ≤ 268435456 := Nat.pow_le_pow_right (by decide) h

set_option maxRecDepth 100000 in
theorem number_ok (s : List UInt8) (base most : Nat) (hs : s.length ≤ 9223372036854775807) (hb : base ≤ 16) (hm : most ≤ 7) : PureC Try.prog 89 [.d (.str s), .d (.int .i64 base), .d (.int .i64 most)] (numV (number s base most)) := by
  refine pure_okT Try.wf Try.tab_ok Try.func89 (by decide +kernel) rfl rfl rfl (numV_pure _) ?_
  have no : number s base most = none → ∃ r2 σ2, FinMove ⟨0, []⟩ (.tup [.d (.int .i64 0), .d (.bool false)]) ⟨0, []⟩ r2 σ2 ∧ r2 = numV (number s base most) := fun h => ⟨_, _, fin_out rfl, by rw [h]; rfl⟩
  refine ⟨fun h1 => ⟨fun h2 => ?_, fun h2 => ?_⟩, fun h1 => ?_⟩
  · exact no (if_pos (.inr (by have := of_decide_eq_true h2; omega)))
  · have h1' : s ≠ [] := of_decide_eq_false h1
    have h2' : s.length ≤ most := by have := of_decide_eq_false h2; omega
    have hN : number s base most = digs base (lower s) 0 := by rw [digs_lower]; exact if_neg (by rintro (h | h); exact h1' h; omega)
    clear h1 h2
    refine PureC.use (Lower_ok s hs) ?_
    have hbl : (lower s).length ≤ 7 := by rw [show (lower s).length = s.length by simp [lower]]; omega
    have hnot := low_not s
    generalize lower s = b at *
    refine loopT Try.wf Try.tab_ok (fun m s' σ => ∃ k n : Nat, m = b.length - k ∧ k ≤ b.length ∧ n + 1 ≤ 16 ^ k ∧ digs base b 0 = digs base (b.drop k) n ∧ s' = [(1, .d (.int .i64 base)), (8, .d (.int .i64 n)), (22, .ref 0 0 0)] ∧ σ = ⟨1, [(0, .iter b k)]⟩)
      ⟨0, 0, rfl, Nat.zero_le _, by simp, rfl, rfl, rfl⟩ (Mv.of [.old 0] rfl rfl rfl ⟨⟨rfl, rfl⟩, trivial⟩ ⟨rfl, rfl, ⟨rfl, rfl, rfl⟩, trivial⟩) ?_
    rintro _ _ _ ⟨k, n, rfl, hk, hn, hI, rfl, rfl⟩
    have h16 := pow16 (k := k) (by omega)
    refine ⟨fun hlt => ?_, fun hge => ?_⟩
    · have hd : b.drop k = b[k] :: b.drop (k + 1) := List.drop_eq_getElem_cons hlt
      have no' : digs base b 0 = none → ∃ r2 σ2, FinMove ⟨0, []⟩ (.tup [.d (.int .i64 0), .d (.bool false)]) ⟨1, [(0, .iter b (k + (Utf8.decode ⟨b.toArray⟩ k).2)), (0, .iter b k)]⟩ r2 σ2 ∧ r2 = numV (number s base most) := fun h => ⟨_, _, fin_out rfl, by rw [hN, h]; rfl⟩
      refine ⟨fun _ => ?_, fun h => absurd h (by decide)⟩
      by_cases hlo : b[k].toNat < 128
      · have e := decode_lo b k hlt hlo
        rw [e] at no' ⊢
        have c1 := IndexByte_ok hexs b[k]
        rw [hexs_at b[k] (hnot _ (List.getElem_mem hlt))] at c1
        rw [hd, digs_cons] at hI
        cases hv : hexv b[k] with
        | none =>
          rw [hv] at hI c1
          refine .inl ⟨⟨by show 0 ≤ ((b[k].toNat : Nat) : Int); omega, by show ((b[k].toNat : Nat) : Int) ≤ 255; omega⟩, PureC.use c1 ?_⟩
          refine ⟨fun h1 => ⟨fun h2 => absurd h2 (by simp), fun h2 => no' hI⟩, fun h1 => no' hI⟩
        | some d =>
          rw [hv] at hI c1
          dsimp only at hI c1
          refine .inl ⟨⟨by show 0 ≤ ((b[k].toNat : Nat) : Int); omega, by show ((b[k].toNat : Nat) : Int) ≤ 255; omega⟩, PureC.use c1 ?_⟩
          refine ⟨fun h1 => ⟨fun h2 => ⟨fun h3 => ?_, fun h3 => ?_⟩, fun h2 => absurd h2 (by simp)⟩, fun h1 => absurd h1 (by simp; omega)⟩
          · have h3' := of_decide_eq_true h3
            rw [if_neg (by omega)] at hI
            exact no' hI
          · have h3' := of_decide_eq_false h3
            rw [if_pos (by omega)] at hI
            have hd16 := hexv_lt hv
            have hmul : n * base ≤ n * 16 := Nat.mul_le_mul_left _ hb
            have hcast : (n : Int) * (base : Int) = ((n * base : Nat) : Int) := by simp
            have hd0 : (0 : Int) ≤ (d : Int) := Int.natCast_nonneg d
            have hpos : (0 : Int) ≤ (n : Int) * (base : Int) := Int.mul_nonneg (by omega) (by omega)
            refine .inl ⟨⟨by omega, by omega⟩, .inl ⟨⟨by omega, by omega⟩, ?_⟩⟩
            · refine ⟨_, _, _, ⟨k + 1, n * base + d, rfl, hlt, ?_, hI, rfl, rfl⟩, by omega, Mv.of [.old 0] rfl rfl rfl ⟨⟨rfl, rfl⟩, trivial⟩ ⟨rfl, ?_, ⟨rfl, rfl, rfl⟩, trivial⟩⟩
              · rw [Nat.pow_succ]; omega
              · exact congrArg (D.int .i64) (by simp)
      · have hhi := decode_hi b k hlt (by omega)
        have hx : digs base b 0 = none := by rw [hI, hd, digs_cons, hex_hi _ (by omega)]
        generalize (Utf8.decode ⟨b.toArray⟩ k) = p at *
        obtain ⟨p1, p2⟩ := p
        have hw : IntKind.u8.wrap (p1 : Int) = (((UInt8.ofNat p1).toNat : Nat) : Int) := by
          simp [IntKind.wrap, IntKind.signed, IntKind.bits]
        refine .inr ?_
        rw [hw]
        refine PureC.use (IndexByte_ok hexs (UInt8.ofNat p1)) ?_
        refine ⟨fun h1 => ?_, fun h1 => no' hx⟩
        have h1' := of_decide_eq_false h1
        have := hhi.1
        dsimp only at this
        omega
    · have hk' : k = b.length := by omega
      subst hk'
      rw [List.drop_length] at hI
      refine ⟨fun h => absurd h (by decide), fun _ => ?_⟩
      exact ⟨_, _, fin_out rfl, by rw [hN, hI]; rfl⟩
  · exact no (if_pos (.inl (of_decide_eq_true h1)))

theorem cutPre_cons (c : UInt8) (d : List UInt8) : cutPre (c :: d) [c] = .tup [.d (.str d), .d (.bool true)] := by simp [cutPre, hasPre]
theorem cutPre_no (s : List UInt8) (c : UInt8) (h : ∀ d, s ≠ c :: d) : cutPre s [c] = .tup [.d (.str s), .d (.bool false)] := by
  have : hasPre s [c] = false := by
    cases s with
    | nil => rfl
    | cons x r =>
      have : x ≠ c := fun e => h r (by rw [e])
      simp [hasPre, this]
  rw [cutPre, this]; rfl
theorem hasPre_one (s : List UInt8) (c : UInt8) : hasPre s [c] = true ∨ (hasPre s [c] = false ∧ ∀ d, s ≠ c :: d) := by
  cases s with
  | nil => exact .inr ⟨rfl, by simp⟩
  | cons x r =>
    by_cases h : x = c
    · subst h; exact .inl (by simp [hasPre])
    · exact .inr ⟨by simp [hasPre, h], fun d e => h (by injection e)⟩
theorem hasPre_hit {s : List UInt8} {c : UInt8} (h : hasPre s [c] = true) : ∃ d, s = c :: d := by
  cases s with
  | nil => simp [hasPre] at h
  | cons x r => simp [hasPre] at h; exact ⟨r, by rw [h]⟩

set_option maxRecDepth 100000 in
theorem stands_ok (s : List UInt8) (hs : s.length ≤ 9223372036854775807) : PureC Try.prog 81 [.d (.str s)] (optV (stands s)) := by
  refine pure_okT Try.wf Try.tab_ok Try.func81 (by decide +kernel) rfl rfl rfl (optV_pure _) ?_
  by_cases hh : ∃ d, s = 35 :: d
  · obtain ⟨d, rfl⟩ := hh
    simp only [List.length_cons] at hs
    have c0 := CutPrefix_ok (35 :: d) [35]
    rw [cutPre_cons] at c0
    refine PureC.use c0 ⟨fun h => absurd h (by decide), fun _ => ?_⟩
    rw [stands_hash]
    have small : ∀ (e : List UInt8) (b m n : Nat), b ≤ 16 → m ≤ 7 → number e b m = some n → n < 268435456 := fun e b m n hb hm h => by
      have h1 := number_pos h
      have h2 := digs_lt hb h1.2.2
      have h3 := pow16 (k := e.length) (by omega)
      omega
    have c1 := HasPrefix_ok d [120]
    have c2 := HasPrefix_ok d [88]
    refine PureC.use c1 ?_
    have key : ∃ (e : List UInt8) (b m : Nat), b ≤ 16 ∧ m ≤ 7 ∧ e.length ≤ d.length ∧ hashN d = number e b m ∧
        ((hasPre d [120] = true ∧ d = 120 :: e ∧ b = 16 ∧ m = 6) ∨ (hasPre d [120] = false ∧ hasPre d [88] = true ∧ d = 88 :: e ∧ b = 16 ∧ m = 6) ∨ (hasPre d [120] = false ∧ hasPre d [88] = false ∧ d = e ∧ b = 10 ∧ m = 7)) := by
      rcases hasPre_one d 120 with h1 | ⟨h1, n1⟩
      · obtain ⟨e, rfl⟩ := hasPre_hit h1
        exact ⟨e, 16, 6, by decide, by decide, by simp, hash_x e, .inl ⟨h1, rfl, rfl, rfl⟩⟩
      · rcases hasPre_one d 88 with h2 | ⟨h2, n2⟩
        · obtain ⟨e, rfl⟩ := hasPre_hit h2
          exact ⟨e, 16, 6, by decide, by decide, by simp, hash_X e, .inr (.inl ⟨h1, h2, rfl, rfl, rfl⟩)⟩
        · exact ⟨d, 10, 7, by decide, by decide, Nat.le_refl _, hash_d d n1 n2, .inr (.inr ⟨h1, h2, rfl, rfl, rfl⟩)⟩
    obtain ⟨e, b, m, hb, hm, hel, hN, hcase⟩ := key
    have c3 := number_ok e b m (by omega) hb hm
    have hsm := fun n h => small e b m n hb hm h
    rw [hN]
    rcases hcase with ⟨h1, rfl, rfl, rfl⟩ | ⟨h1, h2, rfl, rfl, rfl⟩ | ⟨h1, h2, rfl, rfl, rfl⟩
    · rw [h1]
      refine ⟨fun h => absurd h (by decide), fun _ => ?_⟩
      refine drawnT Try.wf Try.tab_ok Try.mixed (by decide +kernel) ?_
      refine qstep rfl rfl (FinMove.refl _ _ _) ?_
      refine qstep rfl rfl ⟨⟨by omega, by simp; omega, by simp⟩, FinMove.refl _ _ _⟩ ?_
      refine qstep rfl rfl (FinMove.refl _ _ _) ?_
      refine qstep rfl rfl (FinMove.refl _ _ _) ?_
      refine qstep rfl rfl (FinMove.refl _ _ _) ?_
      have e1 : List.drop (Int.toNat 1) (List.take (Int.toNat ((120 :: e).length : Nat)) (120 :: e)) = e := by simp
      generalize number e 16 6 = n at *
      rw [← e1] at c3
      cases n with
      | none => exact PureC.use c3 ⟨fun _ => by exact ⟨_, _, fin_out rfl, rfl⟩, fun h => absurd h (by decide)⟩
      | some n =>
        have hn := hsm n rfl
        refine PureC.use c3 ⟨fun h => absurd h (by decide), fun _ => ?_⟩
        (repeat' first | refine ⟨fun _ => ?_, fun _ => ?_⟩ | fail)
        all_goals
          refine .inl ⟨⟨by omega, by omega⟩, ?_⟩
          refine ⟨_, _, fin_out rfl, ?_⟩
          simp only [decide_eq_true_eq, decide_eq_false_iff_not] at *
          refine congrArg (fun x => AV.tup [.d (.str (enc x)), .d (.bool true)]) ?_
          unfold fixN
          first | rw [if_pos (by omega)] | rw [if_neg (by omega)]
    · rw [h1]
      refine ⟨fun _ => ?_, fun h => absurd h (by decide)⟩
      refine PureC.use c2 ?_
      rw [h2]
      refine ⟨fun _ => ?_, fun h => absurd h (by decide)⟩
      refine drawnT Try.wf Try.tab_ok Try.mixed (by decide +kernel) ?_
      refine qstep rfl rfl (FinMove.refl _ _ _) ?_
      refine qstep rfl rfl ⟨⟨by omega, by simp; omega, by simp⟩, FinMove.refl _ _ _⟩ ?_
      refine qstep rfl rfl (FinMove.refl _ _ _) ?_
      refine qstep rfl rfl (FinMove.refl _ _ _) ?_
      refine qstep rfl rfl (FinMove.refl _ _ _) ?_
      have e1 : List.drop (Int.toNat 1) (List.take (Int.toNat ((88 :: e).length : Nat)) (88 :: e)) = e := by simp
      generalize number e 16 6 = n at *
      rw [← e1] at c3
      cases n with
      | none => exact PureC.use c3 ⟨fun _ => by exact ⟨_, _, fin_out rfl, rfl⟩, fun h => absurd h (by decide)⟩
      | some n =>
        have hn := hsm n rfl
        refine PureC.use c3 ⟨fun h => absurd h (by decide), fun _ => ?_⟩
        (repeat' first | refine ⟨fun _ => ?_, fun _ => ?_⟩ | fail)
        all_goals
          refine .inl ⟨⟨by omega, by omega⟩, ?_⟩
          refine ⟨_, _, fin_out rfl, ?_⟩
          simp only [decide_eq_true_eq, decide_eq_false_iff_not] at *
          refine congrArg (fun x => AV.tup [.d (.str (enc x)), .d (.bool true)]) ?_
          unfold fixN
          first | rw [if_pos (by omega)] | rw [if_neg (by omega)]
    · rw [h1]
      refine ⟨fun _ => ?_, fun h => absurd h (by decide)⟩
      refine PureC.use c2 ?_
      rw [h2]
      refine ⟨fun h => absurd h (by decide), fun _ => ?_⟩
      generalize number d 10 7 = n at *
      cases n with
      | none => exact PureC.use c3 ⟨fun _ => by exact ⟨_, _, fin_out rfl, rfl⟩, fun h => absurd h (by decide)⟩
      | some n =>
        have hn := hsm n rfl
        refine PureC.use c3 ⟨fun h => absurd h (by decide), fun _ => ?_⟩
        (repeat' first | refine ⟨fun _ => ?_, fun _ => ?_⟩ | fail)
        all_goals
          refine .inl ⟨⟨by omega, by omega⟩, ?_⟩
          refine ⟨_, _, fin_out rfl, ?_⟩
          simp only [decide_eq_true_eq, decide_eq_false_iff_not] at *
          refine congrArg (fun x => AV.tup [.d (.str (enc x)), .d (.bool true)]) ?_
          unfold fixN
          first | rw [if_pos (by omega)] | rw [if_neg (by omega)]
  · have c0 := CutPrefix_ok s [35]
    rw [cutPre_no s 35 (fun d e => hh ⟨d, e⟩)] at c0
    refine PureC.use c0 ⟨fun _ => ?_, fun h => absurd h (by decide)⟩
    have c1 := Named_ok s
    rw [stands_named s (fun d e => hh ⟨d, e⟩)]
    cases hn : named s with
    | none => rw [hn] at c1; exact PureC.use c1 (by exact ⟨_, _, fin_out rfl, rfl⟩)
    | some t => rw [hn] at c1; exact PureC.use c1 (by exact ⟨_, _, fin_out rfl, rfl⟩)

theorem head_of {c : UInt8} {a r s out : List UInt8} (hI : out ++ resolve (a ++ 38 :: r) = resolve s) (ha : (38 : UInt8) ∉ a) : (out ++ a) ++ resolve (38 :: r) = resolve s := by
  rw [resolve_plain a _ ha] at hI; rw [List.append_assoc]; exact hI

set_option maxRecDepth 100000 in
theorem Resolve_ok (s : List UInt8) (hs : s.length ≤ 140737488355000) : PureC Try.prog 65 [.d (.str s)] (.d (.str (resolve s))) := by
  refine PureC.of rfl rfl (fn_okTE Try.wf Try.tab_ok Try.func65 (by decide +kernel) rfl rfl ?_)
  refine E.seq (E.of Try.wf Try.tab_ok ?_)
  refine scopeE ?_
  refine E.of Try.wf Try.tab_ok ?_
  have hsl := resolve_len s.length s (Nat.le_refl _)
  refine loopE (fun n s' σ => ∃ t out : List UInt8, n = t.length ∧ t.length ≤ s.length ∧ out ++ resolve t = resolve s ∧ s' = [(0, .d (.str t)), (3, .ref 0 0 0)] ∧ σ = ⟨1, [(0, .bld 50 5 out)]⟩)
    ⟨s, [], rfl, Nat.le_refl _, rfl, rfl, rfl⟩ (Mv.of [.old 0] rfl rfl rfl ⟨⟨rfl, rfl, rfl⟩, trivial⟩ ⟨rfl, ⟨rfl, rfl, rfl⟩, trivial⟩) ?_
  rintro _ _ _ ⟨t, out, rfl, htl, hI, rfl, rfl⟩
  have hol : out.length ≤ s.length := by have := congrArg List.length hI; simp at this; omega
  refine blockE ?_
  refine E.seq (E.of Try.wf Try.tab_ok ?_)
  by_cases hm : (38 : UInt8) ∈ t
  · obtain ⟨a, r, rfl, ha⟩ := split_first hm
    have c1 := IndexByte_ok (a ++ 38 :: r) 38
    rw [idxB_some ha] at c1
    have hI2 := head_of (c := 38) hI ha
    simp only [List.length_append, List.length_cons] at htl
    have hoa : out.length + a.length ≤ s.length := by have := congrArg List.length hI2; simp at this; omega
    refine PureC.use c1 ?_
    refine E.seq (E.of Try.wf Try.tab_ok ?_)
    refine ⟨fun h => absurd (of_decide_eq_true h) (by omega), fun _ => ?_⟩
    refine E.seq (E.of Try.wf Try.tab_ok ?_)
    refine ⟨⟨by omega, by omega, by simp; omega⟩, ?_⟩
    refine CallsAbs.to [.ref 0 0 0, .d (.str a)] (congrArg (fun x => [AV.ref 0 0 0, .d (.str x)]) (by simp)) ?_
    refine CallsAbs.frame (WriteString_ok out a (by omega)) [.old 0] ⟨Nat.zero_le _, rfl, rfl, ⟨⟨rfl, rfl, rfl⟩, trivial⟩⟩ ⟨⟨rfl, rfl, rfl⟩, rfl, trivial⟩ ?_
    rintro _ _ ⟨rfl, rfl⟩
    refine ⟨.tup [.d (.int .i64 a.length), .nili], [(0, .bld 50 5 (out ++ a))], ⟨⟨rfl, rfl, rfl⟩, trivial⟩, rfl, ⟨rfl, trivial, trivial⟩, ?_⟩
    refine midT Try.wf Try.tab_ok (fun s' σ => s' = [(0, .d (.str (38 :: r))), (3, .ref 0 0 0)] ∧ σ = ⟨1, [(0, .bld 50 5 (out ++ a))]⟩) ?_ ?_
    · refine ⟨⟨by omega, by simp; omega, by simp⟩, _, _, ⟨rfl, rfl⟩, Mv.of [.old 0] rfl rfl rfl ⟨⟨rfl, rfl, rfl⟩, trivial⟩ ⟨congrArg D.str (tail_at a _).symm, ⟨rfl, rfl, rfl⟩, trivial⟩⟩
    rintro _ _ ⟨rfl, rfl⟩
    generalize out ++ a = out2 at *
    have hol2 : out2.length ≤ s.length := by have := congrArg List.length hI2; simp at this; omega
    have hol3 : oneR r = none → out2.length + 1 ≤ s.length := fun h => by
      rw [resolve_amp, h] at hI2
      have := congrArg List.length hI2; simp at this; omega
    -- one byte is passed over
    have pass : oneR r = none → (out2 ++ [38]) ++ resolve r = resolve s := fun h => by
      rw [resolve_amp, h] at hI2; simpa using hI2
    refine E.of Try.wf Try.tab_ok ?_
    have hmin : (if (12 : Int) < (((38 :: r : List UInt8).length : Nat) : Int) then (12 : Int) else (((38 :: r : List UInt8).length : Nat) : Int)) = ((min 12 (r.length + 1) : Nat) : Int) := by
      simp only [List.length_cons]
      split <;> omega
    refine ⟨⟨by omega, by rw [hmin]; omega, by rw [hmin]; simp; omega⟩, ?_⟩
    refine CallsAbs.to [.d (.str (38 :: r.take 11)), .d (.int .u8 59)] (congrArg (fun x => [AV.d (.str x), .d (.int .u8 59)]) ?_) ?_
    · rw [hmin, Int.toNat_natCast, Int.toNat_zero, List.drop_zero]
      by_cases h : 11 ≤ r.length
      · rw [Nat.min_eq_left (by omega)]; rfl
      · rw [Nat.min_eq_right (by omega), List.take_of_length_le (by simp), List.take_of_length_le (by omega)]
    have c2 := IndexByte_ok (38 :: r.take 11) 59
    by_cases h59 : (59 : UInt8) ∈ r.take 11
    · obtain ⟨x, y, rfl, hx, hxl⟩ := split_take r h59
      have ht : (x ++ 59 :: y).take 11 = x ++ 59 :: y.take (10 - x.length) := by
        rw [List.take_append, List.take_of_length_le (by omega)]
        congr 1
        rw [show 11 - x.length = (10 - x.length) + 1 by omega]; rfl
      have hidx : idxB 59 (38 :: (x ++ 59 :: y).take 11) = ((x.length + 1 : Nat) : Int) := by
        rw [ht]
        have := idxB_some (c := 59) (a := 38 :: x) (b := y.take (10 - x.length)) (by simp [hx])
        simpa using this
      rw [hidx] at c2
      refine PureC.use c2 ⟨fun _ => ?_, fun h => absurd (of_decide_eq_false h) (by omega)⟩
      refine ⟨⟨by omega, by omega, by simp; omega⟩, ?_⟩
      refine CallsAbs.to [.d (.str x)] (congrArg (fun x => [AV.d (.str x)]) ?_) ?_
      · rw [Int.toNat_natCast]
        show (List.take x.length (x ++ 59 :: y)).drop 0 = x
        simp
      have c3 := stands_ok x (by simp at htl; omega)
      have ho := oneR_some x y hx hxl
      cases hst : stands x with
      | none =>
        rw [hst] at c3 ho
        refine PureC.use c3 ⟨fun h => absurd h (by decide), fun _ => ?_⟩
        refine CallsAbs.frame (WriteByte_ok out2 38 (by have := hol3 ho; omega)) [.old 0] ⟨Nat.zero_le _, rfl, rfl, ⟨⟨rfl, rfl, rfl⟩, trivial⟩⟩ ⟨⟨rfl, rfl, rfl⟩, rfl, trivial⟩ ?_
        rintro _ _ ⟨rfl, rfl⟩
        refine ⟨.nili, [(0, .bld 50 5 (out2 ++ [38]))], ⟨⟨rfl, rfl, rfl⟩, trivial⟩, rfl, trivial, ?_⟩
        exact ⟨⟨by omega, by simp; omega, by simp⟩, _, _, _, ⟨x ++ 59 :: y, _, rfl, by simp at htl ⊢; omega, pass ho, rfl, rfl⟩, by simp; omega, Mv.of [.old 0] rfl rfl rfl ⟨⟨rfl, rfl, rfl⟩, trivial⟩ ⟨congrArg D.str (tail_at [38] _).symm, ⟨rfl, rfl, rfl⟩, trivial⟩⟩
      | some u =>
        rw [hst] at c3 ho
        rw [resolve_amp, ho] at hI2
        dsimp only [Option.map_some] at hI2
        have hul := stands_len hst
        refine PureC.use c3 ⟨fun _ => ?_, fun h => absurd h (by decide)⟩
        refine CallsAbs.frame (WriteString_ok out2 u (by omega)) [.old 0] ⟨Nat.zero_le _, rfl, rfl, ⟨⟨rfl, rfl, rfl⟩, trivial⟩⟩ ⟨⟨rfl, rfl, rfl⟩, rfl, trivial⟩ ?_
        rintro _ _ ⟨rfl, rfl⟩
        refine ⟨.tup [.d (.int .i64 u.length), .nili], [(0, .bld 50 5 (out2 ++ u))], ⟨⟨rfl, rfl, rfl⟩, trivial⟩, rfl, ⟨rfl, trivial, trivial⟩, ?_⟩
        refine .inl ⟨⟨by omega, by omega⟩, ⟨by omega, by simp; omega, by simp⟩, _, _, _, ⟨y, out2 ++ u, rfl, by simp at htl ⊢; omega, by rw [List.append_assoc]; exact hI2, rfl, rfl⟩, by simp; omega, Mv.of [.old 0] rfl rfl rfl ⟨⟨rfl, rfl, rfl⟩, trivial⟩ ⟨congrArg D.str ?_, ⟨rfl, rfl, rfl⟩, trivial⟩⟩
        exact tail_of (38 :: x ++ [59]) y _ _ _ (by simp) (by simp) rfl
    · have hno : idxB 59 (38 :: r.take 11) = -1 := idxB_none (by simp [h59])
      rw [hno] at c2
      have ho := oneR_none r h59
      refine PureC.use c2 ⟨fun h => absurd h (by decide), fun _ => ?_⟩
      refine CallsAbs.frame (WriteByte_ok out2 38 (by have := hol3 ho; omega)) [.old 0] ⟨Nat.zero_le _, rfl, rfl, ⟨⟨rfl, rfl, rfl⟩, trivial⟩⟩ ⟨⟨rfl, rfl, rfl⟩, rfl, trivial⟩ ?_
      rintro _ _ ⟨rfl, rfl⟩
      refine ⟨.nili, [(0, .bld 50 5 (out2 ++ [38]))], ⟨⟨rfl, rfl, rfl⟩, trivial⟩, rfl, trivial, ?_⟩
      exact ⟨⟨by omega, by simp; omega, by simp⟩, _, _, _, ⟨r, _, rfl, by omega, pass ho, rfl, rfl⟩, by simp; omega, Mv.of [.old 0] rfl rfl rfl ⟨⟨rfl, rfl, rfl⟩, trivial⟩ ⟨congrArg D.str (tail_at [38] _).symm, ⟨rfl, rfl, rfl⟩, trivial⟩⟩
  · have c1 := IndexByte_ok t 38
    rw [idxB_none hm] at c1
    refine PureC.use c1 ?_
    refine E.of Try.wf Try.tab_ok ⟨fun _ => ?_, fun h => absurd h (by decide)⟩
    rw [resolve_same t hm] at hI
    have hlen : out.length + t.length ≤ s.length := by have := congrArg List.length hI; simp at this; omega
    refine CallsAbs.frame (WriteString_ok out t (by omega)) [.old 0] ⟨Nat.zero_le _, rfl, rfl, ⟨⟨rfl, rfl, rfl⟩, trivial⟩⟩ ⟨⟨rfl, rfl, rfl⟩, rfl, trivial⟩ ?_
    rintro _ _ ⟨rfl, rfl⟩
    refine ⟨.tup [.d (.int .i64 t.length), .nili], [(0, .bld 50 5 (out ++ t))], ⟨⟨rfl, rfl, rfl⟩, trivial⟩, rfl, ⟨rfl, trivial, trivial⟩, ?_⟩
    refine CallsAbs.frame (String_ok (out ++ t) (by simp; omega)) [.old 0] ⟨Nat.zero_le _, rfl, rfl, ⟨⟨rfl, rfl, rfl⟩, trivial⟩⟩ ⟨⟨rfl, rfl, rfl⟩, trivial⟩ ?_
    rintro _ _ ⟨rfl, rfl⟩
    refine ⟨.d (.str (out ++ t)), [(0, .dead)], ⟨trivial, trivial⟩, rfl, rfl, ?_⟩
    exact ⟨_, _, fin_out rfl, congrArg (fun x => AV.d (.str x)) hI, rfl⟩

theorem esc_other (q : Bool) (c : UInt8) (h1 : c ≠ 38) (h2 : c ≠ 60) (h3 : c ≠ 62) (h4 : c = 34 → q = false) : esc1 q c = [c] := by
  unfold esc1
  rw [if_neg h1, if_neg h2, if_neg h3, if_neg (fun h => by rw [h4 h.1] at h; exact absurd h.2 (by decide))]

theorem u8_is {c d : UInt8} {n : Int} (h : (c.toNat : Int) = n) (hd : (d.toNat : Int) = n) : c = d := UInt8.toNat_inj.1 (by omega)

set_option maxRecDepth 100000 in
set_option maxHeartbeats 1000000 in
theorem Escape_ok (s : List UInt8) (q : Bool) (hs : s.length ≤ 17592186044416) : PureC Try.prog 115 [.d (.str s), .d (.bool q)] (.d (.str (escape q s))) := by
  refine pure_okT Try.wf Try.tab_ok Try.func115 (by decide +kernel) rfl rfl rfl rfl ?_
  have hel := (escape_len s.length q s (Nat.le_refl _)).2
  refine loopT Try.wf Try.tab_ok (fun n s' σ => ∃ (k : Nat) (out : List UInt8), n = s.length - k ∧ k ≤ s.length ∧ out ++ escape q (s.drop k) = escape q s ∧ s' = [(0, .d (.str s)), (1, .d (.bool q)), (5, .ref 0 0 0), (6, .d (.int .i64 k))] ∧ σ = ⟨1, [(0, .bld 50 5 out)]⟩)
    ⟨0, [], rfl, Nat.zero_le _, rfl, rfl, rfl⟩ (Mv.of [.old 0] rfl rfl rfl ⟨⟨rfl, rfl, rfl⟩, trivial⟩ ⟨rfl, rfl, ⟨rfl, rfl, rfl⟩, rfl, trivial⟩) ?_
  rintro _ _ _ ⟨k, out, rfl, hk, hI, rfl, rfl⟩
  have hol : out.length + (escape q (s.drop k)).length ≤ 6 * s.length := by have := congrArg List.length hI; simp at this; omega
  refine ⟨fun h => ?_, fun h => ?_⟩
  · have hlt : k < s.length := by have := of_decide_eq_true h; omega
    clear h
    have hg := getD_at s k hlt
    have hd : s.drop k = s[k] :: s.drop (k + 1) := List.drop_eq_getElem_cons hlt
    rw [hd] at hI hol
    have hu := s[k].toNat_lt
    refine ⟨⟨by omega, by omega⟩, ?_⟩
    rw [hg]
    generalize s[k] = c at *
    -- one more, by itself
    have one : ¬ (c = 194 ∧ ∃ t, s.drop (k + 1) = 160 :: t) → (out ++ esc1 q c) ++ escape q (s.drop (k + 1)) = escape q s ∧ out.length + (esc1 q c).length ≤ 6 * s.length := fun h => by
      rw [escape_cons q c _ h] at hI hol
      simp only [List.length_append] at hol
      exact ⟨by rw [List.append_assoc]; exact hI, by omega⟩
    refine ⟨fun h1 => ?_, fun h1 => ⟨fun h2 => ?_, fun h2 => ⟨fun h3 => ?_, fun h3 => ?_⟩⟩⟩
    · have hc : c = 38 := u8_is (of_decide_eq_true h1) rfl
      subst hc
      obtain ⟨o1, o2⟩ := one (by simp)
      refine CallsAbs.frame (WriteString_ok (out) ([38, 97, 109, 112, 59]) (by simp [esc1] at o2; simp; omega)) [.old 0] ⟨Nat.zero_le _, rfl, rfl, ⟨⟨rfl, rfl, rfl⟩, trivial⟩⟩ ⟨⟨rfl, rfl, rfl⟩, rfl, trivial⟩ ?_
      rintro _ _ ⟨rfl, rfl⟩
      refine ⟨.tup [.d (.int .i64 (([38, 97, 109, 112, 59] : List UInt8).length : Nat)), .nili], [(0, .bld 50 5 (out ++ [38, 97, 109, 112, 59]))], ⟨⟨rfl, rfl, rfl⟩, trivial⟩, rfl, ⟨rfl, trivial, trivial⟩, ?_⟩
      exact .inl ⟨⟨by omega, by omega⟩, _, _, _, ⟨k + 1, _, rfl, hlt, o1, rfl, rfl⟩, by omega, Mv.of [.old 0] rfl rfl rfl ⟨⟨rfl, rfl, rfl⟩, trivial⟩ ⟨rfl, rfl, ⟨rfl, rfl, rfl⟩, rfl, trivial⟩⟩
    · have hc : c = 60 := u8_is (of_decide_eq_true h2) rfl
      subst hc
      obtain ⟨o1, o2⟩ := one (by simp)
      refine CallsAbs.frame (WriteString_ok (out) ([38, 108, 116, 59]) (by simp [esc1] at o2; simp; omega)) [.old 0] ⟨Nat.zero_le _, rfl, rfl, ⟨⟨rfl, rfl, rfl⟩, trivial⟩⟩ ⟨⟨rfl, rfl, rfl⟩, rfl, trivial⟩ ?_
      rintro _ _ ⟨rfl, rfl⟩
      refine ⟨.tup [.d (.int .i64 (([38, 108, 116, 59] : List UInt8).length : Nat)), .nili], [(0, .bld 50 5 (out ++ [38, 108, 116, 59]))], ⟨⟨rfl, rfl, rfl⟩, trivial⟩, rfl, ⟨rfl, trivial, trivial⟩, ?_⟩
      exact .inl ⟨⟨by omega, by omega⟩, _, _, _, ⟨k + 1, _, rfl, hlt, o1, rfl, rfl⟩, by omega, Mv.of [.old 0] rfl rfl rfl ⟨⟨rfl, rfl, rfl⟩, trivial⟩ ⟨rfl, rfl, ⟨rfl, rfl, rfl⟩, rfl, trivial⟩⟩
    · have hc : c = 62 := u8_is (of_decide_eq_true h3) rfl
      subst hc
      obtain ⟨o1, o2⟩ := one (by simp)
      refine CallsAbs.frame (WriteString_ok (out) ([38, 103, 116, 59]) (by simp [esc1] at o2; simp; omega)) [.old 0] ⟨Nat.zero_le _, rfl, rfl, ⟨⟨rfl, rfl, rfl⟩, trivial⟩⟩ ⟨⟨rfl, rfl, rfl⟩, rfl, trivial⟩ ?_
      rintro _ _ ⟨rfl, rfl⟩
      refine ⟨.tup [.d (.int .i64 (([38, 103, 116, 59] : List UInt8).length : Nat)), .nili], [(0, .bld 50 5 (out ++ [38, 103, 116, 59]))], ⟨⟨rfl, rfl, rfl⟩, trivial⟩, rfl, ⟨rfl, trivial, trivial⟩, ?_⟩
      exact .inl ⟨⟨by omega, by omega⟩, _, _, _, ⟨k + 1, _, rfl, hlt, o1, rfl, rfl⟩, by omega, Mv.of [.old 0] rfl rfl rfl ⟨⟨rfl, rfl, rfl⟩, trivial⟩ ⟨rfl, rfl, ⟨rfl, rfl, rfl⟩, rfl, trivial⟩⟩
    · have c1 : c ≠ 38 := fun e => by subst e; exact absurd h1 (by decide)
      have c2 : c ≠ 60 := fun e => by subst e; exact absurd h2 (by decide)
      have c3 : c ≠ 62 := fun e => by subst e; exact absurd h3 (by decide)
      by_cases hq : c = 34 ∧ q = true
      · obtain ⟨rfl, rfl⟩ := hq
        obtain ⟨o1, o2⟩ := one (by simp)
        refine ⟨fun _ => ⟨fun _ => ?_, fun h => absurd h (by decide)⟩, fun h => absurd h (by decide)⟩
        refine CallsAbs.frame (WriteString_ok (out) ([38, 113, 117, 111, 116, 59]) (by simp [esc1] at o2; simp; omega)) [.old 0] ⟨Nat.zero_le _, rfl, rfl, ⟨⟨rfl, rfl, rfl⟩, trivial⟩⟩ ⟨⟨rfl, rfl, rfl⟩, rfl, trivial⟩ ?_
        rintro _ _ ⟨rfl, rfl⟩
        refine ⟨.tup [.d (.int .i64 (([38, 113, 117, 111, 116, 59] : List UInt8).length : Nat)), .nili], [(0, .bld 50 5 (out ++ [38, 113, 117, 111, 116, 59]))], ⟨⟨rfl, rfl, rfl⟩, trivial⟩, rfl, ⟨rfl, trivial, trivial⟩, ?_⟩
        exact .inl ⟨⟨by omega, by omega⟩, _, _, _, ⟨k + 1, _, rfl, hlt, o1, rfl, rfl⟩, by omega, Mv.of [.old 0] rfl rfl rfl ⟨⟨rfl, rfl, rfl⟩, trivial⟩ ⟨rfl, rfl, ⟨rfl, rfl, rfl⟩, rfl, trivial⟩⟩
      · have e1 : esc1 q c = [c] := esc_other q c c1 c2 c3 (fun h => by cases q with | true => exact absurd ⟨h, rfl⟩ hq | false => rfl)
        -- a byte as it is
        have byte : ¬ (c = 194 ∧ ∃ t, s.drop (k + 1) = 160 :: t) → (out ++ [c]) ++ escape q (s.drop (k + 1)) = escape q s ∧ out.length + 1 ≤ 6 * s.length := fun h => by
          obtain ⟨o1, o2⟩ := one h
          rw [e1] at o1 o2
          exact ⟨o1, o2⟩
        have rest : ∀ (b34 : Bool), b34 = decide ((c.toNat : Int) = 34) → b34 = true → q = true → False := fun b hb h1 h2 => hq ⟨u8_is (of_decide_eq_true (hb ▸ h1)) rfl, h2⟩
        clear h1 h2 h3
        refine ⟨fun h34 => ⟨fun hqt => absurd ⟨u8_is (of_decide_eq_true h34) rfl, hqt⟩ hq, fun hqf => ?_⟩, fun h34 => ?_⟩
        all_goals
          by_cases h194 : c = 194
          · subst h194
            refine ⟨fun _ => ?_, fun h => absurd h (by decide)⟩
            refine .inl ⟨⟨by omega, by omega⟩, fun hl => ?_, fun hl => ?_⟩
            · have hlt2 : k + 1 < s.length := by have := of_decide_eq_true hl; omega
              have hg2 : s.getD ((k : Int) + 1).toNat 0 = s[k + 1] := by have := getD_at s (k + 1) hlt2; simpa using this
              have hd2 : s.drop (k + 1) = s[k + 1] :: s.drop (k + 2) := List.drop_eq_getElem_cons hlt2
              refine .inl ⟨⟨by omega, by omega⟩, ⟨by omega, by omega⟩, ?_⟩
              rw [hg2]
              refine ⟨fun h5 => ?_, fun h5 => ?_⟩
              · have h160 : s[k + 1] = 160 := u8_is (of_decide_eq_true h5) rfl
                rw [h160] at hd2
                rw [hd2, escape_nb] at hI hol
                simp only [List.length_append] at hol
                refine CallsAbs.frame (WriteString_ok (out) ([38, 110, 98, 115, 112, 59]) (by simp at hol; simp; omega)) [.old 0] ⟨Nat.zero_le _, rfl, rfl, ⟨⟨rfl, rfl, rfl⟩, trivial⟩⟩ ⟨⟨rfl, rfl, rfl⟩, rfl, trivial⟩ ?_
                rintro _ _ ⟨rfl, rfl⟩
                refine ⟨.tup [.d (.int .i64 (([38, 110, 98, 115, 112, 59] : List UInt8).length : Nat)), .nili], [(0, .bld 50 5 (out ++ [38, 110, 98, 115, 112, 59]))], ⟨⟨rfl, rfl, rfl⟩, trivial⟩, rfl, ⟨rfl, trivial, trivial⟩, ?_⟩
                exact .inl ⟨⟨by omega, by omega⟩, .inl ⟨⟨by omega, by omega⟩, _, _, _, ⟨k + 2, _, rfl, hlt2, by rw [List.append_assoc]; exact hI, rfl, rfl⟩, by omega, Mv.of [.old 0] rfl rfl rfl ⟨⟨rfl, rfl, rfl⟩, trivial⟩ ⟨rfl, rfl, ⟨rfl, rfl, rfl⟩, congrArg (D.int .i64) (by simp; omega), trivial⟩⟩⟩
              · have n160 : s[k + 1] ≠ 160 := fun e => by rw [e] at h5; exact absurd h5 (by decide)
                obtain ⟨o1, o2⟩ := byte (by rintro ⟨_, t, ht⟩; rw [hd2] at ht; injection ht with h _; exact n160 h)
                refine CallsAbs.frame (WriteByte_ok (out) (194) (by omega)) [.old 0] ⟨Nat.zero_le _, rfl, rfl, ⟨⟨rfl, rfl, rfl⟩, trivial⟩⟩ ⟨⟨rfl, rfl, rfl⟩, rfl, trivial⟩ ?_
                rintro _ _ ⟨rfl, rfl⟩
                refine ⟨.nili, [(0, .bld 50 5 (out ++ [194]))], ⟨⟨rfl, rfl, rfl⟩, trivial⟩, rfl, trivial, ?_⟩
                exact .inl ⟨⟨by omega, by omega⟩, _, _, _, ⟨k + 1, _, rfl, hlt, o1, rfl, rfl⟩, by omega, Mv.of [.old 0] rfl rfl rfl ⟨⟨rfl, rfl, rfl⟩, trivial⟩ ⟨rfl, rfl, ⟨rfl, rfl, rfl⟩, rfl, trivial⟩⟩
            · have hge : s.length ≤ k + 1 := by have := of_decide_eq_false hl; omega
              obtain ⟨o1, o2⟩ := byte (by rintro ⟨_, t, ht⟩; rw [List.drop_eq_nil_of_le hge] at ht; cases ht)
              refine CallsAbs.frame (WriteByte_ok (out) (194) (by omega)) [.old 0] ⟨Nat.zero_le _, rfl, rfl, ⟨⟨rfl, rfl, rfl⟩, trivial⟩⟩ ⟨⟨rfl, rfl, rfl⟩, rfl, trivial⟩ ?_
              rintro _ _ ⟨rfl, rfl⟩
              refine ⟨.nili, [(0, .bld 50 5 (out ++ [194]))], ⟨⟨rfl, rfl, rfl⟩, trivial⟩, rfl, trivial, ?_⟩
              exact .inl ⟨⟨by omega, by omega⟩, _, _, _, ⟨k + 1, _, rfl, hlt, o1, rfl, rfl⟩, by omega, Mv.of [.old 0] rfl rfl rfl ⟨⟨rfl, rfl, rfl⟩, trivial⟩ ⟨rfl, rfl, ⟨rfl, rfl, rfl⟩, rfl, trivial⟩⟩
          · refine ⟨fun h => absurd (u8_is (of_decide_eq_true h) rfl) h194, fun _ => ?_⟩
            obtain ⟨o1, o2⟩ := byte (fun h => h194 h.1)
            refine CallsAbs.frame (WriteByte_ok (out) (c) (by omega)) [.old 0] ⟨Nat.zero_le _, rfl, rfl, ⟨⟨rfl, rfl, rfl⟩, trivial⟩⟩ ⟨⟨rfl, rfl, rfl⟩, rfl, trivial⟩ ?_
            rintro _ _ ⟨rfl, rfl⟩
            refine ⟨.nili, [(0, .bld 50 5 (out ++ [c]))], ⟨⟨rfl, rfl, rfl⟩, trivial⟩, rfl, trivial, ?_⟩
            exact .inl ⟨⟨by omega, by omega⟩, _, _, _, ⟨k + 1, _, rfl, hlt, o1, rfl, rfl⟩, by omega, Mv.of [.old 0] rfl rfl rfl ⟨⟨rfl, rfl, rfl⟩, trivial⟩ ⟨rfl, rfl, ⟨rfl, rfl, rfl⟩, rfl, trivial⟩⟩
  · have hk' : k = s.length := by have := of_decide_eq_false h; omega
    subst hk'
    rw [List.drop_length] at hI hol
    refine CallsAbs.frame (String_ok (out) (by omega)) [.old 0] ⟨Nat.zero_le _, rfl, rfl, ⟨⟨rfl, rfl, rfl⟩, trivial⟩⟩ ⟨⟨rfl, rfl, rfl⟩, trivial⟩ ?_
    rintro _ _ ⟨rfl, rfl⟩
    refine ⟨.d (.str (out)), [(0, .dead)], ⟨trivial, trivial⟩, rfl, rfl, ?_⟩
    exact ⟨_, _, fin_out rfl, congrArg (fun x => AV.d (.str x)) (by simpa [escape] using hI)⟩

end Go.Proofs.Ytcmkiancbgmmhaa
