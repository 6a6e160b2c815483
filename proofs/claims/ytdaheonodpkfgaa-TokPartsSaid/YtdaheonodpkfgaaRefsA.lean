import Derived.Test.YtdaheonodpkfgaaRefsP
import Derived.Test.YtdaheonodpkfgaaBld
namespace Go.Proofs.Ytdaheonodpkfgaa
open Go.Aw
set_option maxHeartbeats 1600000
set_option linter.unusedSimpArgs false
set_option linter.unusedVariables false

def tabA : List AV := nameTab.flatMap fun e => [.d (.str e.1), .d (.int .i32 e.2)]
theorem pairs_at : ∀ (l : List (List UInt8 × Int)) (k : Nat) (h : k < l.length), ((l.flatMap fun e => [AV.d (.str e.1), .d (.int .i32 e.2)]).drop (k * 2)).take 2 = [.d (.str l[k].1), .d (.int .i32 l[k].2)]
  | e :: l, 0, _ => rfl
  | e :: l, k + 1, h => by
    have := pairs_at l k (by simpa using h)
    rw [List.flatMap_cons, Nat.add_mul, List.drop_append]
    simpa using this

set_option maxRecDepth 100000 in
theorem Named_ok (s : List UInt8) : PureC Try.prog 51 [.d (.str s)] (optV (named s)) := by
  refine pure_okT Try.wf Try.tab_ok Try.func51 (by decide +kernel) rfl rfl rfl (optV_pure _) ?_
  refine ⟨_, rfl, rfl, by decide, _, rfl, by decide, ?_⟩
  refine loopT Try.wf Try.tab_ok (fun n s' σ => ∃ k : Nat, n = 22 - k ∧ k ≤ 22 ∧ (∀ j (hj : j < nameTab.length), j < k → nameTab[j].1 ≠ s) ∧ s' = [(0, .d (.str s)), (30, .agg tabA), (31, .d (.int .i64 k))] ∧ σ = ⟨0, []⟩)
    ⟨0, rfl, Nat.zero_le _, fun j _ h => absurd h (by omega), rfl, rfl⟩ (Mv.of [] rfl rfl rfl trivial ⟨rfl, vrel_self (.agg tabA) rfl, rfl, trivial⟩) ?_
  rintro _ _ _ ⟨k, rfl, hk, hI, rfl, rfl⟩
  refine ⟨fun h => ?_, fun h => ?_⟩
  · have hlt : k < 22 := by have := of_decide_eq_true h; omega
    have hlt' : k < nameTab.length := hlt
    have e := pairs_at nameTab k hlt'
    refine ⟨⟨by omega, by omega⟩, rfl, ?_⟩
    have e' : List.take (nth Try.tab 79).size (List.drop (((k : Nat) : Int).toNat * (nth Try.tab 79).size) tabA) = [.d (.str nameTab[k].1), .d (.int .i32 nameTab[k].2)] := by
      rw [Int.toNat_natCast]; exact e
    rw [e']
    refine ⟨_, rfl, rfl, Nat.le_refl _, _, rfl, _, rfl, fun h1 => ?_, fun h1 => ?_⟩
    · have h1' : nameTab[k].1 = s := of_decide_eq_true h1
      refine ⟨_, rfl, _, rfl, ?_⟩
      exact ⟨_, _, fin_out rfl, by rw [named_hit hlt' hI h1']; rfl⟩
    · have h1' : ¬ nameTab[k].1 = s := of_decide_eq_false h1
      refine .inl ⟨⟨by omega, by omega⟩, _, _, _, ⟨k + 1, rfl, hlt, fun j hj hjk => ?_, rfl, rfl⟩, by omega, Mv.of [] rfl rfl rfl trivial ⟨rfl, vrel_self (.agg tabA) rfl, rfl, trivial⟩⟩
      by_cases hj2 : j = k
      · subst hj2; exact h1'
      · exact hI j hj (by omega)
  · have hk' : k = 22 := by have := of_decide_eq_false h; omega
    subst hk'
    exact ⟨_, _, FinMove.refl _ _ _, by rw [named_miss (fun j hj => hI j hj hj)]; rfl⟩

def numV : Option Nat → AV
  | some n => .tup [.d (.int .i64 n), .d (.bool true)]
  | none => .tup [.d (.int .i64 0), .d (.bool false)]
theorem numV_pure (o : Option Nat) : (numV o).pure = true := by cases o <;> rfl
def hexs : List UInt8 := [48, 49, 50, 51, 52, 53, 54, 55, 56, 57, 97, 98, 99, 100, 101, 102]
theorem hexs_all : ∀ n < 256, ¬ (65 ≤ n ∧ n ≤ 90) → idxB (UInt8.ofNat n) hexs = match hexv (UInt8.ofNat n) with | some d => (d : Int) | none => -1 := by decide +kernel
theorem hexs_at (c : UInt8) (h : ¬ (65 ≤ c.toNat ∧ c.toNat ≤ 90)) : idxB c hexs = match hexv c with | some d => (d : Int) | none => -1 := by
  have := hexs_all c.toNat c.toNat_lt h
  simpa using this
theorem hex_hi (c : UInt8) (h : 128 ≤ c.toNat) : hexv c = none := by
  unfold hexv
  rw [if_neg (by omega), if_neg (by omega), if_neg (by omega)]
theorem hex_low (c : UInt8) : hexv (lowB c) = hexv c := by
  by_cases h : 65 ≤ c.toNat ∧ c.toNat ≤ 90
  · have := lowB_hi c h
    unfold hexv
    by_cases h2 : c.toNat ≤ 70
    · rw [if_neg (by omega), if_pos (by omega), if_neg (by omega), if_neg (by omega), if_pos (by omega)]
      congr 1; omega
    · rw [if_neg (by omega), if_neg (by omega), if_neg (by omega), if_neg (by omega), if_neg (by omega), if_neg (by omega)]
  · rw [lowB_lo c h]
theorem digs_cons (base : Nat) (c : UInt8) (r : List UInt8) (n : Nat) : digs base (c :: r) n = match hexv c with
    | some d => if d < base then digs base r (n * base + d) else none
    | none => none := rfl
theorem digs_lower (base : Nat) : ∀ (s : List UInt8) (n : Nat), digs base (lower s) n = digs base s n
  | [], _ => rfl
  | c :: r, n => by
    show digs base (lowB c :: lower r) n = _
    unfold digs
    rw [hex_low]
    split
    · rw [digs_lower base r]
    · rfl
theorem low_not (s : List UInt8) : ∀ c ∈ lower s, ¬ (65 ≤ c.toNat ∧ c.toNat ≤ 90) := by
  intro c hc
  obtain ⟨d, _, rfl⟩ := List.mem_map.1 hc
  by_cases h : 65 ≤ d.toNat ∧ d.toNat ≤ 90
  · have := lowB_hi d h; omega
  · rw [lowB_lo d h]; exact h
theorem pow16 {k : Nat} (h : k ≤ 7) : 16 ^ k ≤ 268435456 := Nat.pow_le_pow_right (by decide) h

set_option maxRecDepth 100000 in
theorem number_ok (s : List UInt8) (base most : Nat) (hs : s.length ≤ 9223372036854775807) (hb : base ≤ 16) (hm : most ≤ 7) : PureC Try.prog 52 [.d (.str s), .d (.int .i64 base), .d (.int .i64 most)] (numV (number s base most)) := by
  refine pure_okT Try.wf Try.tab_ok Try.func52 (by decide +kernel) rfl rfl rfl (numV_pure _) ?_
  have no : number s base most = none → ∃ r2 σ2, FinMove ⟨0, []⟩ (.tup [.d (.int .i64 0), .d (.bool false)]) ⟨0, []⟩ r2 σ2 ∧ r2 = numV (number s base most) := fun h => ⟨_, _, fin_out rfl, by rw [h]; rfl⟩
  refine ⟨fun h1 => ⟨fun h2 => ?_, fun h2 => ?_⟩, fun h1 => ?_⟩
  · exact no (if_pos (.inr (by have := of_decide_eq_true h2; omega)))
  · have h1' : s ≠ [] := of_decide_eq_false h1
    have h2' : s.length ≤ most := by have := of_decide_eq_false h2; omega
    have hN : number s base most = digs base (lower s) 0 := by rw [digs_lower]; exact if_neg (by rintro (h | h); exact h1' h; omega)
    clear h1 h2
    refine PureC.use (Lower_ok s hs) ?_
    have hbl : (lower s).length ≤ 7 := by rw [show (lower s).length = s.length by simp [lower]]; omega
    have hnot := low_not s
    generalize lower s = b at *
    refine loopT Try.wf Try.tab_ok (fun m s' σ => ∃ k n : Nat, m = b.length - k ∧ k ≤ b.length ∧ n + 1 ≤ 16 ^ k ∧ digs base b 0 = digs base (b.drop k) n ∧ s' = [(1, .d (.int .i64 base)), (8, .d (.int .i64 n)), (22, .ref 0 0 0)] ∧ σ = ⟨1, [(0, .iter b k)]⟩)
      ⟨0, 0, rfl, Nat.zero_le _, by simp, rfl, rfl, rfl⟩ (Mv.of [.old 0] rfl rfl rfl ⟨⟨rfl, rfl⟩, trivial⟩ ⟨rfl, rfl, ⟨rfl, rfl, rfl⟩, trivial⟩) ?_
    rintro _ _ _ ⟨k, n, rfl, hk, hn, hI, rfl, rfl⟩
    have h16 := pow16 (k := k) (by omega)
    refine ⟨fun hlt => ?_, fun hge => ?_⟩
    · have hd : b.drop k = b[k] :: b.drop (k + 1) := List.drop_eq_getElem_cons hlt
      have no' : digs base b 0 = none → ∃ r2 σ2, FinMove ⟨0, []⟩ (.tup [.d (.int .i64 0), .d (.bool false)]) ⟨1, [(0, .iter b (k + (Utf8.decode ⟨b.toArray⟩ k).2)), (0, .iter b k)]⟩ r2 σ2 ∧ r2 = numV (number s base most) := fun h => ⟨_, _, fin_out rfl, by rw [hN, h]; rfl⟩
      refine ⟨fun _ => ?_, fun h => absurd h (by decide)⟩
      by_cases hlo : b[k].toNat < 128
      · have e := decode_lo b k hlt hlo
        rw [e] at no' ⊢
        have c1 := IndexByte_ok hexs b[k]
        rw [hexs_at b[k] (hnot _ (List.getElem_mem hlt))] at c1
        rw [hd, digs_cons] at hI
        cases hv : hexv b[k] with
        | none =>
          rw [hv] at hI c1
          refine .inl ⟨⟨by show 0 ≤ ((b[k].toNat : Nat) : Int); omega, by show ((b[k].toNat : Nat) : Int) ≤ 255; omega⟩, PureC.use c1 ?_⟩
          refine ⟨fun h1 => ⟨fun h2 => absurd h2 (by simp), fun h2 => no' hI⟩, fun h1 => no' hI⟩
        | some d =>
          rw [hv] at hI c1
          dsimp only at hI c1
          refine .inl ⟨⟨by show 0 ≤ ((b[k].toNat : Nat) : Int); omega, by show ((b[k].toNat : Nat) : Int) ≤ 255; omega⟩, PureC.use c1 ?_⟩
          refine ⟨fun h1 => ⟨fun h2 => ⟨fun h3 => ?_, fun h3 => ?_⟩, fun h2 => absurd h2 (by simp)⟩, fun h1 => absurd h1 (by simp; omega)⟩
          · have h3' := of_decide_eq_true h3
            rw [if_neg (by omega)] at hI
            exact no' hI
          · have h3' := of_decide_eq_false h3
            rw [if_pos (by omega)] at hI
            have hd16 := hexv_lt hv
            have hmul : n * base ≤ n * 16 := Nat.mul_le_mul_left _ hb
            have hcast : (n : Int) * (base : Int) = ((n * base : Nat) : Int) := by simp
            have hd0 : (0 : Int) ≤ (d : Int) := Int.natCast_nonneg d
            have hpos : (0 : Int) ≤ (n : Int) * (base : Int) := Int.mul_nonneg (by omega) (by omega)
            refine .inl ⟨⟨by omega, by omega⟩, .inl ⟨⟨by omega, by omega⟩, ?_⟩⟩
            · refine ⟨_, _, _, ⟨k + 1, n * base + d, rfl, hlt, ?_, hI, rfl, rfl⟩, by omega, Mv.of [.old 0] rfl rfl rfl ⟨⟨rfl, rfl⟩, trivial⟩ ⟨rfl, ?_, ⟨rfl, rfl, rfl⟩, trivial⟩⟩
              · rw [Nat.pow_succ]; omega
              · exact congrArg (D.int .i64) (by simp)
      · have hhi := decode_hi b k hlt (by omega)
        have hx : digs base b 0 = none := by rw [hI, hd, digs_cons, hex_hi _ (by omega)]
        generalize (Utf8.decode ⟨b.toArray⟩ k) = p at *
        obtain ⟨p1, p2⟩ := p
        have hw : IntKind.u8.wrap (p1 : Int) = (((UInt8.ofNat p1).toNat : Nat) : Int) := by
          simp [IntKind.wrap, IntKind.signed, IntKind.bits]
        refine .inr ?_
        rw [hw]
        refine PureC.use (IndexByte_ok hexs (UInt8.ofNat p1)) ?_
        refine ⟨fun h1 => ?_, fun h1 => no' hx⟩
        have h1' := of_decide_eq_false h1
        have := hhi.1
        dsimp only at this
        omega
    · have hk' : k = b.length := by omega
      subst hk'
      rw [List.drop_length] at hI
      refine ⟨fun h => absurd h (by decide), fun _ => ?_⟩
      exact ⟨_, _, fin_out rfl, by rw [hN, hI]; rfl⟩
  · exact no (if_pos (.inl (of_decide_eq_true h1)))

end Go.Proofs.Ytdaheonodpkfgaa
