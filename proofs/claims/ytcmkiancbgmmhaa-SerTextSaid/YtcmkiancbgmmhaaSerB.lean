import Derived.Test.YtcmkiancbgmmhaaSerA
import Derived.Test.YtcmkiancbgmmhaaRefsP
namespace Go.Proofs.Ytcmkiancbgmmhaa
open Go.Aw
set_option maxHeartbeats 1600000
set_option linter.unusedSimpArgs false
set_option linter.unusedVariables false

def rawB (s : List UInt8) : Bool := decide (s ∈ raws) || decide (s ∈ softs)
def attrsFrom : List (List UInt8) → List (List UInt8 × List UInt8) → Bool
  | _, [] => true
  | seen, a :: r => (small a.1 [45, 95, 58] && !decide (a.1 ∈ seen)) && attrsFrom (seen ++ [a.1]) r
def ownB (n : Node) : Bool := !(rawB n.name || !small n.name [45] || !decide (n.text = []) || decide (n.name ∈ voids) && !decide (n.kids = [])) && attrsFrom [] n.attrs
theorem rawV_fst (s : List UInt8) : rawV s = .tup [.d (.bool (rawB s)), .d (.bool (decide (s ∉ raws) && decide (s ∈ softs)))] := rfl

set_option maxRecDepth 100000 in
theorem rRaw_ok (s : List UInt8) : PureC Try.prog 35 [.d (.str s)] (rawV s) := by
  refine pure_okT Try.wf Try.tab_ok Try.func35 (by decide +kernel) rfl rfl rfl (rawV_pure s) ?_
  refine loopT Try.wf Try.tab_ok (fun n s' σ => ∃ k : Nat, n = raws.length - k ∧ k ≤ raws.length ∧ s ∉ raws.take k ∧ s' = [(0, .d (.str s)), (4, .own 0 0 7), (5, .d (.int .i64 k))] ∧ σ = ⟨1, [(0, .rows (1, 9) (raws.map fun x => [AV.d (.str x)]))]⟩)
    ⟨0, rfl, Nat.zero_le _, by simp, rfl, rfl⟩ (Mv.of [.old 0] rfl rfl rfl ⟨⟨rfl, .inl ⟨rfl, fun row h => by obtain ⟨x, _, rfl⟩ := List.mem_map.1 h; rfl⟩⟩, trivial⟩ ⟨rfl, ⟨rfl, rfl, rfl⟩, rfl, trivial⟩) ?_
  rintro _ _ _ ⟨k, rfl, hk, hI, rfl, rfl⟩
  have hrl : raws.length = 7 := rfl
  refine ⟨fun h => ?_, fun h => ?_⟩
  · have hlt : k < raws.length := by have := of_decide_eq_true h; rw [hrl]; omega
    have hrow : (raws.map fun x => [AV.d (.str x)])[((k : Nat) : Int).toNat]? = some [AV.d (.str raws[k])] := by rw [Int.toNat_natCast]; simp [hlt]
    refine ⟨⟨by omega, by omega⟩, _, hrow, _, rfl, ?_⟩
    refine ⟨fun h1 => ?_, fun h1 => ?_⟩
    · have h1' := of_decide_eq_true h1
      have hm : s ∈ raws := h1' ▸ List.getElem_mem hlt
      refine ⟨_, _, fin_out rfl, ?_⟩
      show AV.tup [.d (.bool true), .d (.bool false)] = rawV s
      simp [rawV, hm]
    · have h1' := of_decide_eq_false h1
      refine .inl ⟨⟨by omega, by omega⟩, _, _, _, ⟨k + 1, rfl, hlt, ?_, rfl, rfl⟩, by omega, Mv.of [.old 0] rfl rfl rfl ⟨⟨rfl, .inl ⟨rfl, fun row h => by obtain ⟨x, _, rfl⟩ := List.mem_map.1 h; rfl⟩⟩, trivial⟩ ⟨rfl, ⟨rfl, rfl, rfl⟩, rfl, trivial⟩⟩
      rw [List.take_succ_eq_append_getElem hlt]
      simp only [List.mem_append, not_or, List.mem_singleton]
      exact ⟨hI, fun e => h1' e.symm⟩
  · have hk' : k = raws.length := by have := of_decide_eq_false h; rw [hrl] at hk ⊢; omega
    subst hk'
    rw [List.take_length] at hI
    have yes2 : ∀ σ : Store, s ∈ softs → ∃ r2 σ2, FinMove ⟨0, []⟩ (AV.tup [.d (.bool true), .d (.bool true)]) σ r2 σ2 ∧ r2 = rawV s := fun σ h => ⟨_, _, fin_out rfl, by simp [rawV, h, hI]⟩
    have e1 : (s ∈ softs) ↔ (s = [116, 101, 120, 116, 97, 114, 101, 97] ∨ s = [116, 105, 116, 108, 101]) := by simp [softs]
    by_cases h1 : s = [116, 101, 120, 116, 97, 114, 101, 97]
    · subst h1
      repeat (first | refine ⟨fun _ => ?_, fun h => absurd h (by decide)⟩ | refine ⟨fun h => absurd h (by decide), fun _ => ?_⟩)
      exact ⟨_, _, fin_out rfl, rfl⟩
    · refine ⟨fun _ => ?_, fun h => absurd (of_decide_eq_true h) h1⟩
      refine ⟨_, _, fin_out rfl, ?_⟩
      have e2 : decide (s ∈ softs) = decide (s = [116, 105, 116, 108, 101]) := by rw [decide_eq_decide, e1]; simp [h1]
      show AV.tup [.d (.bool (decide (s = [116, 105, 116, 108, 101]))), .d (.bool (decide (s = [116, 105, 116, 108, 101])))] = rawV s
      rw [← e2]
      simp [rawV, hI]

theorem others_step (c : UInt8) (o : List UInt8) (k : Nat) (h : k < o.length) : decide (c ∈ o.take (k + 1)) = (decide (c ∈ o.take k) || decide (c = o[k])) := by
  rw [List.take_succ_eq_append_getElem h, ← Bool.decide_or, decide_eq_decide, List.mem_append, List.mem_singleton]

set_option maxRecDepth 100000 in
theorem rname_ok (s o : List UInt8) (hs : s.length ≤ 4611686018427387904) (ho : o.length ≤ 4611686018427387904) : PureC Try.prog 36 [.d (.str s), .d (.str o)] (.d (.bool (small s o))) := by
  refine PureC.of rfl rfl (fn_okTE Try.wf Try.tab_ok Try.func36 (by decide +kernel) rfl rfl ?_)
  refine E.seq (E.of Try.wf Try.tab_ok ?_)
  refine E.seq (E.of Try.wf Try.tab_ok ?_)
  refine loopE (fun n s' σ => ∃ k : Nat, n = s.length - k ∧ k ≤ s.length ∧ upto s o k = true ∧ s' = [(0, .d (.str s)), (1, .d (.str o)), (5, .d (.int .i64 k))] ∧ σ = ⟨0, []⟩)
    ⟨0, rfl, Nat.zero_le _, rfl, rfl, rfl⟩ (Mv.of [] rfl rfl rfl trivial ⟨rfl, rfl, rfl, trivial⟩) ?_
  rintro _ _ _ ⟨k, rfl, hk, hI, rfl, rfl⟩
  refine E.seq (E.of Try.wf Try.tab_ok ?_)
  refine ⟨fun h => ?_, fun h => ?_⟩
  · have hlt : k < s.length := by have := of_decide_eq_true h; omega
    clear h
    have hg := getD_at s k hlt
    have hst := upto_step s o k hlt
    rw [hI, Bool.true_and] at hst
    refine E.seq (blockE ?_)
    refine E.seq (E.of Try.wf Try.tab_ok ?_)
    refine ⟨⟨by omega, by omega⟩, ?_⟩
    rw [hg]
    generalize hc : s[k] = c at *
    refine midT Try.wf Try.tab_ok (fun s' σ => s' = [(0, .d (.str s)), (1, .d (.str o)), (5, .d (.int .i64 k)), (6, .d (.int .u8 c.toNat)), (7, .d (.bool (letB c || (decide (0 < k) && digB c))))] ∧ σ = ⟨0, []⟩) ?_ ?_
    · have go : ∀ b : Bool, (letB c || (decide (0 < k) && digB c)) = b → vrelS (phi 0 []) [(0, .d (.str s)), (1, .d (.str o)), (5, .d (.int .i64 k)), (6, .d (.int .u8 c.toNat)), (7, .d (.bool b))] [(0, .d (.str s)), (1, .d (.str o)), (5, .d (.int .i64 k)), (6, .d (.int .u8 c.toNat)), (7, .d (.bool (letB c || (decide (0 < k) && digB c))))] := fun b h => by
        rw [h]; exact ⟨rfl, rfl, rfl, rfl, rfl, trivial⟩
      have d1 : (decide (((c.toNat : Nat) : Int) ≤ 57)) = decide (c.toNat ≤ 57) := by rw [decide_eq_decide]; omega
      by_cases hl : 97 ≤ c.toNat ∧ c.toNat ≤ 122
      · repeat (first | refine ⟨fun _ => ?_, fun h => absurd (of_decide_eq_false h) (by omega)⟩ | refine ⟨fun h => absurd (of_decide_eq_true h) (by omega), fun _ => ?_⟩ | refine ⟨fun _ => ?_, fun h => absurd (of_decide_eq_true h) (by omega)⟩ | refine ⟨fun h => absurd (of_decide_eq_false h) (by omega), fun _ => ?_⟩ | refine .inl ⟨⟨by omega, by omega⟩, ?_⟩ | refine ⟨⟨by omega, by omega⟩, ?_⟩)
        exact ⟨_, _, ⟨rfl, rfl⟩, Mv.of [] rfl rfl rfl trivial (go _ (by simp [letB, hl]))⟩
      · have hlb : letB c = false := by simp [letB]; omega
        by_cases hk0 : 0 < k
        · by_cases hd : 48 ≤ c.toNat
          · have e : (letB c || (decide (0 < k) && digB c)) = decide (((c.toNat : Nat) : Int) ≤ 57) := by rw [hlb, decide_eq_true hk0, d1]; simp [digB, hd]
            have hl2 : c.toNat < 97 ∨ 122 < c.toNat := by omega
            rcases hl2 with hl2 | hl2
            all_goals
              repeat (first | refine ⟨fun _ => ?_, fun h => absurd (of_decide_eq_false h) (by omega)⟩ | refine ⟨fun h => absurd (of_decide_eq_true h) (by omega), fun _ => ?_⟩ | refine ⟨fun _ => ?_, fun h => absurd (of_decide_eq_true h) (by omega)⟩ | refine ⟨fun h => absurd (of_decide_eq_false h) (by omega), fun _ => ?_⟩ | refine .inl ⟨⟨by omega, by omega⟩, ?_⟩ | refine ⟨⟨by omega, by omega⟩, ?_⟩)
              exact ⟨_, _, ⟨rfl, rfl⟩, Mv.of [] rfl rfl rfl trivial (go _ (e.trans (by first | rfl | (simp; omega))))⟩
          · have e : (letB c || (decide (0 < k) && digB c)) = false := by rw [hlb, decide_eq_true hk0]; simp [digB, hd]
            replace hl : c.toNat < 97 := by omega
            repeat (first | refine ⟨fun _ => ?_, fun h => absurd (of_decide_eq_false h) (by omega)⟩ | refine ⟨fun h => absurd (of_decide_eq_true h) (by omega), fun _ => ?_⟩ | refine ⟨fun _ => ?_, fun h => absurd (of_decide_eq_true h) (by omega)⟩ | refine ⟨fun h => absurd (of_decide_eq_false h) (by omega), fun _ => ?_⟩ | refine .inl ⟨⟨by omega, by omega⟩, ?_⟩ | refine ⟨⟨by omega, by omega⟩, ?_⟩)
            exact ⟨_, _, ⟨rfl, rfl⟩, Mv.of [] rfl rfl rfl trivial (go _ e)⟩
        · have e : (letB c || (decide (0 < k) && digB c)) = false := by rw [hlb, decide_eq_false hk0]; rfl
          have hl2 : c.toNat < 97 ∨ 122 < c.toNat := by omega
          rcases hl2 with hl2 | hl2
          all_goals
            repeat (first | refine ⟨fun _ => ?_, fun h => absurd (of_decide_eq_false h) (by omega)⟩ | refine ⟨fun h => absurd (of_decide_eq_true h) (by omega), fun _ => ?_⟩ | refine ⟨fun _ => ?_, fun h => absurd (of_decide_eq_true h) (by omega)⟩ | refine ⟨fun h => absurd (of_decide_eq_false h) (by omega), fun _ => ?_⟩ | refine .inl ⟨⟨by omega, by omega⟩, ?_⟩ | refine ⟨⟨by omega, by omega⟩, ?_⟩)
            exact ⟨_, _, ⟨rfl, rfl⟩, Mv.of [] rfl rfl rfl trivial (go _ e)⟩
    rintro _ _ ⟨rfl, rfl⟩
    generalize hb0 : (letB c || (decide (0 < k) && digB c)) = b0 at *
    refine midE (fun s' σ => s' = [(0, .d (.str s)), (1, .d (.str o)), (5, .d (.int .i64 k)), (7, .d (.bool (b0 || (decide (0 < k) && decide (c ∈ o)))))] ∧ σ = ⟨0, []⟩) ?_ ?_
    · refine E.seq (E.of Try.wf Try.tab_ok ?_)
      refine blockE (loopE (fun n s' σ => ∃ j : Nat, n = o.length - j ∧ j ≤ o.length ∧ s' = [(0, .d (.str s)), (1, .d (.str o)), (5, .d (.int .i64 k)), (6, .d (.int .u8 c.toNat)), (7, .d (.bool (b0 || (decide (0 < k) && decide (c ∈ o.take j))))), (8, .d (.int .i64 j))] ∧ σ = ⟨0, []⟩)
        ⟨0, rfl, Nat.zero_le _, rfl, rfl⟩ (Mv.of [] rfl rfl rfl trivial ⟨rfl, rfl, rfl, rfl, congrArg D.bool (show (b0 || (decide (0 < k) && decide (c ∈ o.take 0))) = b0 by simp), rfl, trivial⟩) ?_)
      rintro _ _ _ ⟨j, rfl, hj, rfl, rfl⟩
      refine E.seq (E.of Try.wf Try.tab_ok ?_)
      have out : ∀ b : Bool, (b0 || (decide (0 < k) && decide (c ∈ o))) = b → vrelS (phi 0 []) [(0, .d (.str s)), (1, .d (.str o)), (5, .d (.int .i64 k)), (7, .d (.bool b))] [(0, .d (.str s)), (1, .d (.str o)), (5, .d (.int .i64 k)), (7, .d (.bool (b0 || (decide (0 < k) && decide (c ∈ o)))))] := fun b h => by
        rw [h]; exact ⟨rfl, rfl, rfl, rfl, trivial⟩
      by_cases hk0 : 0 < k
      · by_cases hjl : j < o.length
        · have hst2 := others_step c o j hjl
          have hg2 := getD_at o j hjl
          have nx : ∀ b : Bool, (b0 || (decide (0 < k) && decide (c ∈ o.take (j + 1)))) = b → vrelS (phi 0 []) [(0, .d (.str s)), (1, .d (.str o)), (5, .d (.int .i64 k)), (6, .d (.int .u8 c.toNat)), (7, .d (.bool b)), (8, .d (.int .i64 (j + 1)))] [(0, .d (.str s)), (1, .d (.str o)), (5, .d (.int .i64 k)), (6, .d (.int .u8 c.toNat)), (7, .d (.bool (b0 || (decide (0 < k) && decide (c ∈ o.take (j + 1)))))), (8, .d (.int .i64 ((j + 1 : Nat) : Int)))] := fun b h => by
            rw [h]; exact ⟨rfl, rfl, rfl, rfl, rfl, rfl, trivial⟩
          have key : (b0 || (decide (0 < k) && decide (c ∈ o.take (j + 1)))) = ((b0 || (decide (0 < k) && decide (c ∈ o.take j))) || decide (c = o[j])) := by
            rw [hst2, decide_eq_true hk0, Bool.true_and, Bool.true_and, Bool.or_assoc]
          repeat (first | refine ⟨fun _ => ?_, fun h => absurd (of_decide_eq_false h) (by omega)⟩ | refine ⟨fun h => absurd (of_decide_eq_true h) (by omega), fun _ => ?_⟩ | refine ⟨fun _ => ?_, fun h => absurd (of_decide_eq_true h) (by omega)⟩ | refine ⟨fun h => absurd (of_decide_eq_false h) (by omega), fun _ => ?_⟩ | refine .inl ⟨⟨by omega, by omega⟩, ?_⟩ | refine ⟨⟨by omega, by omega⟩, ?_⟩)
          generalize (b0 || (decide (0 < k) && decide (c ∈ o.take j))) = X at *
          cases X with
          | true =>
            refine E.of Try.wf Try.tab_ok ?_
            repeat (first | refine ⟨fun _ => ?_, fun h => absurd h (by decide)⟩ | refine ⟨fun h => absurd h (by decide), fun _ => ?_⟩)
            refine .inl ⟨⟨by omega, by omega⟩, ?_⟩
            exact ⟨_, _, _, ⟨j + 1, rfl, hjl, rfl, rfl⟩, by omega, Mv.of [] rfl rfl rfl trivial (nx _ key)⟩
          | false =>
            refine E.of Try.wf Try.tab_ok ?_
            repeat (first | refine ⟨fun _ => ?_, fun h => absurd h (by decide)⟩ | refine ⟨fun h => absurd h (by decide), fun _ => ?_⟩)
            refine ⟨⟨by omega, by omega⟩, ?_⟩
            refine .inl ⟨⟨by omega, by omega⟩, ?_⟩
            have e8 : decide (((c.toNat : Nat) : Int) = (((o.getD ((j : Nat) : Int).toNat 0).toNat : Nat) : Int)) = decide (c = o[j]) := by
              rw [hg2, decide_eq_decide]
              constructor
              · intro h; exact UInt8.toNat_inj.1 (by omega)
              · intro h; rw [h]
            exact ⟨_, _, _, ⟨j + 1, rfl, hjl, rfl, rfl⟩, by omega, Mv.of [] rfl rfl rfl trivial (nx _ (key.trans ((Bool.false_or _).trans e8.symm)))⟩
        · have e : o.take j = o := List.take_of_length_le (by omega)
          repeat (first | refine ⟨fun _ => ?_, fun h => absurd (of_decide_eq_false h) (by omega)⟩ | refine ⟨fun h => absurd (of_decide_eq_true h) (by omega), fun _ => ?_⟩ | refine ⟨fun _ => ?_, fun h => absurd (of_decide_eq_true h) (by omega)⟩ | refine ⟨fun h => absurd (of_decide_eq_false h) (by omega), fun _ => ?_⟩ | refine .inl ⟨⟨by omega, by omega⟩, ?_⟩ | refine ⟨⟨by omega, by omega⟩, ?_⟩)
          exact ⟨_, _, ⟨rfl, rfl⟩, Mv.of [] rfl rfl rfl trivial (out _ (by rw [e]))⟩
      · by_cases hjl : j < o.length
        · repeat (first | refine ⟨fun _ => ?_, fun h => absurd (of_decide_eq_false h) (by omega)⟩ | refine ⟨fun h => absurd (of_decide_eq_true h) (by omega), fun _ => ?_⟩ | refine ⟨fun _ => ?_, fun h => absurd (of_decide_eq_true h) (by omega)⟩ | refine ⟨fun h => absurd (of_decide_eq_false h) (by omega), fun _ => ?_⟩ | refine .inl ⟨⟨by omega, by omega⟩, ?_⟩ | refine ⟨⟨by omega, by omega⟩, ?_⟩)
          exact ⟨_, _, ⟨rfl, rfl⟩, Mv.of [] rfl rfl rfl trivial (out _ (by rw [decide_eq_false hk0]; rfl))⟩
        · repeat (first | refine ⟨fun _ => ?_, fun h => absurd (of_decide_eq_false h) (by omega)⟩ | refine ⟨fun h => absurd (of_decide_eq_true h) (by omega), fun _ => ?_⟩ | refine ⟨fun _ => ?_, fun h => absurd (of_decide_eq_true h) (by omega)⟩ | refine ⟨fun h => absurd (of_decide_eq_false h) (by omega), fun _ => ?_⟩ | refine .inl ⟨⟨by omega, by omega⟩, ?_⟩ | refine ⟨⟨by omega, by omega⟩, ?_⟩)
          exact ⟨_, _, ⟨rfl, rfl⟩, Mv.of [] rfl rfl rfl trivial (out _ (by rw [decide_eq_false hk0]; rfl))⟩
    rintro _ _ ⟨rfl, rfl⟩
    have e1 : upto s o (k + 1) = (b0 || (decide (0 < k) && decide (c ∈ o))) := by
      rw [hst, ← hb0]; cases letB c <;> cases digB c <;> cases decide (0 < k) <;> simp
    generalize (b0 || (decide (0 < k) && decide (c ∈ o))) = b1 at *
    refine E.of Try.wf Try.tab_ok ?_
    cases b1 with
    | false =>
      repeat (first | refine ⟨fun _ => ?_, fun h => absurd h (by decide)⟩ | refine ⟨fun h => absurd h (by decide), fun _ => ?_⟩)
      exact ⟨_, _, fin_out rfl, (congrArg (fun b => AV.d (.bool b)) (upto_bad s o (k + 1) hlt e1)).symm, rfl⟩
    | true =>
      repeat (first | refine ⟨fun _ => ?_, fun h => absurd h (by decide)⟩ | refine ⟨fun h => absurd h (by decide), fun _ => ?_⟩)
      refine E.of Try.wf Try.tab_ok ?_
      repeat (first | refine ⟨fun _ => ?_, fun h => absurd (of_decide_eq_false h) (by omega)⟩ | refine ⟨fun h => absurd (of_decide_eq_true h) (by omega), fun _ => ?_⟩ | refine ⟨fun _ => ?_, fun h => absurd (of_decide_eq_true h) (by omega)⟩ | refine ⟨fun h => absurd (of_decide_eq_false h) (by omega), fun _ => ?_⟩ | refine .inl ⟨⟨by omega, by omega⟩, ?_⟩ | refine ⟨⟨by omega, by omega⟩, ?_⟩)
      exact ⟨_, _, _, ⟨k + 1, rfl, hlt, e1, rfl, rfl⟩, by omega, Mv.of [] rfl rfl rfl trivial ⟨rfl, rfl, rfl, trivial⟩⟩
  · have hk' : k = s.length := by have := of_decide_eq_false h; omega
    subst hk'
    refine E.of Try.wf Try.tab_ok ?_
    refine ⟨_, _, fin_out rfl, congrArg (fun b => AV.d (.bool b)) ?_, rfl⟩
    rw [← upto_end, hI, Bool.true_and]
    cases s <;> simp


set_option maxRecDepth 100000 in
theorem Element_ok (s : List UInt8) (hs : s.length ≤ 4611686018427387904) : PureC Try.prog 19 [.d (.str s)] (.d (.bool (small s [45] && !rawB s))) := by
  refine pure_okT Try.wf Try.tab_ok Try.func19 (by decide +kernel) rfl rfl rfl rfl ?_
  have c1 := rRaw_ok s
  rw [rawV_fst] at c1
  refine PureC.use c1 (PureC.use (rname_ok s [45] hs (by decide)) ?_)
  generalize small s [45] = a
  generalize rawB s = b
  cases a
  all_goals
    repeat (first | refine ⟨fun _ => ?_, fun h => absurd h (by decide)⟩ | refine ⟨fun h => absurd h (by decide), fun _ => ?_⟩)
    exact ⟨_, _, fin_out rfl, rfl⟩
set_option maxRecDepth 100000 in
theorem Attribute_ok (s : List UInt8) (hs : s.length ≤ 4611686018427387904) : PureC Try.prog 24 [.d (.str s)] (.d (.bool (small s [45, 95, 58]))) := by
  refine pure_okT Try.wf Try.tab_ok Try.func24 (by decide +kernel) rfl rfl rfl rfl ?_
  exact PureC.use (rname_ok s [45, 95, 58] hs (by decide)) ⟨_, _, fin_out rfl, rfl⟩

def Short (l : List (List UInt8 × List UInt8)) : Prop := l.length ≤ 1000000000 ∧ ∀ a ∈ l, a.1.length ≤ 1000000000 ∧ a.2.length ≤ 1000000000

set_option maxRecDepth 100000 in
theorem rattrs_ok (l : List (List UInt8 × List UInt8)) (hl : Short l) : PureC Try.prog 46 [.d (.sl (attrsD l))] (.d (.bool (attrsFrom [] l))) := by
  refine pure_okT Try.wf Try.tab_ok Try.func46 (by decide +kernel) rfl rfl rfl rfl ?_
  have hn := attrsD_len l
  refine loopT Try.wf Try.tab_ok (fun n s' σ => ∃ k : Nat, n = l.length - k ∧ k ≤ l.length ∧ attrsFrom ((l.take k).map Prod.fst) (l.drop k) = attrsFrom [] l ∧ s' = [(0, .d (.sl (attrsD l))), (3, .d (.int .i64 k))] ∧ σ = ⟨0, []⟩)
    ⟨0, rfl, Nat.zero_le _, rfl, rfl, rfl⟩ (Mv.of [] rfl rfl rfl trivial ⟨rfl, rfl, trivial⟩) ?_
  rintro _ _ _ ⟨k, rfl, hk, hI, rfl, rfl⟩
  have hl1 := hl.1
  refine ⟨fun h => ?_, fun h => ?_⟩
  · have hlt : k < l.length := by have := of_decide_eq_true h; rw [hn] at this; omega
    clear h
    rw [List.drop_eq_getElem_cons hlt, attrsFrom] at hI
    refine ⟨⟨by omega, by rw [hn]; omega⟩, _, attrsD_get l k hlt, rfl, _, rfl, ?_⟩
    refine PureC.use (Attribute_ok l[k].1 (by have := (hl.2 _ (List.getElem_mem hlt)).1; omega)) ?_
    have hsm : attrsFrom ((l.take (k + 1)).map Prod.fst) (l.drop (k + 1)) = attrsFrom ((l.take k).map Prod.fst ++ [l[k].1]) (l.drop (k + 1)) := by rw [List.take_succ_eq_append_getElem hlt, List.map_append]; rfl
    generalize small l[k].1 [45, 95, 58] = b1 at *
    cases b1 with
    | false =>
      repeat (first | refine ⟨fun _ => ?_, fun h => absurd h (by decide)⟩ | refine ⟨fun h => absurd h (by decide), fun _ => ?_⟩)
      exact ⟨_, _, fin_out rfl, congrArg (fun b => AV.d (.bool b)) (show false = attrsFrom [] l from hI)⟩
    | true =>
      repeat (first | refine ⟨fun _ => ?_, fun h => absurd h (by decide)⟩ | refine ⟨fun h => absurd h (by decide), fun _ => ?_⟩)
      refine loopT Try.wf Try.tab_ok (fun n s' σ => ∃ j : Nat, n = k - j ∧ j ≤ k ∧ l[k].1 ∉ (l.take j).map Prod.fst ∧ s' = [(0, .d (.sl (attrsD l))), (3, .d (.int .i64 k)), (4, .d (.int .i64 j))] ∧ σ = ⟨0, []⟩)
        ⟨0, rfl, Nat.zero_le _, by simp, rfl, rfl⟩ (Mv.of [] rfl rfl rfl trivial ⟨rfl, rfl, rfl, trivial⟩) ?_
      rintro _ _ _ ⟨j, rfl, hj, hJ, rfl, rfl⟩
      refine ⟨fun h => ?_, fun h => ?_⟩
      · have hlt2 : j < k := by have := of_decide_eq_true h; omega
        have hlt3 : j < l.length := by omega
        clear h
        refine drawnT Try.wf Try.tab_ok Try.mixed (by decide +kernel) ?_
        repeat (first | refine qstep rfl rfl (FinMove.refl _ _ _) ?_ | refine qstep rfl rfl ⟨_, rfl, FinMove.refl _ _ _⟩ ?_)
        refine qstep rfl rfl ⟨⟨by omega, by rw [hn]; omega⟩, _, attrsD_get l k hlt, rfl, FinMove.refl _ _ _⟩ ?_
        repeat (first | refine qstep rfl rfl (FinMove.refl _ _ _) ?_ | refine qstep rfl rfl ⟨_, rfl, FinMove.refl _ _ _⟩ ?_)
        refine qstep rfl rfl ⟨⟨by omega, by rw [hn]; omega⟩, _, attrsD_get l j hlt3, rfl, FinMove.refl _ _ _⟩ ?_
        repeat (first | refine qstep rfl rfl (FinMove.refl _ _ _) ?_ | refine qstep rfl rfl ⟨_, rfl, FinMove.refl _ _ _⟩ ?_)
        refine ⟨fun h => ?_, fun h => ?_⟩
        · have h' := of_decide_eq_true h
          have hm : l[k].1 ∈ (l.take k).map Prod.fst := by
            refine List.mem_map.2 ⟨l[j], ?_, h'.symm⟩
            rw [List.mem_iff_getElem]
            exact ⟨j, by simp; omega, by simp⟩
          rw [decide_eq_true hm] at hI
          exact ⟨_, _, fin_out rfl, congrArg (fun b => AV.d (.bool b)) (show false = attrsFrom [] l from hI)⟩
        · have h' := of_decide_eq_false h
          repeat (first | refine ⟨fun _ => ?_, fun h => absurd (of_decide_eq_false h) (by omega)⟩ | refine ⟨fun h => absurd (of_decide_eq_true h) (by omega), fun _ => ?_⟩ | refine ⟨fun _ => ?_, fun h => absurd (of_decide_eq_true h) (by omega)⟩ | refine ⟨fun h => absurd (of_decide_eq_false h) (by omega), fun _ => ?_⟩ | refine .inl ⟨⟨by omega, by omega⟩, ?_⟩ | refine ⟨⟨by omega, by omega⟩, ?_⟩)
          refine ⟨_, _, _, ⟨j + 1, rfl, hlt2, ?_, rfl, rfl⟩, by omega, Mv.of [] rfl rfl rfl trivial ⟨rfl, rfl, rfl, trivial⟩⟩
          rw [List.take_succ_eq_append_getElem hlt3, List.map_append, List.mem_append, not_or]
          exact ⟨hJ, fun e => h' (List.mem_singleton.1 e)⟩
      · have hj' : j = k := by have := of_decide_eq_false h; omega
        subst hj'
        repeat (first | refine ⟨fun _ => ?_, fun h => absurd (of_decide_eq_false h) (by omega)⟩ | refine ⟨fun h => absurd (of_decide_eq_true h) (by omega), fun _ => ?_⟩ | refine ⟨fun _ => ?_, fun h => absurd (of_decide_eq_true h) (by omega)⟩ | refine ⟨fun h => absurd (of_decide_eq_false h) (by omega), fun _ => ?_⟩ | refine .inl ⟨⟨by omega, by omega⟩, ?_⟩ | refine ⟨⟨by omega, by omega⟩, ?_⟩)
        refine ⟨_, _, _, ⟨j + 1, rfl, hlt, ?_, rfl, rfl⟩, by omega, Mv.of [] rfl rfl rfl trivial ⟨rfl, rfl, trivial⟩⟩
        rw [hsm, ← hI, decide_eq_false hJ]; rfl
  · have hk' : k = l.length := by have := of_decide_eq_false h; rw [hn] at this; omega
    subst hk'
    refine ⟨_, _, fin_out rfl, congrArg (fun b => AV.d (.bool b)) ?_⟩
    rw [← hI, List.drop_length]; rfl

end Go.Proofs.Ytcmkiancbgmmhaa
