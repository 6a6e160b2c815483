import Derived.Test.YtcmkiancbgmmhaaRefsP
namespace Go.Proofs.Ytcmkiancbgmmhaa
open Go.Aw
set_option maxHeartbeats 1600000
set_option linter.unusedSimpArgs false
set_option linter.unusedVariables false

theorem u8_is' {c d : UInt8} {n : Int} (h : (c.toNat : Int) = n) (hd : (d.toNat : Int) = n) : c = d := UInt8.toNat_inj.1 (by omega)
def nmL : List (List UInt8) := nameTab.map (·.1)
def intsD (l : List Int) : List (List D) := l.map fun n => [.int .i64 n]
theorem u8n (m : Nat) (h : m ≤ 255) : (((UInt8.ofNat m).toNat : Nat) : Int) = m := by simp; omega
theorem row1 (m : Nat) (h : m ≤ 255) : ([[.d (.int .u8 (m : Int))]] : List (List AV)) = bytesA [UInt8.ofNat m] := by
  unfold bytesA; simp only [List.map_cons, List.map_nil, u8n m h]
theorem rows_u8 (l : List Nat) (h : ∀ m ∈ l, m ≤ 255) : l.map (fun m => [AV.d (.int .u8 ((m : Nat) : Int))]) = bytesA (l.map UInt8.ofNat) := by
  unfold bytesA
  rw [List.map_map]
  refine List.map_congr_left fun m hm => ?_
  simp only [Function.comp, u8n m (h m hm)]

set_option maxRecDepth 100000 in
theorem Char_ok (n : Int) (h0 : 0 ≤ n) (hn : n ≤ 4611686018427387904) : PureC Try.prog 43 [.d (.int .i64 n)] (.d (.str (enc (fixN n)))) := by
  refine PureC.of rfl rfl (fn_okTE Try.wf Try.tab_ok Try.func43 (by decide +kernel) rfl rfl ?_)
  refine E.seq (E.of Try.wf Try.tab_ok ?_)
  refine midT Try.wf Try.tab_ok (fun s' σ => s' = [(0, .d (.int .i64 (fixN n)))] ∧ σ = ⟨0, []⟩) ?_ ?_
  · by_cases hf : n = 0 ∨ n = 13 ∨ (55296 ≤ n ∧ n ≤ 57343) ∨ 1114111 < n
    · have hx : fixN n = 65533 := if_pos hf
      (repeat' first | refine ⟨fun _ => ?_, fun _ => ?_⟩ | fail)
      all_goals first
        | exact ⟨_, _, ⟨rfl, rfl⟩, Mv.of [] rfl rfl rfl trivial ⟨congrArg (D.int .i64) hx, trivial⟩⟩
        | (exfalso; simp only [decide_eq_true_eq, decide_eq_false_iff_not] at *; omega)
    · have hx : fixN n = n := if_neg hf
      (repeat' first | refine ⟨fun _ => ?_, fun _ => ?_⟩ | fail)
      all_goals first
        | exact ⟨_, _, ⟨rfl, rfl⟩, Mv.of [] rfl rfl rfl trivial ⟨congrArg (D.int .i64) hx, trivial⟩⟩
        | (exfalso; simp only [decide_eq_true_eq, decide_eq_false_iff_not] at *; omega)
  rintro _ _ ⟨rfl, rfl⟩
  obtain ⟨m0, m1, mv⟩ := fixN_ok n h0
  generalize fixN n = m at *
  obtain ⟨k, rfl⟩ := Int.eq_ofNat_of_zero_le m0
  have he := enc_of (k : Int) mv
  rw [Int.toNat_natCast] at he
  refine E.of Try.wf Try.tab_ok ?_
  have fin : ∀ (l : List Nat) (σ : Store), enc (k : Int) = l.map UInt8.ofNat → ∃ r' σ', FinMove ⟨0, []⟩ (AV.d (.str (l.map UInt8.ofNat))) σ r' σ' ∧ r' = AV.d (.str (enc (k : Int))) ∧ σ'.n = 0 := fun l σ h => ⟨_, _, fin_out rfl, by rw [h], rfl⟩
  have q3 : (k : Int).tdiv 64 = ((k / 64 : Nat) : Int) := rfl
  have q4 : (k : Int).tdiv 4096 = ((k / 4096 : Nat) : Int) := rfl
  have q5 : (k : Int).tdiv 262144 = ((k / 262144 : Nat) : Int) := rfl
  have q6 : ∀ a : Nat, (a : Int).tmod 64 = ((a % 64 : Nat) : Int) := fun a => rfl
  by_cases k1 : k < 128
  · rw [if_pos k1] at he
    repeat (first | refine ⟨fun _ => ?_, fun h => absurd (of_decide_eq_false h) (by omega)⟩ | refine ⟨fun h => absurd (of_decide_eq_true h) (by omega), fun _ => ?_⟩ | refine ⟨fun _ => ?_, fun h => absurd (of_decide_eq_true h) (by omega)⟩ | refine ⟨fun h => absurd (of_decide_eq_false h) (by omega), fun _ => ?_⟩ | refine .inl ⟨⟨by omega, by omega⟩, ?_⟩ | refine ⟨⟨by omega, by omega⟩, ?_⟩)
    exact ⟨[k].map UInt8.ofNat, rows_u8 [k] (by simp; omega), rfl, fin [k] _ (by rw [he]; rfl)⟩
  · rw [if_neg k1] at he
    by_cases k2 : k < 2048
    · rw [if_pos k2] at he
      repeat (first | refine ⟨fun _ => ?_, fun h => absurd (of_decide_eq_false h) (by omega)⟩ | refine ⟨fun h => absurd (of_decide_eq_true h) (by omega), fun _ => ?_⟩ | refine ⟨fun _ => ?_, fun h => absurd (of_decide_eq_true h) (by omega)⟩ | refine ⟨fun h => absurd (of_decide_eq_false h) (by omega), fun _ => ?_⟩ | refine .inl ⟨⟨by omega, by omega⟩, ?_⟩ | refine ⟨⟨by omega, by omega⟩, ?_⟩)
      refine ⟨by decide, ?_⟩
      rw [q3]
      repeat (first | refine ⟨fun _ => ?_, fun h => absurd (of_decide_eq_false h) (by omega)⟩ | refine ⟨fun h => absurd (of_decide_eq_true h) (by omega), fun _ => ?_⟩ | refine ⟨fun _ => ?_, fun h => absurd (of_decide_eq_true h) (by omega)⟩ | refine ⟨fun h => absurd (of_decide_eq_false h) (by omega), fun _ => ?_⟩ | refine .inl ⟨⟨by omega, by omega⟩, ?_⟩ | refine ⟨⟨by omega, by omega⟩, ?_⟩)
      refine ⟨by decide, ?_⟩
      rw [q6]
      repeat (first | refine ⟨fun _ => ?_, fun h => absurd (of_decide_eq_false h) (by omega)⟩ | refine ⟨fun h => absurd (of_decide_eq_true h) (by omega), fun _ => ?_⟩ | refine ⟨fun _ => ?_, fun h => absurd (of_decide_eq_true h) (by omega)⟩ | refine ⟨fun h => absurd (of_decide_eq_false h) (by omega), fun _ => ?_⟩ | refine .inl ⟨⟨by omega, by omega⟩, ?_⟩ | refine ⟨⟨by omega, by omega⟩, ?_⟩)
      exact ⟨[192 + k / 64, 128 + k % 64].map UInt8.ofNat, rows_u8 [192 + k / 64, 128 + k % 64] (by simp; omega), rfl, fin [192 + k / 64, 128 + k % 64] _ (by rw [he]; rfl)⟩
    · rw [if_neg k2] at he
      by_cases k3 : k < 65536
      · rw [if_pos k3] at he
        repeat (first | refine ⟨fun _ => ?_, fun h => absurd (of_decide_eq_false h) (by omega)⟩ | refine ⟨fun h => absurd (of_decide_eq_true h) (by omega), fun _ => ?_⟩ | refine ⟨fun _ => ?_, fun h => absurd (of_decide_eq_true h) (by omega)⟩ | refine ⟨fun h => absurd (of_decide_eq_false h) (by omega), fun _ => ?_⟩ | refine .inl ⟨⟨by omega, by omega⟩, ?_⟩ | refine ⟨⟨by omega, by omega⟩, ?_⟩)
        refine ⟨by decide, ?_⟩
        rw [q4]
        repeat (first | refine ⟨fun _ => ?_, fun h => absurd (of_decide_eq_false h) (by omega)⟩ | refine ⟨fun h => absurd (of_decide_eq_true h) (by omega), fun _ => ?_⟩ | refine ⟨fun _ => ?_, fun h => absurd (of_decide_eq_true h) (by omega)⟩ | refine ⟨fun h => absurd (of_decide_eq_false h) (by omega), fun _ => ?_⟩ | refine .inl ⟨⟨by omega, by omega⟩, ?_⟩ | refine ⟨⟨by omega, by omega⟩, ?_⟩)
        refine ⟨by decide, ?_⟩
        rw [q3]
        repeat (first | refine ⟨fun _ => ?_, fun h => absurd (of_decide_eq_false h) (by omega)⟩ | refine ⟨fun h => absurd (of_decide_eq_true h) (by omega), fun _ => ?_⟩ | refine ⟨fun _ => ?_, fun h => absurd (of_decide_eq_true h) (by omega)⟩ | refine ⟨fun h => absurd (of_decide_eq_false h) (by omega), fun _ => ?_⟩ | refine .inl ⟨⟨by omega, by omega⟩, ?_⟩ | refine ⟨⟨by omega, by omega⟩, ?_⟩)
        refine ⟨by decide, ?_⟩
        rw [q6]
        repeat (first | refine ⟨fun _ => ?_, fun h => absurd (of_decide_eq_false h) (by omega)⟩ | refine ⟨fun h => absurd (of_decide_eq_true h) (by omega), fun _ => ?_⟩ | refine ⟨fun _ => ?_, fun h => absurd (of_decide_eq_true h) (by omega)⟩ | refine ⟨fun h => absurd (of_decide_eq_false h) (by omega), fun _ => ?_⟩ | refine .inl ⟨⟨by omega, by omega⟩, ?_⟩ | refine ⟨⟨by omega, by omega⟩, ?_⟩)
        refine ⟨by decide, ?_⟩
        rw [q6]
        repeat (first | refine ⟨fun _ => ?_, fun h => absurd (of_decide_eq_false h) (by omega)⟩ | refine ⟨fun h => absurd (of_decide_eq_true h) (by omega), fun _ => ?_⟩ | refine ⟨fun _ => ?_, fun h => absurd (of_decide_eq_true h) (by omega)⟩ | refine ⟨fun h => absurd (of_decide_eq_false h) (by omega), fun _ => ?_⟩ | refine .inl ⟨⟨by omega, by omega⟩, ?_⟩ | refine ⟨⟨by omega, by omega⟩, ?_⟩)
        exact ⟨[224 + k / 4096, 128 + k / 64 % 64, 128 + k % 64].map UInt8.ofNat, rows_u8 [224 + k / 4096, 128 + k / 64 % 64, 128 + k % 64] (by simp; omega), rfl, fin [224 + k / 4096, 128 + k / 64 % 64, 128 + k % 64] _ (by rw [he]; rfl)⟩
      · rw [if_neg k3] at he
        repeat (first | refine ⟨fun _ => ?_, fun h => absurd (of_decide_eq_false h) (by omega)⟩ | refine ⟨fun h => absurd (of_decide_eq_true h) (by omega), fun _ => ?_⟩ | refine ⟨fun _ => ?_, fun h => absurd (of_decide_eq_true h) (by omega)⟩ | refine ⟨fun h => absurd (of_decide_eq_false h) (by omega), fun _ => ?_⟩ | refine .inl ⟨⟨by omega, by omega⟩, ?_⟩ | refine ⟨⟨by omega, by omega⟩, ?_⟩)
        refine ⟨by decide, ?_⟩
        rw [q5]
        repeat (first | refine ⟨fun _ => ?_, fun h => absurd (of_decide_eq_false h) (by omega)⟩ | refine ⟨fun h => absurd (of_decide_eq_true h) (by omega), fun _ => ?_⟩ | refine ⟨fun _ => ?_, fun h => absurd (of_decide_eq_true h) (by omega)⟩ | refine ⟨fun h => absurd (of_decide_eq_false h) (by omega), fun _ => ?_⟩ | refine .inl ⟨⟨by omega, by omega⟩, ?_⟩ | refine ⟨⟨by omega, by omega⟩, ?_⟩)
        refine ⟨by decide, ?_⟩
        rw [q4]
        repeat (first | refine ⟨fun _ => ?_, fun h => absurd (of_decide_eq_false h) (by omega)⟩ | refine ⟨fun h => absurd (of_decide_eq_true h) (by omega), fun _ => ?_⟩ | refine ⟨fun _ => ?_, fun h => absurd (of_decide_eq_true h) (by omega)⟩ | refine ⟨fun h => absurd (of_decide_eq_false h) (by omega), fun _ => ?_⟩ | refine .inl ⟨⟨by omega, by omega⟩, ?_⟩ | refine ⟨⟨by omega, by omega⟩, ?_⟩)
        refine ⟨by decide, ?_⟩
        rw [q6]
        repeat (first | refine ⟨fun _ => ?_, fun h => absurd (of_decide_eq_false h) (by omega)⟩ | refine ⟨fun h => absurd (of_decide_eq_true h) (by omega), fun _ => ?_⟩ | refine ⟨fun _ => ?_, fun h => absurd (of_decide_eq_true h) (by omega)⟩ | refine ⟨fun h => absurd (of_decide_eq_false h) (by omega), fun _ => ?_⟩ | refine .inl ⟨⟨by omega, by omega⟩, ?_⟩ | refine ⟨⟨by omega, by omega⟩, ?_⟩)
        refine ⟨by decide, ?_⟩
        rw [q3]
        repeat (first | refine ⟨fun _ => ?_, fun h => absurd (of_decide_eq_false h) (by omega)⟩ | refine ⟨fun h => absurd (of_decide_eq_true h) (by omega), fun _ => ?_⟩ | refine ⟨fun _ => ?_, fun h => absurd (of_decide_eq_true h) (by omega)⟩ | refine ⟨fun h => absurd (of_decide_eq_false h) (by omega), fun _ => ?_⟩ | refine .inl ⟨⟨by omega, by omega⟩, ?_⟩ | refine ⟨⟨by omega, by omega⟩, ?_⟩)
        refine ⟨by decide, ?_⟩
        rw [q6]
        repeat (first | refine ⟨fun _ => ?_, fun h => absurd (of_decide_eq_false h) (by omega)⟩ | refine ⟨fun h => absurd (of_decide_eq_true h) (by omega), fun _ => ?_⟩ | refine ⟨fun _ => ?_, fun h => absurd (of_decide_eq_true h) (by omega)⟩ | refine ⟨fun h => absurd (of_decide_eq_false h) (by omega), fun _ => ?_⟩ | refine .inl ⟨⟨by omega, by omega⟩, ?_⟩ | refine ⟨⟨by omega, by omega⟩, ?_⟩)
        refine ⟨by decide, ?_⟩
        rw [q6]
        repeat (first | refine ⟨fun _ => ?_, fun h => absurd (of_decide_eq_false h) (by omega)⟩ | refine ⟨fun h => absurd (of_decide_eq_true h) (by omega), fun _ => ?_⟩ | refine ⟨fun _ => ?_, fun h => absurd (of_decide_eq_true h) (by omega)⟩ | refine ⟨fun h => absurd (of_decide_eq_false h) (by omega), fun _ => ?_⟩ | refine .inl ⟨⟨by omega, by omega⟩, ?_⟩ | refine ⟨⟨by omega, by omega⟩, ?_⟩)
        exact ⟨[240 + k / 262144, 128 + k / 4096 % 64, 128 + k / 64 % 64, 128 + k % 64].map UInt8.ofNat, rows_u8 [240 + k / 262144, 128 + k / 4096 % 64, 128 + k / 64 % 64, 128 + k % 64] (by simp; omega), rfl, fin [240 + k / 262144, 128 + k / 4096 % 64, 128 + k / 64 % 64, 128 + k % 64] _ (by rw [he]; rfl)⟩

theorem ints_get (l : List Int) (k : Nat) (h : k < l.length) : (intsD l)[((k : Nat) : Int).toNat]? = some [.int .i64 l[k]] := by simp [intsD, h]
theorem tab_pos : ∀ e ∈ nameTab, 0 ≤ e.2 ∧ e.2 ≤ 65535 ∧ fixN e.2 = e.2 := by decide

def digV (c : UInt8) (b : Nat) : Int := match hexv c with
  | some d => if d < b then d else 99
  | none => 99
theorem digs_next {b : Nat} {e : List UInt8} {k n : Nat} (h : k < e.length) : digs b (e.drop k) n = match hexv e[k] with
    | some d => if d < b then digs b (e.drop (k + 1)) (n * b + d) else none
    | none => none := by
  rw [List.drop_eq_getElem_cons h]; rfl
theorem p16 {k : Nat} (h : k ≤ 7) : 16 ^ k ≤ 268435456 := Nat.pow_le_pow_right (by decide) h

def oneV (r : List UInt8) : AV := match oneR r with
  | some (t, r') => .tup [.d (.str t), .d (.int .i64 ((r.length - r'.length + 1 : Nat)))]
  | none => .tup [.d (.str []), .d (.int .i64 0)]
theorem oneV_pure (r : List UInt8) : (oneV r).pure = true := by unfold oneV; split <;> rfl
theorem oneV_none {r : List UInt8} (h : oneR r = none) : oneV r = .tup [.d (.str []), .d (.int .i64 0)] := by unfold oneV; rw [h]
theorem oneV_some {r t r' : List UInt8} (h : oneR r = some (t, r')) : oneV r = .tup [.d (.str t), .d (.int .i64 ((r.length - r'.length + 1 : Nat)))] := by unfold oneV; rw [h]

theorem mid_of (s : List UInt8) (a b : Nat) (h : b ≤ s.length) : ((s.take ((b : Nat) : Int).toNat).drop ((a : Nat) : Int).toNat) = (s.drop a).take (b - a) := by
  rw [Int.toNat_natCast, Int.toNat_natCast, List.drop_take]

end Go.Proofs.Ytcmkiancbgmmhaa
