import Derived.Test.YtdaheonodpkfgaaRefsP
namespace Go.Proofs.Ytdaheonodpkfgaa
open Go.Aw
set_option maxHeartbeats 1600000
set_option linter.unusedSimpArgs false
set_option linter.unusedVariables false

theorem u8_is' {c d : UInt8} {n : Int} (h : (c.toNat : Int) = n) (hd : (d.toNat : Int) = n) : c = d := UInt8.toNat_inj.1 (by omega)
def nmL : List (List UInt8) := nameTab.map (·.1)
def intsD (l : List Int) : List (List D) := l.map fun n => [.int .i64 n]
set_option maxRecDepth 100000 in
theorem names_ok : PureC Try.prog 75 [] (.d (.sl (strsD nmL))) := by
  refine pure_okT Try.wf Try.tab_ok Try.func75 (by decide +kernel) rfl rfl rfl rfl ?_
  exact ⟨_, _, fin_lit0 (ds := strsD nmL) rfl rfl, rfl⟩
set_option maxRecDepth 100000 in
theorem numbers_ok : PureC Try.prog 76 [] (.d (.sl (intsD (nameTab.map (·.2))))) := by
  refine pure_okT Try.wf Try.tab_ok Try.func76 (by decide +kernel) rfl rfl rfl rfl ?_
  exact ⟨_, _, fin_lit0 (ds := intsD (nameTab.map (·.2))) rfl rfl, rfl⟩

theorem u8n (m : Nat) (h : m ≤ 255) : (((UInt8.ofNat m).toNat : Nat) : Int) = m := by simp; omega
theorem row1 (m : Nat) (h : m ≤ 255) : ([[.d (.int .u8 (m : Int))]] : List (List AV)) = bytesA [UInt8.ofNat m] := by
  unfold bytesA; simp only [List.map_cons, List.map_nil, u8n m h]
theorem rows_u8 (l : List Nat) (h : ∀ m ∈ l, m ≤ 255) : l.map (fun m => [AV.d (.int .u8 ((m : Nat) : Int))]) = bytesA (l.map UInt8.ofNat) := by
  unfold bytesA
  rw [List.map_map]
  refine List.map_congr_left fun m hm => ?_
  simp only [Function.comp, u8n m (h m hm)]

set_option maxRecDepth 100000 in
theorem Char_ok (n : Int) (h0 : 0 ≤ n) (hn : n ≤ 4611686018427387904) : PureC Try.prog 71 [.d (.int .i64 n)] (.d (.str (enc (fixN n)))) := by
  refine PureC.of rfl rfl (fn_okTE Try.wf Try.tab_ok Try.func71 (by decide +kernel) rfl rfl ?_)
  refine E.seq (E.of Try.wf Try.tab_ok ?_)
  refine midT Try.wf Try.tab_ok (fun s' σ => s' = [(0, .d (.int .i64 (fixN n)))] ∧ σ = ⟨0, []⟩) ?_ ?_
  · by_cases hf : n = 0 ∨ n = 13 ∨ (55296 ≤ n ∧ n ≤ 57343) ∨ 1114111 < n
    · have hx : fixN n = 65533 := if_pos hf
      (repeat' first | refine ⟨fun _ => ?_, fun _ => ?_⟩ | fail)
      all_goals first
        | exact ⟨_, _, ⟨rfl, rfl⟩, Mv.of [] rfl rfl rfl trivial ⟨congrArg (D.int .i64) hx, trivial⟩⟩
        | (exfalso; simp only [decide_eq_true_eq, decide_eq_false_iff_not] at *; omega)
    · have hx : fixN n = n := if_neg hf
      (repeat' first | refine ⟨fun _ => ?_, fun _ => ?_⟩ | fail)
      all_goals first
        | exact ⟨_, _, ⟨rfl, rfl⟩, Mv.of [] rfl rfl rfl trivial ⟨congrArg (D.int .i64) hx, trivial⟩⟩
        | (exfalso; simp only [decide_eq_true_eq, decide_eq_false_iff_not] at *; omega)
  rintro _ _ ⟨rfl, rfl⟩
  obtain ⟨m0, m1, mv⟩ := fixN_ok n h0
  generalize fixN n = m at *
  obtain ⟨k, rfl⟩ := Int.eq_ofNat_of_zero_le m0
  have he := enc_of (k : Int) mv
  rw [Int.toNat_natCast] at he
  refine E.of Try.wf Try.tab_ok ?_
  have fin : ∀ (l : List Nat) (σ : Store), enc (k : Int) = l.map UInt8.ofNat → ∃ r' σ', FinMove ⟨0, []⟩ (AV.d (.str (l.map UInt8.ofNat))) σ r' σ' ∧ r' = AV.d (.str (enc (k : Int))) ∧ σ'.n = 0 := fun l σ h => ⟨_, _, fin_out rfl, by rw [h], rfl⟩
  have q3 : (k : Int).tdiv 64 = ((k / 64 : Nat) : Int) := rfl
  have q4 : (k : Int).tdiv 4096 = ((k / 4096 : Nat) : Int) := rfl
  have q5 : (k : Int).tdiv 262144 = ((k / 262144 : Nat) : Int) := rfl
  have q6 : ∀ a : Nat, (a : Int).tmod 64 = ((a % 64 : Nat) : Int) := fun a => rfl
  by_cases k1 : k < 128
  · rw [if_pos k1] at he
    repeat (first | refine ⟨fun _ => ?_, fun h => absurd (of_decide_eq_false h) (by omega)⟩ | refine ⟨fun h => absurd (of_decide_eq_true h) (by omega), fun _ => ?_⟩ | refine ⟨fun _ => ?_, fun h => absurd (of_decide_eq_true h) (by omega)⟩ | refine ⟨fun h => absurd (of_decide_eq_false h) (by omega), fun _ => ?_⟩ | refine .inl ⟨⟨by omega, by omega⟩, ?_⟩ | refine ⟨⟨by omega, by omega⟩, ?_⟩)
    exact ⟨[k].map UInt8.ofNat, rows_u8 [k] (by simp; omega), rfl, fin [k] _ (by rw [he]; rfl)⟩
  · rw [if_neg k1] at he
    by_cases k2 : k < 2048
    · rw [if_pos k2] at he
      repeat (first | refine ⟨fun _ => ?_, fun h => absurd (of_decide_eq_false h) (by omega)⟩ | refine ⟨fun h => absurd (of_decide_eq_true h) (by omega), fun _ => ?_⟩ | refine ⟨fun _ => ?_, fun h => absurd (of_decide_eq_true h) (by omega)⟩ | refine ⟨fun h => absurd (of_decide_eq_false h) (by omega), fun _ => ?_⟩ | refine .inl ⟨⟨by omega, by omega⟩, ?_⟩ | refine ⟨⟨by omega, by omega⟩, ?_⟩)
      refine ⟨by decide, ?_⟩
      rw [q3]
      repeat (first | refine ⟨fun _ => ?_, fun h => absurd (of_decide_eq_false h) (by omega)⟩ | refine ⟨fun h => absurd (of_decide_eq_true h) (by omega), fun _ => ?_⟩ | refine ⟨fun _ => ?_, fun h => absurd (of_decide_eq_true h) (by omega)⟩ | refine ⟨fun h => absurd (of_decide_eq_false h) (by omega), fun _ => ?_⟩ | refine .inl ⟨⟨by omega, by omega⟩, ?_⟩ | refine ⟨⟨by omega, by omega⟩, ?_⟩)
      refine ⟨by decide, ?_⟩
      rw [q6]
      repeat (first | refine ⟨fun _ => ?_, fun h => absurd (of_decide_eq_false h) (by omega)⟩ | refine ⟨fun h => absurd (of_decide_eq_true h) (by omega), fun _ => ?_⟩ | refine ⟨fun _ => ?_, fun h => absurd (of_decide_eq_true h) (by omega)⟩ | refine ⟨fun h => absurd (of_decide_eq_false h) (by omega), fun _ => ?_⟩ | refine .inl ⟨⟨by omega, by omega⟩, ?_⟩ | refine ⟨⟨by omega, by omega⟩, ?_⟩)
      exact ⟨[192 + k / 64, 128 + k % 64].map UInt8.ofNat, rows_u8 [192 + k / 64, 128 + k % 64] (by simp; omega), rfl, fin [192 + k / 64, 128 + k % 64] _ (by rw [he]; rfl)⟩
    · rw [if_neg k2] at he
      by_cases k3 : k < 65536
      · rw [if_pos k3] at he
        repeat (first | refine ⟨fun _ => ?_, fun h => absurd (of_decide_eq_false h) (by omega)⟩ | refine ⟨fun h => absurd (of_decide_eq_true h) (by omega), fun _ => ?_⟩ | refine ⟨fun _ => ?_, fun h => absurd (of_decide_eq_true h) (by omega)⟩ | refine ⟨fun h => absurd (of_decide_eq_false h) (by omega), fun _ => ?_⟩ | refine .inl ⟨⟨by omega, by omega⟩, ?_⟩ | refine ⟨⟨by omega, by omega⟩, ?_⟩)
        refine ⟨by decide, ?_⟩
        rw [q4]
        repeat (first | refine ⟨fun _ => ?_, fun h => absurd (of_decide_eq_false h) (by omega)⟩ | refine ⟨fun h => absurd (of_decide_eq_true h) (by omega), fun _ => ?_⟩ | refine ⟨fun _ => ?_, fun h => absurd (of_decide_eq_true h) (by omega)⟩ | refine ⟨fun h => absurd (of_decide_eq_false h) (by omega), fun _ => ?_⟩ | refine .inl ⟨⟨by omega, by omega⟩, ?_⟩ | refine ⟨⟨by omega, by omega⟩, ?_⟩)
        refine ⟨by decide, ?_⟩
        rw [q3]
        repeat (first | refine ⟨fun _ => ?_, fun h => absurd (of_decide_eq_false h) (by omega)⟩ | refine ⟨fun h => absurd (of_decide_eq_true h) (by omega), fun _ => ?_⟩ | refine ⟨fun _ => ?_, fun h => absurd (of_decide_eq_true h) (by omega)⟩ | refine ⟨fun h => absurd (of_decide_eq_false h) (by omega), fun _ => ?_⟩ | refine .inl ⟨⟨by omega, by omega⟩, ?_⟩ | refine ⟨⟨by omega, by omega⟩, ?_⟩)
        refine ⟨by decide, ?_⟩
        rw [q6]
        repeat (first | refine ⟨fun _ => ?_, fun h => absurd (of_decide_eq_false h) (by omega)⟩ | refine ⟨fun h => absurd (of_decide_eq_true h) (by omega), fun _ => ?_⟩ | refine ⟨fun _ => ?_, fun h => absurd (of_decide_eq_true h) (by omega)⟩ | refine ⟨fun h => absurd (of_decide_eq_false h) (by omega), fun _ => ?_⟩ | refine .inl ⟨⟨by omega, by omega⟩, ?_⟩ | refine ⟨⟨by omega, by omega⟩, ?_⟩)
        refine ⟨by decide, ?_⟩
        rw [q6]
        repeat (first | refine ⟨fun _ => ?_, fun h => absurd (of_decide_eq_false h) (by omega)⟩ | refine ⟨fun h => absurd (of_decide_eq_true h) (by omega), fun _ => ?_⟩ | refine ⟨fun _ => ?_, fun h => absurd (of_decide_eq_true h) (by omega)⟩ | refine ⟨fun h => absurd (of_decide_eq_false h) (by omega), fun _ => ?_⟩ | refine .inl ⟨⟨by omega, by omega⟩, ?_⟩ | refine ⟨⟨by omega, by omega⟩, ?_⟩)
        exact ⟨[224 + k / 4096, 128 + k / 64 % 64, 128 + k % 64].map UInt8.ofNat, rows_u8 [224 + k / 4096, 128 + k / 64 % 64, 128 + k % 64] (by simp; omega), rfl, fin [224 + k / 4096, 128 + k / 64 % 64, 128 + k % 64] _ (by rw [he]; rfl)⟩
      · rw [if_neg k3] at he
        repeat (first | refine ⟨fun _ => ?_, fun h => absurd (of_decide_eq_false h) (by omega)⟩ | refine ⟨fun h => absurd (of_decide_eq_true h) (by omega), fun _ => ?_⟩ | refine ⟨fun _ => ?_, fun h => absurd (of_decide_eq_true h) (by omega)⟩ | refine ⟨fun h => absurd (of_decide_eq_false h) (by omega), fun _ => ?_⟩ | refine .inl ⟨⟨by omega, by omega⟩, ?_⟩ | refine ⟨⟨by omega, by omega⟩, ?_⟩)
        refine ⟨by decide, ?_⟩
        rw [q5]
        repeat (first | refine ⟨fun _ => ?_, fun h => absurd (of_decide_eq_false h) (by omega)⟩ | refine ⟨fun h => absurd (of_decide_eq_true h) (by omega), fun _ => ?_⟩ | refine ⟨fun _ => ?_, fun h => absurd (of_decide_eq_true h) (by omega)⟩ | refine ⟨fun h => absurd (of_decide_eq_false h) (by omega), fun _ => ?_⟩ | refine .inl ⟨⟨by omega, by omega⟩, ?_⟩ | refine ⟨⟨by omega, by omega⟩, ?_⟩)
        refine ⟨by decide, ?_⟩
        rw [q4]
        repeat (first | refine ⟨fun _ => ?_, fun h => absurd (of_decide_eq_false h) (by omega)⟩ | refine ⟨fun h => absurd (of_decide_eq_true h) (by omega), fun _ => ?_⟩ | refine ⟨fun _ => ?_, fun h => absurd (of_decide_eq_true h) (by omega)⟩ | refine ⟨fun h => absurd (of_decide_eq_false h) (by omega), fun _ => ?_⟩ | refine .inl ⟨⟨by omega, by omega⟩, ?_⟩ | refine ⟨⟨by omega, by omega⟩, ?_⟩)
        refine ⟨by decide, ?_⟩
        rw [q6]
        repeat (first | refine ⟨fun _ => ?_, fun h => absurd (of_decide_eq_false h) (by omega)⟩ | refine ⟨fun h => absurd (of_decide_eq_true h) (by omega), fun _ => ?_⟩ | refine ⟨fun _ => ?_, fun h => absurd (of_decide_eq_true h) (by omega)⟩ | refine ⟨fun h => absurd (of_decide_eq_false h) (by omega), fun _ => ?_⟩ | refine .inl ⟨⟨by omega, by omega⟩, ?_⟩ | refine ⟨⟨by omega, by omega⟩, ?_⟩)
        refine ⟨by decide, ?_⟩
        rw [q3]
        repeat (first | refine ⟨fun _ => ?_, fun h => absurd (of_decide_eq_false h) (by omega)⟩ | refine ⟨fun h => absurd (of_decide_eq_true h) (by omega), fun _ => ?_⟩ | refine ⟨fun _ => ?_, fun h => absurd (of_decide_eq_true h) (by omega)⟩ | refine ⟨fun h => absurd (of_decide_eq_false h) (by omega), fun _ => ?_⟩ | refine .inl ⟨⟨by omega, by omega⟩, ?_⟩ | refine ⟨⟨by omega, by omega⟩, ?_⟩)
        refine ⟨by decide, ?_⟩
        rw [q6]
        repeat (first | refine ⟨fun _ => ?_, fun h => absurd (of_decide_eq_false h) (by omega)⟩ | refine ⟨fun h => absurd (of_decide_eq_true h) (by omega), fun _ => ?_⟩ | refine ⟨fun _ => ?_, fun h => absurd (of_decide_eq_true h) (by omega)⟩ | refine ⟨fun h => absurd (of_decide_eq_false h) (by omega), fun _ => ?_⟩ | refine .inl ⟨⟨by omega, by omega⟩, ?_⟩ | refine ⟨⟨by omega, by omega⟩, ?_⟩)
        refine ⟨by decide, ?_⟩
        rw [q6]
        repeat (first | refine ⟨fun _ => ?_, fun h => absurd (of_decide_eq_false h) (by omega)⟩ | refine ⟨fun h => absurd (of_decide_eq_true h) (by omega), fun _ => ?_⟩ | refine ⟨fun _ => ?_, fun h => absurd (of_decide_eq_true h) (by omega)⟩ | refine ⟨fun h => absurd (of_decide_eq_false h) (by omega), fun _ => ?_⟩ | refine .inl ⟨⟨by omega, by omega⟩, ?_⟩ | refine ⟨⟨by omega, by omega⟩, ?_⟩)
        exact ⟨[240 + k / 262144, 128 + k / 4096 % 64, 128 + k / 64 % 64, 128 + k % 64].map UInt8.ofNat, rows_u8 [240 + k / 262144, 128 + k / 4096 % 64, 128 + k / 64 % 64, 128 + k % 64] (by simp; omega), rfl, fin [240 + k / 262144, 128 + k / 4096 % 64, 128 + k / 64 % 64, 128 + k % 64] _ (by rw [he]; rfl)⟩

theorem ints_get (l : List Int) (k : Nat) (h : k < l.length) : (intsD l)[((k : Nat) : Int).toNat]? = some [.int .i64 l[k]] := by simp [intsD, h]
theorem tab_pos : ∀ e ∈ nameTab, 0 ≤ e.2 ∧ e.2 ≤ 65535 ∧ fixN e.2 = e.2 := by decide

set_option maxRecDepth 100000 in
theorem rNamed_ok (s : List UInt8) : PureC Try.prog 69 [.d (.str s)] (optV (named s)) := by
  refine pure_okT Try.wf Try.tab_ok Try.func69 (by decide +kernel) rfl rfl rfl (optV_pure _) ?_
  have hn := strsD_len nmL
  have hnl : nmL.length = 22 := rfl
  refine PureC.use names_ok ?_
  refine loopT Try.wf Try.tab_ok (fun n s' σ => ∃ k : Nat, n = 22 - k ∧ k ≤ 22 ∧ (∀ j (hj : j < nameTab.length), j < k → nameTab[j].1 ≠ s) ∧ s' = [(0, .d (.str s)), (4, .d (.sl (strsD nmL))), (5, .d (.int .i64 k))] ∧ σ = ⟨0, []⟩)
    ⟨0, rfl, Nat.zero_le _, fun j _ h => absurd h (by omega), rfl, rfl⟩ (Mv.of [] rfl rfl rfl trivial ⟨rfl, rfl, rfl, trivial⟩) ?_
  rintro _ _ _ ⟨k, rfl, hk, hI, rfl, rfl⟩
  refine ⟨fun h => ?_, fun h => ?_⟩
  · have hlt : k < 22 := by have := of_decide_eq_true h; rw [hn, hnl] at this; omega
    have hlt' : k < nameTab.length := hlt
    have hge : nmL[k]'hlt = nameTab[k].1 := by simp [nmL]
    have hlt2 : k < (nameTab.map (·.2)).length := hlt
    have hge2 : (nameTab.map (·.2))[k]'hlt2 = nameTab[k].2 := List.getElem_map _
    refine ⟨⟨by omega, by rw [hn, hnl]; omega⟩, _, strsD_get nmL k hlt, rfl, _, rfl, fun h1 => ?_, fun h1 => ?_⟩
    · have h1' : nameTab[k].1 = s := hge ▸ of_decide_eq_true h1
      refine PureC.use numbers_ok ⟨⟨by omega, by show (k : Int) < ((intsD (nameTab.map (·.2))).length : Int); rw [show (intsD (nameTab.map (·.2))).length = 22 from rfl]; omega⟩, _, ints_get _ k hlt2, rfl, _, rfl, ?_⟩
      rw [hge2]
      have hp := tab_pos nameTab[k] (List.getElem_mem hlt')
      have c := Char_ok nameTab[k].2 hp.1 (by omega)
      rw [hp.2.2] at c
      refine PureC.use c ?_
      exact ⟨_, _, fin_out rfl, by rw [named_hit hlt' hI h1']; rfl⟩
    · have h1' : ¬ nameTab[k].1 = s := hge ▸ of_decide_eq_false h1
      refine .inl ⟨⟨by omega, by omega⟩, _, _, _, ⟨k + 1, rfl, hlt, fun j hj hjk => ?_, rfl, rfl⟩, by omega, Mv.of [] rfl rfl rfl trivial ⟨rfl, rfl, rfl, trivial⟩⟩
      by_cases hj2 : j = k
      · subst hj2; exact h1'
      · exact hI j hj (by omega)
  · have hk' : k = 22 := by have := of_decide_eq_false h; rw [hn, hnl] at this; omega
    subst hk'
    exact ⟨_, _, fin_out rfl, by rw [named_miss (fun j hj => hI j hj hj)]; rfl⟩

def digV (c : UInt8) (b : Nat) : Int := match hexv c with
  | some d => if d < b then d else 99
  | none => 99
set_option maxRecDepth 100000 in
theorem digit_ok (c : UInt8) (b : Nat) (hb : b ≤ 16) : PureC Try.prog 70 [.d (.int .u8 c.toNat), .d (.int .i64 b)] (.d (.int .i64 (digV c b))) := by
  refine pure_okT Try.wf Try.tab_ok Try.func70 (by decide +kernel) rfl rfl rfl rfl ?_
  have hu := c.toNat_lt
  have fin : ∀ (x : Int) (σ : Store), x = digV c b → ∃ r2 σ2, FinMove ⟨0, []⟩ (AV.d (.int .i64 x)) σ r2 σ2 ∧ r2 = AV.d (.int .i64 (digV c b)) := fun x σ h => ⟨_, _, fin_out rfl, by rw [h]⟩
  by_cases h1 : 48 ≤ c.toNat ∧ c.toNat ≤ 57
  · have hx : hexv c = some (c.toNat - 48) := by unfold hexv; rw [if_pos h1]
    by_cases h2 : c.toNat - 48 < b
    · repeat (first | refine ⟨fun _ => ?_, fun h => absurd (of_decide_eq_false h) (by omega)⟩ | refine ⟨fun h => absurd (of_decide_eq_true h) (by omega), fun _ => ?_⟩ | refine ⟨fun _ => ?_, fun h => absurd (of_decide_eq_true h) (by omega)⟩ | refine ⟨fun h => absurd (of_decide_eq_false h) (by omega), fun _ => ?_⟩ | refine .inl ⟨⟨by omega, by omega⟩, ?_⟩ | refine ⟨⟨by omega, by omega⟩, ?_⟩)
      exact fin _ _ (by simp only [digV, hx]; rw [if_pos h2]; omega)
    · repeat (first | refine ⟨fun _ => ?_, fun h => absurd (of_decide_eq_false h) (by omega)⟩ | refine ⟨fun h => absurd (of_decide_eq_true h) (by omega), fun _ => ?_⟩ | refine ⟨fun _ => ?_, fun h => absurd (of_decide_eq_true h) (by omega)⟩ | refine ⟨fun h => absurd (of_decide_eq_false h) (by omega), fun _ => ?_⟩ | refine .inl ⟨⟨by omega, by omega⟩, ?_⟩ | refine ⟨⟨by omega, by omega⟩, ?_⟩)
      exact fin _ _ (by simp only [digV, hx]; rw [if_neg h2])
  · by_cases h3 : 97 ≤ c.toNat ∧ c.toNat ≤ 102
    · have hx : hexv c = some (c.toNat - 87) := by unfold hexv; rw [if_neg h1, if_pos h3]
      by_cases h2 : c.toNat - 87 < b
      · by_cases h4 : 48 ≤ c.toNat ∧ c.toNat ≤ 57
        · omega
        · repeat (first | refine ⟨fun _ => ?_, fun h => absurd (of_decide_eq_false h) (by omega)⟩ | refine ⟨fun h => absurd (of_decide_eq_true h) (by omega), fun _ => ?_⟩ | refine ⟨fun _ => ?_, fun h => absurd (of_decide_eq_true h) (by omega)⟩ | refine ⟨fun h => absurd (of_decide_eq_false h) (by omega), fun _ => ?_⟩ | refine .inl ⟨⟨by omega, by omega⟩, ?_⟩ | refine ⟨⟨by omega, by omega⟩, ?_⟩)
          exact fin _ _ (by simp only [digV, hx]; rw [if_pos h2]; omega)
      · repeat (first | refine ⟨fun _ => ?_, fun h => absurd (of_decide_eq_false h) (by omega)⟩ | refine ⟨fun h => absurd (of_decide_eq_true h) (by omega), fun _ => ?_⟩ | refine ⟨fun _ => ?_, fun h => absurd (of_decide_eq_true h) (by omega)⟩ | refine ⟨fun h => absurd (of_decide_eq_false h) (by omega), fun _ => ?_⟩ | refine .inl ⟨⟨by omega, by omega⟩, ?_⟩ | refine ⟨⟨by omega, by omega⟩, ?_⟩)
        exact fin _ _ (by simp only [digV, hx]; rw [if_neg h2])
    · by_cases h4 : 65 ≤ c.toNat ∧ c.toNat ≤ 70
      · have hx : hexv c = some (c.toNat - 55) := by unfold hexv; rw [if_neg h1, if_neg h3, if_pos h4]
        by_cases h2 : c.toNat - 55 < b
        · repeat (first | refine ⟨fun _ => ?_, fun h => absurd (of_decide_eq_false h) (by omega)⟩ | refine ⟨fun h => absurd (of_decide_eq_true h) (by omega), fun _ => ?_⟩ | refine ⟨fun _ => ?_, fun h => absurd (of_decide_eq_true h) (by omega)⟩ | refine ⟨fun h => absurd (of_decide_eq_false h) (by omega), fun _ => ?_⟩ | refine .inl ⟨⟨by omega, by omega⟩, ?_⟩ | refine ⟨⟨by omega, by omega⟩, ?_⟩)
          exact fin _ _ (by simp only [digV, hx]; rw [if_pos h2]; omega)
        · repeat (first | refine ⟨fun _ => ?_, fun h => absurd (of_decide_eq_false h) (by omega)⟩ | refine ⟨fun h => absurd (of_decide_eq_true h) (by omega), fun _ => ?_⟩ | refine ⟨fun _ => ?_, fun h => absurd (of_decide_eq_true h) (by omega)⟩ | refine ⟨fun h => absurd (of_decide_eq_false h) (by omega), fun _ => ?_⟩ | refine .inl ⟨⟨by omega, by omega⟩, ?_⟩ | refine ⟨⟨by omega, by omega⟩, ?_⟩)
          exact fin _ _ (by simp only [digV, hx]; rw [if_neg h2])
      · have hx : hexv c = none := by unfold hexv; rw [if_neg h1, if_neg h3, if_neg h4]
        (repeat' first | refine ⟨fun _ => ?_, fun _ => ?_⟩ | fail)
        all_goals first
          | exact fin _ _ (by simp only [digV, hx])
          | (exfalso; simp only [decide_eq_true_eq, decide_eq_false_iff_not] at *; omega)

theorem digs_next {b : Nat} {e : List UInt8} {k n : Nat} (h : k < e.length) : digs b (e.drop k) n = match hexv e[k] with
    | some d => if d < b then digs b (e.drop (k + 1)) (n * b + d) else none
    | none => none := by
  rw [List.drop_eq_getElem_cons h]; rfl
theorem p16 {k : Nat} (h : k ≤ 7) : 16 ^ k ≤ 268435456 := Nat.pow_le_pow_right (by decide) h

set_option maxRecDepth 100000 in
theorem body_ok (s : List UInt8) (hs : s.length ≤ 9223372036854775807) : PureC Try.prog 64 [.d (.str s)] (optV (stands s)) := by
  refine PureC.of rfl (optV_pure _) (fn_okTE Try.wf Try.tab_ok Try.func64 (by decide +kernel) rfl rfl ?_)
  refine E.seq (E.of Try.wf Try.tab_ok ?_)
  refine E.seq (E.of Try.wf Try.tab_ok ?_)
  have nam : ∀ σ : Store, stands s = named s → CallsAbs Try.prog 69 [.d (.str s)] σ fun r σ' => r = optV (stands s) ∧ σ' = σ := fun σ h => by rw [h]; exact rNamed_ok s σ
  by_cases hh : ∃ x e, s = 35 :: x :: e
  · obtain ⟨x, e0, rfl⟩ := hh
    simp only [List.length_cons] at hs
    refine ⟨fun _ => ?_, fun h => absurd (of_decide_eq_true h) (by simp; omega)⟩
    refine ⟨⟨by omega, by simp; omega⟩, fun h => absurd h (by simp), fun _ => ?_⟩
    refine E.seq (E.of Try.wf Try.tab_ok ?_)
    refine E.seq (E.of Try.wf Try.tab_ok ?_)
    refine ⟨⟨by omega, by simp; omega, by simp⟩, ?_⟩
    have ed : List.drop (Int.toNat 1) (List.take (Int.toNat ((35 :: x :: e0).length : Nat)) (35 :: x :: e0)) = x :: e0 := (tail_at [35] (x :: e0))
    rw [ed]
    refine E.seq (E.of Try.wf Try.tab_ok ?_)
    rw [stands_hash]
    have key : ∃ (e : List UInt8) (b m : Nat), b ≤ 16 ∧ m ≤ 7 ∧ e.length ≤ e0.length + 1 ∧ hashN (x :: e0) = number e b m ∧
        ((x = 120 ∧ e0 = e ∧ b = 16 ∧ m = 6) ∨ (x ≠ 120 ∧ x = 88 ∧ e0 = e ∧ b = 16 ∧ m = 6) ∨ (x ≠ 120 ∧ x ≠ 88 ∧ x :: e0 = e ∧ b = 10 ∧ m = 7)) := by
      by_cases h1 : x = 120
      · subst h1; exact ⟨e0, 16, 6, by decide, by decide, by omega, hash_x e0, .inl ⟨rfl, rfl, rfl, rfl⟩⟩
      · by_cases h2 : x = 88
        · subst h2; exact ⟨e0, 16, 6, by decide, by decide, by omega, hash_X e0, .inr (.inl ⟨h1, rfl, rfl, rfl, rfl⟩)⟩
        · exact ⟨x :: e0, 10, 7, by decide, by decide, by simp, hash_d _ (fun e q => h1 (by injection q)) (fun e q => h2 (by injection q)), .inr (.inr ⟨h1, h2, rfl, rfl, rfl⟩)⟩
    obtain ⟨e, b, m, hb, hm, hel, hN, hcase⟩ := key
    rw [hN]
    refine midT Try.wf Try.tab_ok (fun s' σ => s' = [(4, .d (.int .i64 b)), (5, .d (.str e)), (6, .d (.int .i64 m))] ∧ σ = ⟨0, []⟩) ?_ ?_
    · refine ⟨⟨by omega, (by first | omega | (simp; done) | (simp; omega))⟩, ?_⟩
      rcases hcase with ⟨rfl, rfl, rfl, rfl⟩ | ⟨h1, rfl, rfl, rfl, rfl⟩ | ⟨h1, h2, rfl, rfl, rfl⟩
      · refine ⟨fun h => absurd h (by simp), fun _ => ?_⟩
        refine ⟨⟨by omega, (by first | omega | (simp; done) | (simp; omega)), by simp⟩, _, _, ⟨rfl, rfl⟩, Mv.of [] rfl rfl rfl trivial ⟨rfl, congrArg D.str (tail_at [120] e0).symm, rfl, trivial⟩⟩
      · refine ⟨fun _ => ?_, fun h => absurd h (by simp)⟩
        refine ⟨⟨by omega, (by first | omega | (simp; done) | (simp; omega))⟩, fun _ => ?_, fun h => absurd h (by simp)⟩
        refine ⟨⟨by omega, (by first | omega | (simp; done) | (simp; omega)), by simp⟩, _, _, ⟨rfl, rfl⟩, Mv.of [] rfl rfl rfl trivial ⟨rfl, congrArg D.str (tail_at [88] e0).symm, rfl, trivial⟩⟩
      · refine ⟨fun _ => ?_, fun h => absurd (u8_is' (of_decide_eq_true h) rfl) h1⟩
        refine ⟨⟨by omega, (by first | omega | (simp; done) | (simp; omega))⟩, fun h => absurd (u8_is' (of_decide_eq_true h) rfl) h2, fun _ => ?_⟩
        exact ⟨_, _, ⟨rfl, rfl⟩, Mv.of [] rfl rfl rfl trivial ⟨rfl, rfl, rfl, trivial⟩⟩
    rintro _ _ ⟨rfl, rfl⟩
    refine E.of Try.wf Try.tab_ok ?_
    have no : ∀ σ : Store, number e b m = none → ∃ r' σ', FinMove ⟨0, []⟩ (AV.tup [.d (.str []), .d (.bool false)]) σ r' σ' ∧ r' = optV ((number e b m).map fun (n : Nat) => enc (fixN (n : Int))) ∧ σ'.n = 0 := fun σ h => ⟨_, _, fin_out rfl, by rw [h]; rfl, rfl⟩
    refine ⟨fun h1 => ⟨fun h2 => ?_, fun h2 => ?_⟩, fun h1 => ?_⟩
    · exact no _ (if_pos (.inr (by have := of_decide_eq_true h2; omega)))
    · have h1' : 1 ≤ e.length := by have := of_decide_eq_false h1; omega
      have h2' : e.length ≤ m := by have := of_decide_eq_false h2; omega
      have hD : number e b m = digs b e 0 := if_neg (by rintro (h | h); subst h; simp at h1'; omega)
      clear h1 h2
      refine loopT Try.wf Try.tab_ok (fun q s' σ => ∃ k n : Nat, q = e.length - k ∧ k ≤ e.length ∧ n + 1 ≤ 16 ^ k ∧ digs b e 0 = digs b (e.drop k) n ∧ s' = [(4, .d (.int .i64 b)), (5, .d (.str e)), (7, .d (.int .i64 n)), (8, .d (.int .i64 k))] ∧ σ = ⟨0, []⟩)
        ⟨0, 0, rfl, Nat.zero_le _, by simp, rfl, rfl, rfl⟩ (Mv.of [] rfl rfl rfl trivial ⟨rfl, rfl, rfl, rfl, trivial⟩) ?_
      rintro _ _ _ ⟨k, n, rfl, hk, hn, hI, rfl, rfl⟩
      have h16 := p16 (k := k) (by omega)
      refine ⟨fun h => ?_, fun h => ?_⟩
      · have hlt : k < e.length := by have := of_decide_eq_true h; omega
        have hg := getD_at e k hlt
        refine ⟨⟨by omega, by omega⟩, ?_⟩
        rw [hg]
        rw [digs_next hlt] at hI
        have c := digit_ok e[k] b hb
        unfold digV at c
        cases hv : hexv e[k] with
        | none =>
          rw [hv] at hI c
          dsimp only at hI c
          exact PureC.use c ⟨fun _ => no _ (hD.trans hI), fun h => absurd h (by decide)⟩
        | some d =>
          rw [hv] at hI c
          dsimp only at hI c
          have hd16 := hexv_lt hv
          by_cases hdb : d < b
          · rw [if_pos hdb] at hI c
            have hmul : n * b ≤ n * 16 := Nat.mul_le_mul_left _ hb
            have hcast : (n : Int) * (b : Int) = ((n * b : Nat) : Int) := by simp
            have hd0 : (0 : Int) ≤ (d : Int) := Int.natCast_nonneg d
            have hpos : (0 : Int) ≤ (n : Int) * (b : Int) := Int.mul_nonneg (by omega) (by omega)
            refine PureC.use c ⟨fun h => absurd (of_decide_eq_true h) (by omega), fun _ => ?_⟩
            refine .inl ⟨⟨by omega, by omega⟩, .inl ⟨⟨by omega, by omega⟩, .inl ⟨⟨by omega, by omega⟩, ?_⟩⟩⟩
            refine ⟨_, _, _, ⟨k + 1, n * b + d, rfl, hlt, ?_, hI, rfl, rfl⟩, by omega, Mv.of [] rfl rfl rfl trivial ⟨rfl, rfl, congrArg (D.int .i64) (by simp), rfl, trivial⟩⟩
            rw [Nat.pow_succ]; omega
          · rw [if_neg hdb] at hI c
            exact PureC.use c ⟨fun _ => no _ (hD.trans hI), fun h => absurd h (by decide)⟩
      · have hk' : k = e.length := by have := of_decide_eq_false h; omega
        subst hk'
        rw [List.drop_length] at hI
        refine PureC.use (Char_ok (n : Int) (by omega) (by omega)) ?_
        exact ⟨_, _, fin_out rfl, by rw [hD, hI]; rfl, rfl⟩
    · exact no _ (if_pos (.inl (by have := of_decide_eq_true h1; exact List.length_eq_zero_iff.1 (by omega))))
  · have hst : stands s = named s := by
      cases s with
      | nil => rfl
      | cons c r =>
        by_cases hc : c = 35
        · subst hc
          cases r with
          | nil => rfl
          | cons x e => exact absurd ⟨x, e, rfl⟩ hh
        · exact stands_named _ (fun d e => hc (by injection e))
    have fin : ∀ (o : Option (List UInt8)) (σ : Store), stands s = o → ∃ r' σ', FinMove ⟨0, []⟩ (optV o) σ r' σ' ∧ r' = optV (stands s) ∧ σ'.n = 0 := fun o σ h => ⟨_, _, fin_out (optV_pure _), by rw [h], rfl⟩
    have c := rNamed_ok s
    rw [← hst] at c
    have go : ∀ o, stands s = o → PureC Try.prog 69 [.d (.str s)] (optV o) := fun o h => h ▸ c
    refine ⟨fun h1 => ?_, fun h1 => ?_⟩
    · have h1' : 2 ≤ s.length := by have := of_decide_eq_false h1; omega
      obtain ⟨c0, x, e, rfl⟩ : ∃ c0 x e, s = c0 :: x :: e := by
        match s, h1' with
        | c0 :: x :: e, _ => exact ⟨c0, x, e, rfl⟩
      have hc : c0 ≠ 35 := fun h => hh ⟨x, e, by rw [h]⟩
      refine ⟨⟨by omega, by simp; omega⟩, fun _ => ?_, fun h => absurd (u8_is' (of_decide_eq_true (by simpa using h)) rfl) hc⟩
      cases ho : stands (c0 :: x :: e) with
      | none => exact PureC.use (go _ ho) ⟨_, _, fin_out rfl, rfl, rfl⟩
      | some u => exact PureC.use (go _ ho) ⟨_, _, fin_out rfl, rfl, rfl⟩
    · cases ho : stands s with
      | none => exact PureC.use (go _ ho) ⟨_, _, fin_out rfl, rfl, rfl⟩
      | some u => exact PureC.use (go _ ho) ⟨_, _, fin_out rfl, rfl, rfl⟩

def oneV (r : List UInt8) : AV := match oneR r with
  | some (t, r') => .tup [.d (.str t), .d (.int .i64 ((r.length - r'.length + 1 : Nat)))]
  | none => .tup [.d (.str []), .d (.int .i64 0)]
theorem oneV_pure (r : List UInt8) : (oneV r).pure = true := by unfold oneV; split <;> rfl
theorem oneV_none {r : List UInt8} (h : oneR r = none) : oneV r = .tup [.d (.str []), .d (.int .i64 0)] := by unfold oneV; rw [h]
theorem oneV_some {r t r' : List UInt8} (h : oneR r = some (t, r')) : oneV r = .tup [.d (.str t), .d (.int .i64 ((r.length - r'.length + 1 : Nat)))] := by unfold oneV; rw [h]

theorem mid_of (s : List UInt8) (a b : Nat) (h : b ≤ s.length) : ((s.take ((b : Nat) : Int).toNat).drop ((a : Nat) : Int).toNat) = (s.drop a).take (b - a) := by
  rw [Int.toNat_natCast, Int.toNat_natCast, List.drop_take]

set_option maxRecDepth 100000 in
theorem One_ok (s : List UInt8) (p : Nat) (hp : p < s.length) (hs : s.length ≤ 4611686018427387904) : PureC Try.prog 42 [.d (.str s), .d (.int .i64 p)] (oneV (s.drop (p + 1))) := by
  refine pure_okT Try.wf Try.tab_ok Try.func42 (by decide +kernel) rfl rfl rfl (oneV_pure _) ?_
  have hrl : (s.drop (p + 1)).length = s.length - (p + 1) := by simp
  refine .inl ⟨⟨by omega, by omega⟩, ?_⟩
  refine loopT Try.wf Try.tab_ok (fun q s' σ => ∃ i : Nat, q = 11 - i ∧ i ≤ 11 ∧ p + 1 + i ≤ s.length ∧ (59 : UInt8) ∉ (s.drop (p + 1)).take i ∧ s' = [(0, .d (.str s)), (1, .d (.int .i64 p)), (6, .d (.int .i64 ((p + 1 + i : Nat) : Int)))] ∧ σ = ⟨0, []⟩)
    ⟨0, rfl, Nat.zero_le _, by omega, by simp, rfl, rfl⟩ (Mv.of [] rfl rfl rfl trivial ⟨rfl, rfl, congrArg (D.int .i64) (by simp), trivial⟩) ?_
  rintro _ _ _ ⟨i, rfl, hi, hil, hI, rfl, rfl⟩
  have no : ∀ σ : Store, oneR (s.drop (p + 1)) = none → ∃ r2 σ2, FinMove ⟨0, []⟩ (AV.tup [.d (.str []), .d (.int .i64 0)]) σ r2 σ2 ∧ r2 = oneV (s.drop (p + 1)) := fun σ h => ⟨_, _, fin_out rfl, by rw [oneV_none h]⟩
  by_cases hc : p + 1 + i < s.length ∧ i < 11
  · obtain ⟨hlt, hi11⟩ := hc
    have hg := getD_at s (p + 1 + i) hlt
    repeat (first | refine ⟨fun _ => ?_, fun h => absurd (of_decide_eq_false h) (by omega)⟩ | refine ⟨fun h => absurd (of_decide_eq_true h) (by omega), fun _ => ?_⟩ | refine ⟨fun _ => ?_, fun h => absurd (of_decide_eq_true h) (by omega)⟩ | refine ⟨fun h => absurd (of_decide_eq_false h) (by omega), fun _ => ?_⟩ | refine .inl ⟨⟨by omega, by omega⟩, ?_⟩ | refine ⟨⟨by omega, by omega⟩, ?_⟩)
    rw [hg]
    have hir : i < (s.drop (p + 1)).length := by omega
    have hget : (s.drop (p + 1))[i] = s[p + 1 + i] := by simp
    have hr : s.drop (p + 1) = (s.drop (p + 1)).take i ++ s[p + 1 + i] :: (s.drop (p + 1)).drop (i + 1) := by
      conv => lhs; rw [← List.take_append_drop i (s.drop (p + 1))]
      rw [List.drop_eq_getElem_cons hir, hget]
    have htl : ((s.drop (p + 1)).take i).length = i := by rw [List.length_take]; omega
    refine ⟨fun h => ?_, fun h => ?_⟩
    · have h59 : s[p + 1 + i] = 59 := u8_is' (of_decide_eq_true h) rfl
      rw [h59] at hr
      have ho := oneR_some ((s.drop (p + 1)).take i) ((s.drop (p + 1)).drop (i + 1)) hI (by omega)
      rw [← hr] at ho
      refine .inl ⟨⟨by omega, by omega⟩, ⟨by omega, by omega, by omega⟩, ?_⟩
      refine CallsAbs.to [.d (.str ((s.drop (p + 1)).take i))] (congrArg (fun x => [AV.d (.str x)]) ?_) ?_
      · rw [show ((p : Int) + 1).toNat = p + 1 by omega, Int.toNat_natCast, List.drop_take]
        congr 1; omega
      have c := body_ok ((s.drop (p + 1)).take i) (by omega)
      cases hst : stands ((s.drop (p + 1)).take i) with
      | none =>
        rw [hst] at c ho
        exact PureC.use c ⟨fun h => absurd h (by decide), fun _ => no _ ho⟩
      | some t =>
        rw [hst] at c ho
        refine PureC.use c ⟨fun _ => ?_, fun h => absurd h (by decide)⟩
        refine .inl ⟨⟨by omega, by omega⟩, .inl ⟨⟨by omega, by omega⟩, ?_⟩⟩
        refine ⟨_, _, fin_out rfl, ?_⟩
        rw [oneV_some ho]
        refine congrArg (fun x => AV.tup [.d (.str t), .d (.int .i64 x)]) ?_
        have hdl : ((s.drop (p + 1)).drop (i + 1)).length = s.length - (p + 1) - (i + 1) := by simp; omega
        omega
    · have n59 : s[p + 1 + i] ≠ 59 := fun e => by rw [e] at h; exact absurd h (by decide)
      refine .inl ⟨⟨by omega, by omega⟩, _, _, _, ⟨i + 1, rfl, by omega, by omega, ?_, rfl, rfl⟩, by omega, Mv.of [] rfl rfl rfl trivial ⟨rfl, rfl, congrArg (D.int .i64) (by simp; omega), trivial⟩⟩
      rw [List.take_succ_eq_append_getElem hir, hget]
      simp only [List.mem_append, not_or, List.mem_singleton]
      exact ⟨hI, fun e => n59 e.symm⟩
  · have hno : oneR (s.drop (p + 1)) = none := by
      refine oneR_none _ ?_
      by_cases h11 : i = 11
      · subst h11; exact hI
      · have : i = (s.drop (p + 1)).length := by omega
        rw [List.take_of_length_le (by omega)]
        rw [this, List.take_length] at hI; exact hI
    refine ⟨fun h => ?_, fun h => ?_⟩
    · have h' := of_decide_eq_true h
      refine .inl ⟨⟨by omega, by omega⟩, fun h2 => absurd (of_decide_eq_true h2) (by omega), fun _ => no _ hno⟩
    · exact no _ hno

set_option maxRecDepth 100000 in
theorem rResolve_ok (s : List UInt8) (hs : s.length ≤ 4611686018427387904) : PureC Try.prog 23 [.d (.str s)] (.d (.str (resolve s))) := by
  refine pure_okT Try.wf Try.tab_ok Try.func23 (by decide +kernel) rfl rfl rfl rfl ?_
  have hsl := resolve_len s.length s (Nat.le_refl _)
  refine loopT Try.wf Try.tab_ok (fun q s' σ => ∃ (k : Nat) (out : List UInt8), q = s.length - k ∧ k ≤ s.length ∧ out ++ resolve (s.drop k) = resolve s ∧ s' = [(0, .d (.str s)), (3, .d (.str out)), (4, .d (.int .i64 k))] ∧ σ = ⟨0, []⟩)
    ⟨0, [], rfl, Nat.zero_le _, rfl, rfl, rfl⟩ (Mv.of [] rfl rfl rfl trivial ⟨rfl, rfl, rfl, trivial⟩) ?_
  rintro _ _ _ ⟨k, out, rfl, hk, hI, rfl, rfl⟩
  have hol : out.length + (resolve (s.drop k)).length ≤ s.length := by have := congrArg List.length hI; simp at this; omega
  refine ⟨fun h => ?_, fun h => ?_⟩
  · have hlt : k < s.length := by have := of_decide_eq_true h; omega
    clear h
    have hg := getD_at s k hlt
    have hd : s.drop k = s[k] :: s.drop (k + 1) := List.drop_eq_getElem_cons hlt
    rw [hd] at hI hol
    have hone : ∀ c : UInt8, s[k] = c → List.drop ((k : Nat) : Int).toNat (List.take ((k : Nat) + 1 : Int).toNat s) = [c] := fun c hc => by
      rw [show ((k : Int) + 1).toNat = k + 1 by omega, Int.toNat_natCast, List.drop_take, hd, hc]
      rw [show k + 1 - k = 1 by omega]; rfl
    refine ⟨⟨by omega, by omega⟩, ?_⟩
    rw [hg]
    by_cases h38 : s[k] = 38
    · rw [h38] at hI hol ⊢
      rw [resolve_amp] at hI hol
      refine ⟨fun _ => ?_, fun h => absurd h (by decide)⟩
      have c := One_ok s k hlt hs
      cases ho : oneR (s.drop (k + 1)) with
      | none =>
        rw [oneV_none ho] at c
        rw [ho] at hI hol
        refine PureC.use c ⟨fun _ => ?_, fun h => absurd h (by decide)⟩
        refine .inl ⟨⟨by omega, by omega⟩, ⟨by omega, by omega, by omega⟩, ?_⟩
        rw [hone 38 h38]
        simp only [List.length_cons] at hol
        refine ⟨by simp; omega, .inl ⟨⟨by omega, by omega⟩, ?_⟩⟩
        exact ⟨_, _, _, ⟨k + 1, out ++ [38], rfl, hlt, by rw [List.append_assoc]; exact hI, rfl, rfl⟩, by omega, Mv.of [] rfl rfl rfl trivial ⟨rfl, rfl, rfl, trivial⟩⟩
      | some p =>
        obtain ⟨t, r'⟩ := p
        rw [oneV_some ho] at c
        rw [ho] at hI hol
        dsimp only at hI hol
        have hl1 := oneR_lt ho
        have hdl : (s.drop (k + 1)).length = s.length - (k + 1) := by simp
        have hr' : s.drop (k + (s.length - (k + 1) - r'.length + 1)) = r' := by
          by_cases hm : (59 : UInt8) ∈ (s.drop (k + 1)).take 11
          · obtain ⟨a, b, e, ha, hal⟩ := split_take (s.drop (k + 1)) hm
            rw [e, oneR_some a b ha hal] at ho
            cases hst : stands a with
            | none => rw [hst] at ho; cases ho
            | some u =>
              rw [hst] at ho
              cases ho
              have hlen : (s.drop (k + 1)).length = a.length + 1 + r'.length := by rw [e]; simp; omega
              rw [show k + (s.length - (k + 1) - r'.length + 1) = (k + 1) + (a.length + 1) by omega, ← List.drop_drop, e]
              simp
          · rw [oneR_none _ hm] at ho; cases ho
        rw [hdl] at c
        refine PureC.use c ⟨fun h => absurd (of_decide_eq_true h) (by omega), fun _ => ?_⟩
        simp only [List.length_append] at hol
        refine ⟨by omega, .inl ⟨⟨by omega, by omega⟩, ?_⟩⟩
        exact ⟨_, _, _, ⟨k + (s.length - (k + 1) - r'.length + 1), out ++ t, rfl, by omega, by rw [hr', List.append_assoc]; exact hI, rfl, rfl⟩, by omega, Mv.of [] rfl rfl rfl trivial ⟨rfl, rfl, congrArg (D.int .i64) (by simp), trivial⟩⟩
    · rw [resolve_other _ _ h38] at hI hol
      refine ⟨fun h => absurd (u8_is' (of_decide_eq_true h) rfl) h38, fun _ => ⟨fun _ => ?_, fun h => absurd h (by decide)⟩⟩
      refine .inl ⟨⟨by omega, by omega⟩, ⟨by omega, by omega, by omega⟩, ?_⟩
      rw [hone s[k] rfl]
      simp only [List.length_cons] at hol
      refine ⟨by simp; omega, .inl ⟨⟨by omega, by omega⟩, ?_⟩⟩
      exact ⟨_, _, _, ⟨k + 1, out ++ [s[k]], rfl, hlt, by rw [List.append_assoc]; exact hI, rfl, rfl⟩, by omega, Mv.of [] rfl rfl rfl trivial ⟨rfl, rfl, rfl, trivial⟩⟩
  · have hk' : k = s.length := by have := of_decide_eq_false h; omega
    subst hk'
    rw [List.drop_length, resolve_nil, List.append_nil] at hI
    exact ⟨_, _, fin_out rfl, congrArg (fun x => AV.d (.str x)) hI⟩

end Go.Proofs.Ytdaheonodpkfgaa
