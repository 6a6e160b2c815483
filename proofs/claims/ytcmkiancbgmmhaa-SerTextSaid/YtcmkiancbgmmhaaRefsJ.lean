import Derived.Test.YtcmkiancbgmmhaaRefsI
namespace Go.Proofs.Ytcmkiancbgmmhaa
open Go.Aw
set_option maxHeartbeats 1600000
set_option linter.unusedSimpArgs false
set_option linter.unusedVariables false

theorem strs_rows1 (l : List (List UInt8)) : ∀ r ∈ l.map (fun s => [AV.d (.str s)]), r.length = 1 ∧ ∀ a ∈ r, a.one = true := by
  intro r hr
  obtain ⟨s, _, rfl⟩ := List.mem_map.1 hr
  exact ⟨rfl, by simp [AV.one]⟩
theorem strs_pure (l : List (List UInt8)) : ∀ row ∈ l.map (fun s => [AV.d (.str s)]), pureL row = true := by
  intro r hr
  obtain ⟨s, _, rfl⟩ := List.mem_map.1 hr
  rfl
theorem strs_D (l : List (List UInt8)) : rowsD (l.map (fun s => [AV.d (.str s)])) = some (strsD l) := by
  have := rowsD_d (strsD l)
  unfold strsD at this ⊢
  rw [List.map_map] at this
  exact this

set_option maxRecDepth 100000 in
theorem Chars_ok (s : List UInt8) (hs : s.length ≤ 4398046511104) : PureC Try.prog 42 [.d (.str s)] (.d (.sl (strsD (chars s)))) := by
  refine pure_okT Try.wf Try.tab_ok Try.func42 (by decide +kernel) rfl rfl rfl rfl ?_
  refine loopT Try.wf Try.tab_ok (fun q s' σ => ∃ (k : Nat) (acc : List (List UInt8)), q = s.length - k ∧ k ≤ s.length ∧ acc.length ≤ k ∧ acc ++ chars (s.drop k) = chars s ∧ s' = [(0, .d (.str s)), (3, .own 0 0 acc.length), (4, .d (.int .i64 k))] ∧ σ = ⟨1, [(0, .rows (1, 9) (acc.map fun s => [.d (.str s)]))]⟩)
    ⟨0, [], rfl, Nat.zero_le _, Nat.le_refl _, rfl, rfl, rfl⟩ (Mv.of [.phan 1] rfl rfl rfl ⟨rfl, trivial⟩ ⟨rfl, ⟨rfl, rfl, rfl⟩, rfl, trivial⟩) ?_
  rintro _ _ _ ⟨k, acc, rfl, hk, ha, hI, rfl, rfl⟩
  refine ⟨fun h => ?_, fun h => ?_⟩
  · have hlt : k < s.length := by have := of_decide_eq_true h; omega
    refine PureC.use (Right_ok s k hlt (by omega)) ?_
    have h4 := right_le4 (s.drop k)
    have hle := right_le (s.drop k)
    have hdl : (s.drop k).length = s.length - k := by simp
    have hne : s.drop k ≠ [] := fun e => by rw [e] at hdl; simp at hdl; omega
    have hcc := chars_cons (s.drop k) hne
    generalize right (s.drop k) = n at *
    have hmx : (if (1 : Int) > ((n : Nat) : Int) then (1 : Int) else ((n : Nat) : Int)) = ((max n 1 : Nat) : Int) := by split <;> omega
    refine .inl ⟨⟨by rw [hmx]; omega, by rw [hmx]; omega⟩, ⟨by omega, by rw [hmx]; omega, by rw [hmx]; omega⟩, ?_⟩
    refine ⟨acc.map fun s => [.d (.str s)], _, congrArg some (takeAll (by simp)), rfl, (by show List.length _ = _; simp), rfl, ?_, Nat.le_refl _, by decide, rfl, rfl, strs_rows1 acc, rowsOne rfl rfl, ?_⟩
    · rw [List.length_map]
      show (acc.length + 1) * 16 ≤ _
      omega
    refine .inl ⟨⟨by rw [hmx]; omega, by rw [hmx]; omega⟩, ?_⟩
    rw [hcc] at hI
    refine ⟨_, _, _, ⟨k + max n 1, acc ++ [(s.drop k).take (max n 1)], rfl, by omega, by simp; omega, by rw [List.append_assoc, ← List.drop_drop]; exact hI, rfl, rfl⟩, by omega, Mv.of [.old 2] rfl rfl rfl ⟨⟨rfl, .inl ⟨?_, strs_pure _⟩⟩, trivial⟩ ⟨rfl, ⟨rfl, rfl, by show _ = _ + 1; simp⟩, congrArg (D.int .i64) (by rw [hmx]; simp), trivial⟩⟩
    rw [List.map_append]
    congr 1
    refine congrArg (fun x => [[AV.d (.str x)]]) ?_
    rw [hmx, show ((k : Int) + ((max n 1 : Nat) : Int)).toNat = k + max n 1 by omega, Int.toNat_natCast, List.drop_take]
    congr 1; omega
  · have hk' : k = s.length := by have := of_decide_eq_false h; omega
    subst hk'
    rw [List.drop_length, show chars [] = [] from rfl, List.append_nil] at hI
    subst hI
    exact ⟨_, _, fin_lit0 (strs_D _) (by simp [strsD]), rfl⟩

def escC (q : Bool) (t : List UInt8) : List UInt8 := if t = [38] then [38, 97, 109, 112, 59] else if t = [60] then [38, 108, 116, 59] else if t = [62] then [38, 103, 116, 59] else if t = [194, 160] then [38, 110, 98, 115, 112, 59] else if t = [34] ∧ q = true then [38, 113, 117, 111, 116, 59] else t
theorem hi_pass (q : Bool) : ∀ (x t : List UInt8), (∀ c ∈ x, 128 ≤ c.toNat ∧ c ≠ 194) → escape q (x ++ t) = x ++ escape q t
  | [], _, _ => rfl
  | c :: x, t, h => by
    obtain ⟨h1, h2⟩ := h c (by simp)
    rw [List.cons_append, escape_cons q c _ (fun e => h2 e.1), hi_pass q x t (fun d hd => h d (by simp [hd]))]
    have : esc1 q c = [c] := by
      have n : ∀ d : UInt8, d.toNat < 128 → c ≠ d := fun d hd e => by subst e; omega
      unfold esc1
      rw [if_neg (n 38 (by decide)), if_neg (n 60 (by decide)), if_neg (n 62 (by decide)), if_neg (fun e => n 34 (by decide) e.1)]
    rw [this]; rfl
theorem chars_escape (q : Bool) : ∀ (n : Nat) (s : List UInt8), s.length ≤ n → (chars s).flatMap (escC q) = escape q s
  | _, [], _ => rfl
  | 0, _ :: _, h => by simp at h
  | n + 1, c :: r, h => by
    simp only [List.length_cons] at h
    have hle := right_le (c :: r)
    rw [chars_cons _ (by simp), List.flatMap_cons, chars_escape q n _ (by simp; omega)]
    by_cases hc : c.toNat < 128
    · have hr : right (c :: r) = 1 := by show (if c.toNat < 128 then 1 else _) = 1; rw [if_pos hc]
      rw [hr]
      show escC q [c] ++ escape q r = _
      rw [escape_cons q c r (fun e => by rw [e.1] at hc; exact absurd hc (by decide))]
      congr 1
      unfold escC esc1
      simp
    · have hR := right_hi c r hc
      obtain ⟨l1, l2, l3, l4, l5⟩ := lead_cases c
      have n38 : ∀ d : UInt8, d.toNat < 128 → c ≠ d := fun d hd e => by subst e; omega
      have noC : ∀ t, t ≠ [160] → escC q (c :: t) = c :: t := fun t ht => by
        unfold escC
        rw [if_neg (fun e => n38 38 (by decide) (by injection e)), if_neg (fun e => n38 60 (by decide) (by injection e)), if_neg (fun e => n38 62 (by decide) (by injection e)),
          if_neg (fun e => ht (by injection e)), if_neg (fun e => n38 34 (by decide) (by injection e.1))]
      have e1 : esc1 q c = [c] := by
        unfold esc1
        rw [if_neg (n38 38 (by decide)), if_neg (n38 60 (by decide)), if_neg (n38 62 (by decide)), if_neg (fun e => n38 34 (by decide) e.1)]
      by_cases h194 : c = 194 ∧ ∃ t, r = 160 :: t
      · obtain ⟨rfl, t, rfl⟩ := h194
        have : right (194 :: 160 :: t) = 2 := by
          rw [hR, show lead 194 = (2, 128, 191) from rfl]
          simp
        rw [this, escape_nb]
        rfl
      · rw [escape_cons q c r h194, e1]
        by_cases h0 : right (c :: r) = 0
        · rw [h0]
          show escC q [c] ++ escape q r = _
          rw [noC [] (by simp)]
        · rw [hR] at h0
          split at h0
          · exact absurd rfl h0
          · rename_i hno
            split at h0
            · rename_i hall
              rw [if_neg hno, if_pos hall] at hR
              rw [hR] at hle ⊢
              generalize (lead c).1 = m at *
              have hm2 : 2 ≤ m := by omega
              rw [Nat.max_eq_left (by omega)]
              obtain ⟨d, r2, rfl⟩ : ∃ d r2, r = d :: r2 := by
                cases r with
                | nil => simp at hno; omega
                | cons d r2 => exact ⟨d, r2, rfl⟩
              simp only [List.getD_cons_zero, List.length_cons, List.drop_succ_cons, List.drop_zero] at hno hall hle
              have hsplit : (c :: d :: r2).take m = c :: d :: r2.take (m - 2) ∧ (c :: d :: r2).drop m = r2.drop (m - 2) := by
                obtain ⟨j, rfl⟩ : ∃ j, m = j + 2 := ⟨m - 2, by omega⟩
                exact ⟨rfl, rfl⟩
              rw [hsplit.1, hsplit.2]
              have hd : 128 ≤ d.toNat ∧ d.toNat ≤ 191 := by omega
              have hx : ∀ e ∈ d :: r2.take (m - 2), 128 ≤ e.toNat ∧ e ≠ 194 := by
                intro e he
                rcases List.mem_cons.1 he with rfl | he
                · exact ⟨hd.1, fun q => by subst q; exact absurd hd.2 (by decide)⟩
                · have := List.all_eq_true.1 hall e he
                  simp [goesB] at this
                  exact ⟨this.1, fun q => by subst q; exact absurd this.2 (by decide)⟩
              have hp := hi_pass q (d :: r2.take (m - 2)) (r2.drop (m - 2)) hx
              rw [List.cons_append, List.take_append_drop] at hp
              rw [hp]
              have : escC q (c :: d :: r2.take (m - 2)) = c :: d :: r2.take (m - 2) := by
                by_cases ht : d :: r2.take (m - 2) = [160]
                · by_cases hc2 : c = 194
                  · injection ht with h1 h2
                    exact absurd ⟨hc2, r2, by rw [h1]⟩ h194
                  · unfold escC
                    rw [if_neg (fun e => n38 38 (by decide) (by injection e)), if_neg (fun e => n38 60 (by decide) (by injection e)), if_neg (fun e => n38 62 (by decide) (by injection e)),
                      if_neg (fun e => hc2 (by injection e)), if_neg (fun e => n38 34 (by decide) (by injection e.1))]
                · exact noC _ ht
              rw [this]
              rfl
            · exact absurd rfl h0

end Go.Proofs.Ytcmkiancbgmmhaa
