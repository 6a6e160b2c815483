import Derived.Test.YtdaheonodpkfgaaRefsC
namespace Go.Proofs.Ytdaheonodpkfgaa
open Go.Aw
set_option maxHeartbeats 1600000
set_option linter.unusedSimpArgs false
set_option linter.unusedVariables false

theorem esc_other (q : Bool) (c : UInt8) (h1 : c ≠ 38) (h2 : c ≠ 60) (h3 : c ≠ 62) (h4 : c = 34 → q = false) : esc1 q c = [c] := by
  unfold esc1
  rw [if_neg h1, if_neg h2, if_neg h3, if_neg (fun h => by rw [h4 h.1] at h; exact absurd h.2 (by decide))]

theorem u8_is {c d : UInt8} {n : Int} (h : (c.toNat : Int) = n) (hd : (d.toNat : Int) = n) : c = d := UInt8.toNat_inj.1 (by omega)

set_option maxRecDepth 100000 in
set_option maxHeartbeats 1000000 in
theorem Escape_ok (s : List UInt8) (q : Bool) (hs : s.length ≤ 17592186044416) : PureC Try.prog 19 [.d (.str s), .d (.bool q)] (.d (.str (escape q s))) := by
  refine pure_okT Try.wf Try.tab_ok Try.func19 (by decide +kernel) rfl rfl rfl rfl ?_
  have hel := (escape_len s.length q s (Nat.le_refl _)).2
  refine loopT Try.wf Try.tab_ok (fun n s' σ => ∃ (k : Nat) (out : List UInt8), n = s.length - k ∧ k ≤ s.length ∧ out ++ escape q (s.drop k) = escape q s ∧ s' = [(0, .d (.str s)), (1, .d (.bool q)), (5, .ref 0 0 0), (6, .d (.int .i64 k))] ∧ σ = ⟨1, [(0, .bld 52 5 out)]⟩)
    ⟨0, [], rfl, Nat.zero_le _, rfl, rfl, rfl⟩ (Mv.of [.old 0] rfl rfl rfl ⟨⟨rfl, rfl, rfl⟩, trivial⟩ ⟨rfl, rfl, ⟨rfl, rfl, rfl⟩, rfl, trivial⟩) ?_
  rintro _ _ _ ⟨k, out, rfl, hk, hI, rfl, rfl⟩
  have hol : out.length + (escape q (s.drop k)).length ≤ 6 * s.length := by have := congrArg List.length hI; simp at this; omega
  refine ⟨fun h => ?_, fun h => ?_⟩
  · have hlt : k < s.length := by have := of_decide_eq_true h; omega
    clear h
    have hg := getD_at s k hlt
    have hd : s.drop k = s[k] :: s.drop (k + 1) := List.drop_eq_getElem_cons hlt
    rw [hd] at hI hol
    have hu := s[k].toNat_lt
    refine ⟨⟨by omega, by omega⟩, ?_⟩
    rw [hg]
    generalize s[k] = c at *
    -- one more, by itself
    have one : ¬ (c = 194 ∧ ∃ t, s.drop (k + 1) = 160 :: t) → (out ++ esc1 q c) ++ escape q (s.drop (k + 1)) = escape q s ∧ out.length + (esc1 q c).length ≤ 6 * s.length := fun h => by
      rw [escape_cons q c _ h] at hI hol
      simp only [List.length_append] at hol
      exact ⟨by rw [List.append_assoc]; exact hI, by omega⟩
    refine ⟨fun h1 => ?_, fun h1 => ⟨fun h2 => ?_, fun h2 => ⟨fun h3 => ?_, fun h3 => ?_⟩⟩⟩
    · have hc : c = 38 := u8_is (of_decide_eq_true h1) rfl
      subst hc
      obtain ⟨o1, o2⟩ := one (by simp)
      refine CallsAbs.frame (WriteString_ok (out) ([38, 97, 109, 112, 59]) (by simp [esc1] at o2; simp; omega)) [.old 0] ⟨Nat.zero_le _, rfl, rfl, ⟨⟨rfl, rfl, rfl⟩, trivial⟩⟩ ⟨⟨rfl, rfl, rfl⟩, rfl, trivial⟩ ?_
      rintro _ _ ⟨rfl, rfl⟩
      refine ⟨.tup [.d (.int .i64 (([38, 97, 109, 112, 59] : List UInt8).length : Nat)), .nili], [(0, .bld 52 5 (out ++ [38, 97, 109, 112, 59]))], ⟨⟨rfl, rfl, rfl⟩, trivial⟩, rfl, ⟨rfl, trivial, trivial⟩, ?_⟩
      exact .inl ⟨⟨by omega, by omega⟩, _, _, _, ⟨k + 1, _, rfl, hlt, o1, rfl, rfl⟩, by omega, Mv.of [.old 0] rfl rfl rfl ⟨⟨rfl, rfl, rfl⟩, trivial⟩ ⟨rfl, rfl, ⟨rfl, rfl, rfl⟩, rfl, trivial⟩⟩
    · have hc : c = 60 := u8_is (of_decide_eq_true h2) rfl
      subst hc
      obtain ⟨o1, o2⟩ := one (by simp)
      refine CallsAbs.frame (WriteString_ok (out) ([38, 108, 116, 59]) (by simp [esc1] at o2; simp; omega)) [.old 0] ⟨Nat.zero_le _, rfl, rfl, ⟨⟨rfl, rfl, rfl⟩, trivial⟩⟩ ⟨⟨rfl, rfl, rfl⟩, rfl, trivial⟩ ?_
      rintro _ _ ⟨rfl, rfl⟩
      refine ⟨.tup [.d (.int .i64 (([38, 108, 116, 59] : List UInt8).length : Nat)), .nili], [(0, .bld 52 5 (out ++ [38, 108, 116, 59]))], ⟨⟨rfl, rfl, rfl⟩, trivial⟩, rfl, ⟨rfl, trivial, trivial⟩, ?_⟩
      exact .inl ⟨⟨by omega, by omega⟩, _, _, _, ⟨k + 1, _, rfl, hlt, o1, rfl, rfl⟩, by omega, Mv.of [.old 0] rfl rfl rfl ⟨⟨rfl, rfl, rfl⟩, trivial⟩ ⟨rfl, rfl, ⟨rfl, rfl, rfl⟩, rfl, trivial⟩⟩
    · have hc : c = 62 := u8_is (of_decide_eq_true h3) rfl
      subst hc
      obtain ⟨o1, o2⟩ := one (by simp)
      refine CallsAbs.frame (WriteString_ok (out) ([38, 103, 116, 59]) (by simp [esc1] at o2; simp; omega)) [.old 0] ⟨Nat.zero_le _, rfl, rfl, ⟨⟨rfl, rfl, rfl⟩, trivial⟩⟩ ⟨⟨rfl, rfl, rfl⟩, rfl, trivial⟩ ?_
      rintro _ _ ⟨rfl, rfl⟩
      refine ⟨.tup [.d (.int .i64 (([38, 103, 116, 59] : List UInt8).length : Nat)), .nili], [(0, .bld 52 5 (out ++ [38, 103, 116, 59]))], ⟨⟨rfl, rfl, rfl⟩, trivial⟩, rfl, ⟨rfl, trivial, trivial⟩, ?_⟩
      exact .inl ⟨⟨by omega, by omega⟩, _, _, _, ⟨k + 1, _, rfl, hlt, o1, rfl, rfl⟩, by omega, Mv.of [.old 0] rfl rfl rfl ⟨⟨rfl, rfl, rfl⟩, trivial⟩ ⟨rfl, rfl, ⟨rfl, rfl, rfl⟩, rfl, trivial⟩⟩
    · have c1 : c ≠ 38 := fun e => by subst e; exact absurd h1 (by decide)
      have c2 : c ≠ 60 := fun e => by subst e; exact absurd h2 (by decide)
      have c3 : c ≠ 62 := fun e => by subst e; exact absurd h3 (by decide)
      by_cases hq : c = 34 ∧ q = true
      · obtain ⟨rfl, rfl⟩ := hq
        obtain ⟨o1, o2⟩ := one (by simp)
        refine ⟨fun _ => ⟨fun _ => ?_, fun h => absurd h (by decide)⟩, fun h => absurd h (by decide)⟩
        refine CallsAbs.frame (WriteString_ok (out) ([38, 113, 117, 111, 116, 59]) (by simp [esc1] at o2; simp; omega)) [.old 0] ⟨Nat.zero_le _, rfl, rfl, ⟨⟨rfl, rfl, rfl⟩, trivial⟩⟩ ⟨⟨rfl, rfl, rfl⟩, rfl, trivial⟩ ?_
        rintro _ _ ⟨rfl, rfl⟩
        refine ⟨.tup [.d (.int .i64 (([38, 113, 117, 111, 116, 59] : List UInt8).length : Nat)), .nili], [(0, .bld 52 5 (out ++ [38, 113, 117, 111, 116, 59]))], ⟨⟨rfl, rfl, rfl⟩, trivial⟩, rfl, ⟨rfl, trivial, trivial⟩, ?_⟩
        exact .inl ⟨⟨by omega, by omega⟩, _, _, _, ⟨k + 1, _, rfl, hlt, o1, rfl, rfl⟩, by omega, Mv.of [.old 0] rfl rfl rfl ⟨⟨rfl, rfl, rfl⟩, trivial⟩ ⟨rfl, rfl, ⟨rfl, rfl, rfl⟩, rfl, trivial⟩⟩
      · have e1 : esc1 q c = [c] := esc_other q c c1 c2 c3 (fun h => by cases q with | true => exact absurd ⟨h, rfl⟩ hq | false => rfl)
        -- a byte as it is
        have byte : ¬ (c = 194 ∧ ∃ t, s.drop (k + 1) = 160 :: t) → (out ++ [c]) ++ escape q (s.drop (k + 1)) = escape q s ∧ out.length + 1 ≤ 6 * s.length := fun h => by
          obtain ⟨o1, o2⟩ := one h
          rw [e1] at o1 o2
          exact ⟨o1, o2⟩
        have rest : ∀ (b34 : Bool), b34 = decide ((c.toNat : Int) = 34) → b34 = true → q = true → False := fun b hb h1 h2 => hq ⟨u8_is (of_decide_eq_true (hb ▸ h1)) rfl, h2⟩
        clear h1 h2 h3
        refine ⟨fun h34 => ⟨fun hqt => absurd ⟨u8_is (of_decide_eq_true h34) rfl, hqt⟩ hq, fun hqf => ?_⟩, fun h34 => ?_⟩
        all_goals
          by_cases h194 : c = 194
          · subst h194
            refine ⟨fun _ => ?_, fun h => absurd h (by decide)⟩
            refine .inl ⟨⟨by omega, by omega⟩, fun hl => ?_, fun hl => ?_⟩
            · have hlt2 : k + 1 < s.length := by have := of_decide_eq_true hl; omega
              have hg2 : s.getD ((k : Int) + 1).toNat 0 = s[k + 1] := by have := getD_at s (k + 1) hlt2; simpa using this
              have hd2 : s.drop (k + 1) = s[k + 1] :: s.drop (k + 2) := List.drop_eq_getElem_cons hlt2
              refine .inl ⟨⟨by omega, by omega⟩, ⟨by omega, by omega⟩, ?_⟩
              rw [hg2]
              refine ⟨fun h5 => ?_, fun h5 => ?_⟩
              · have h160 : s[k + 1] = 160 := u8_is (of_decide_eq_true h5) rfl
                rw [h160] at hd2
                rw [hd2, escape_nb] at hI hol
                simp only [List.length_append] at hol
                refine CallsAbs.frame (WriteString_ok (out) ([38, 110, 98, 115, 112, 59]) (by simp at hol; simp; omega)) [.old 0] ⟨Nat.zero_le _, rfl, rfl, ⟨⟨rfl, rfl, rfl⟩, trivial⟩⟩ ⟨⟨rfl, rfl, rfl⟩, rfl, trivial⟩ ?_
                rintro _ _ ⟨rfl, rfl⟩
                refine ⟨.tup [.d (.int .i64 (([38, 110, 98, 115, 112, 59] : List UInt8).length : Nat)), .nili], [(0, .bld 52 5 (out ++ [38, 110, 98, 115, 112, 59]))], ⟨⟨rfl, rfl, rfl⟩, trivial⟩, rfl, ⟨rfl, trivial, trivial⟩, ?_⟩
                exact .inl ⟨⟨by omega, by omega⟩, .inl ⟨⟨by omega, by omega⟩, _, _, _, ⟨k + 2, _, rfl, hlt2, by rw [List.append_assoc]; exact hI, rfl, rfl⟩, by omega, Mv.of [.old 0] rfl rfl rfl ⟨⟨rfl, rfl, rfl⟩, trivial⟩ ⟨rfl, rfl, ⟨rfl, rfl, rfl⟩, congrArg (D.int .i64) (by simp; omega), trivial⟩⟩⟩
              · have n160 : s[k + 1] ≠ 160 := fun e => by rw [e] at h5; exact absurd h5 (by decide)
                obtain ⟨o1, o2⟩ := byte (by rintro ⟨_, t, ht⟩; rw [hd2] at ht; injection ht with h _; exact n160 h)
                refine CallsAbs.frame (WriteByte_ok (out) (194) (by omega)) [.old 0] ⟨Nat.zero_le _, rfl, rfl, ⟨⟨rfl, rfl, rfl⟩, trivial⟩⟩ ⟨⟨rfl, rfl, rfl⟩, rfl, trivial⟩ ?_
                rintro _ _ ⟨rfl, rfl⟩
                refine ⟨.nili, [(0, .bld 52 5 (out ++ [194]))], ⟨⟨rfl, rfl, rfl⟩, trivial⟩, rfl, trivial, ?_⟩
                exact .inl ⟨⟨by omega, by omega⟩, _, _, _, ⟨k + 1, _, rfl, hlt, o1, rfl, rfl⟩, by omega, Mv.of [.old 0] rfl rfl rfl ⟨⟨rfl, rfl, rfl⟩, trivial⟩ ⟨rfl, rfl, ⟨rfl, rfl, rfl⟩, rfl, trivial⟩⟩
            · have hge : s.length ≤ k + 1 := by have := of_decide_eq_false hl; omega
              obtain ⟨o1, o2⟩ := byte (by rintro ⟨_, t, ht⟩; rw [List.drop_eq_nil_of_le hge] at ht; cases ht)
              refine CallsAbs.frame (WriteByte_ok (out) (194) (by omega)) [.old 0] ⟨Nat.zero_le _, rfl, rfl, ⟨⟨rfl, rfl, rfl⟩, trivial⟩⟩ ⟨⟨rfl, rfl, rfl⟩, rfl, trivial⟩ ?_
              rintro _ _ ⟨rfl, rfl⟩
              refine ⟨.nili, [(0, .bld 52 5 (out ++ [194]))], ⟨⟨rfl, rfl, rfl⟩, trivial⟩, rfl, trivial, ?_⟩
              exact .inl ⟨⟨by omega, by omega⟩, _, _, _, ⟨k + 1, _, rfl, hlt, o1, rfl, rfl⟩, by omega, Mv.of [.old 0] rfl rfl rfl ⟨⟨rfl, rfl, rfl⟩, trivial⟩ ⟨rfl, rfl, ⟨rfl, rfl, rfl⟩, rfl, trivial⟩⟩
          · refine ⟨fun h => absurd (u8_is (of_decide_eq_true h) rfl) h194, fun _ => ?_⟩
            obtain ⟨o1, o2⟩ := byte (fun h => h194 h.1)
            refine CallsAbs.frame (WriteByte_ok (out) (c) (by omega)) [.old 0] ⟨Nat.zero_le _, rfl, rfl, ⟨⟨rfl, rfl, rfl⟩, trivial⟩⟩ ⟨⟨rfl, rfl, rfl⟩, rfl, trivial⟩ ?_
            rintro _ _ ⟨rfl, rfl⟩
            refine ⟨.nili, [(0, .bld 52 5 (out ++ [c]))], ⟨⟨rfl, rfl, rfl⟩, trivial⟩, rfl, trivial, ?_⟩
            exact .inl ⟨⟨by omega, by omega⟩, _, _, _, ⟨k + 1, _, rfl, hlt, o1, rfl, rfl⟩, by omega, Mv.of [.old 0] rfl rfl rfl ⟨⟨rfl, rfl, rfl⟩, trivial⟩ ⟨rfl, rfl, ⟨rfl, rfl, rfl⟩, rfl, trivial⟩⟩
  · have hk' : k = s.length := by have := of_decide_eq_false h; omega
    subst hk'
    rw [List.drop_length] at hI hol
    refine CallsAbs.frame (String_ok (out) (by omega)) [.old 0] ⟨Nat.zero_le _, rfl, rfl, ⟨⟨rfl, rfl, rfl⟩, trivial⟩⟩ ⟨⟨rfl, rfl, rfl⟩, trivial⟩ ?_
    rintro _ _ ⟨rfl, rfl⟩
    refine ⟨.d (.str (out)), [(0, .dead)], ⟨trivial, trivial⟩, rfl, rfl, ?_⟩
    exact ⟨_, _, fin_out rfl, congrArg (fun x => AV.d (.str x)) (by simpa [escape] using hI)⟩

end Go.Proofs.Ytdaheonodpkfgaa
