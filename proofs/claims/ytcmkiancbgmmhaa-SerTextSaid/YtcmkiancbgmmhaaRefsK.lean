import Derived.Test.YtcmkiancbgmmhaaRefsJ
import Derived.Test.YtcmkiancbgmmhaaRefsA
namespace Go.Proofs.Ytcmkiancbgmmhaa
open Go.Aw
set_option maxHeartbeats 1600000
set_option linter.unusedSimpArgs false
set_option linter.unusedVariables false

theorem char160 : fixN 160 = 160 ∧ enc 160 = [194, 160] := by decide +kernel

set_option maxRecDepth 100000 in
theorem rEscape_ok (s : List UInt8) (q : Bool) (hs : s.length ≤ 4398046511104) : PureC Try.prog 29 [.d (.str s), .d (.bool q)] (.d (.str (escape q s))) := by
  refine pure_okT Try.wf Try.tab_ok Try.func29 (by decide +kernel) rfl rfl rfl rfl ?_
  have hel := (escape_len s.length q s (Nat.le_refl _)).2
  rw [← chars_escape q s.length s (Nat.le_refl _)] at hel ⊢
  have hcl := chars_len s.length s (Nat.le_refl _)
  have c0 := Char_ok 160 (by decide) (by decide)
  rw [char160.1, char160.2] at c0
  refine PureC.use (Chars_ok s hs) ?_
  generalize chars s = l at *
  have hn := strsD_len l
  refine loopT Try.wf Try.tab_ok (fun n s' σ => ∃ (k : Nat) (out : List UInt8), n = l.length - k ∧ k ≤ l.length ∧ out ++ (l.drop k).flatMap (escC q) = l.flatMap (escC q) ∧ s' = [(1, .d (.bool q)), (5, .d (.sl (strsD l))), (6, .d (.str out)), (7, .d (.int .i64 k))] ∧ σ = ⟨0, []⟩)
    ⟨0, [], rfl, Nat.zero_le _, rfl, rfl, rfl⟩ (Mv.of [] rfl rfl rfl trivial ⟨rfl, rfl, rfl, rfl, trivial⟩) ?_
  rintro _ _ _ ⟨k, out, rfl, hk, hI, rfl, rfl⟩
  refine ⟨fun h => ?_, fun h => ?_⟩
  · have hlt : k < l.length := by have := of_decide_eq_true h; rw [hn] at this; omega
    refine ⟨⟨by omega, by rw [hn]; omega⟩, _, strsD_get l k hlt, rfl, _, rfl, ?_⟩
    rw [List.drop_eq_getElem_cons hlt, List.flatMap_cons] at hI
    have hlen : out.length + (escC q l[k]).length ≤ 6 * s.length := by have := congrArg List.length hI; simp only [List.length_append] at this; omega
    have go : ∀ (t : List UInt8), escC q l[k] = t → out.length + t.length ≤ 9223372036854775807 ∧ ((out ++ t) ++ (l.drop (k + 1)).flatMap (escC q) = l.flatMap (escC q)) := fun t ht => by
      rw [ht] at hI hlen
      exact ⟨by omega, by rw [List.append_assoc]; exact hI⟩
    generalize l[k] = t at *
    by_cases h1 : t = [38]
    · obtain ⟨g1, g2⟩ := go [38, 97, 109, 112, 59] (by unfold escC; rw [if_pos h1])
      subst h1
      refine ⟨fun _ => ?_, fun h => absurd h (by decide)⟩
      exact ⟨g1, .inl ⟨⟨by omega, by omega⟩, _, _, _, ⟨k + 1, _, rfl, hlt, g2, rfl, rfl⟩, by omega, Mv.of [] rfl rfl rfl trivial ⟨rfl, rfl, rfl, rfl, trivial⟩⟩⟩
    · refine ⟨fun h => absurd (of_decide_eq_true h) h1, fun _ => ?_⟩
      by_cases h2 : t = [60]
      · obtain ⟨g1, g2⟩ := go [38, 108, 116, 59] (by unfold escC; rw [if_neg h1, if_pos h2])
        subst h2
        refine ⟨fun _ => ?_, fun h => absurd h (by decide)⟩
        exact ⟨g1, .inl ⟨⟨by omega, by omega⟩, _, _, _, ⟨k + 1, _, rfl, hlt, g2, rfl, rfl⟩, by omega, Mv.of [] rfl rfl rfl trivial ⟨rfl, rfl, rfl, rfl, trivial⟩⟩⟩
      · refine ⟨fun h => absurd (of_decide_eq_true h) h2, fun _ => ?_⟩
        by_cases h3 : t = [62]
        · obtain ⟨g1, g2⟩ := go [38, 103, 116, 59] (by unfold escC; rw [if_neg h1, if_neg h2, if_pos h3])
          subst h3
          refine ⟨fun _ => ?_, fun h => absurd h (by decide)⟩
          exact ⟨g1, .inl ⟨⟨by omega, by omega⟩, _, _, _, ⟨k + 1, _, rfl, hlt, g2, rfl, rfl⟩, by omega, Mv.of [] rfl rfl rfl trivial ⟨rfl, rfl, rfl, rfl, trivial⟩⟩⟩
        · refine ⟨fun h => absurd (of_decide_eq_true h) h3, fun _ => ?_⟩
          refine PureC.use c0 ?_
          by_cases h4 : t = [194, 160]
          · obtain ⟨g1, g2⟩ := go [38, 110, 98, 115, 112, 59] (by unfold escC; rw [if_neg h1, if_neg h2, if_neg h3, if_pos h4])
            subst h4
            refine ⟨fun _ => ?_, fun h => absurd h (by decide)⟩
            exact ⟨g1, .inl ⟨⟨by omega, by omega⟩, _, _, _, ⟨k + 1, _, rfl, hlt, g2, rfl, rfl⟩, by omega, Mv.of [] rfl rfl rfl trivial ⟨rfl, rfl, rfl, rfl, trivial⟩⟩⟩
          · refine ⟨fun h => absurd (of_decide_eq_true h) h4, fun _ => ?_⟩
            have rest : escC q t = if t = [34] ∧ q = true then [38, 113, 117, 111, 116, 59] else t := by unfold escC; rw [if_neg h1, if_neg h2, if_neg h3, if_neg h4]
            by_cases h5 : t = [34]
            · subst h5
              refine ⟨fun _ => ?_, fun h => absurd h (by decide)⟩
              cases q with
              | true =>
                obtain ⟨g1, g2⟩ := go [38, 113, 117, 111, 116, 59] (by rw [rest]; simp)
                refine ⟨fun _ => ?_, fun h => absurd h (by decide)⟩
                exact ⟨g1, .inl ⟨⟨by omega, by omega⟩, _, _, _, ⟨k + 1, _, rfl, hlt, g2, rfl, rfl⟩, by omega, Mv.of [] rfl rfl rfl trivial ⟨rfl, rfl, rfl, rfl, trivial⟩⟩⟩
              | false =>
                obtain ⟨g1, g2⟩ := go [34] (by rw [rest]; simp)
                refine ⟨fun h => absurd h (by decide), fun _ => ?_⟩
                exact ⟨g1, .inl ⟨⟨by omega, by omega⟩, _, _, _, ⟨k + 1, _, rfl, hlt, g2, rfl, rfl⟩, by omega, Mv.of [] rfl rfl rfl trivial ⟨rfl, rfl, rfl, rfl, trivial⟩⟩⟩
            · obtain ⟨g1, g2⟩ := go t (by rw [rest, if_neg (fun h => h5 h.1)])
              refine ⟨fun h => absurd (of_decide_eq_true h) h5, fun _ => ?_⟩
              exact ⟨g1, .inl ⟨⟨by omega, by omega⟩, _, _, _, ⟨k + 1, _, rfl, hlt, g2, rfl, rfl⟩, by omega, Mv.of [] rfl rfl rfl trivial ⟨rfl, rfl, rfl, rfl, trivial⟩⟩⟩
  · have hk' : k = l.length := by have := of_decide_eq_false h; rw [hn] at this; omega
    subst hk'
    rw [List.drop_length, List.flatMap_nil, List.append_nil] at hI
    exact ⟨_, _, fin_out rfl, congrArg (fun x => AV.d (.str x)) hI⟩

end Go.Proofs.Ytcmkiancbgmmhaa
