import Derived.Test.YtdaheonodpkfgaaTokC
namespace Go.Proofs.Ytdaheonodpkfgaa
open Go.Aw
set_option maxHeartbeats 1600000
set_option linter.unusedSimpArgs false
set_option linter.unusedVariables false

theorem hasPre_len {s t : List UInt8} (h : hasPre s t = true) : t.length ≤ s.length := by
  simp only [hasPre, Bool.and_eq_true, decide_eq_true_eq] at h
  exact h.1
def toN (t s : List UInt8) : Nat := runN (fun x => !hasPre x t) s
theorem toN_lt {t s : List UInt8} (h : toN t s ≠ s.length) : toN t s + t.length ≤ s.length := by
  have h1 := runN_le (fun x => !hasPre x t) s
  have h2 := runN_stop (fun x => !hasPre x t) s (by unfold toN at h; omega)
  have h3 : hasPre (s.drop (runN (fun x => !hasPre x t) s)) t = true := by simpa using h2
  have h4 := hasPre_len h3
  rw [List.length_drop] at h4
  unfold toN at h ⊢
  omega
theorem store_out (s : List UInt8) (n n' : Nat) (l : List Tok) (v : Int) (h : v = n') : orel (phi 2 []) (outO l) (outO l) ∧ orel (phi 2 []) (rdO s n' l.length) (.rows (3, 43) [[.d (.str s), .d (.int .i64 v), .own 1 0 l.length]]) ∧ True := by
  subst h
  exact ⟨⟨rfl, .inl ⟨rfl, dataA_pure _⟩⟩, ⟨rfl, .inr ⟨⟨rfl, rfl, ⟨rfl, rfl, rfl⟩, trivial⟩, trivial⟩⟩, trivial⟩

set_option maxRecDepth 100000 in
theorem over_ok (s : List UInt8) (n : Nat) (l : List Tok) (t : List UInt8) (ht : t ≠ []) (htl : t.length ≤ 1000) (hn : n ≤ s.length) (hs : s.length ≤ 1000000) :
    CallsAbs Try.prog 36 [.ref 0 0 0, .d (.str t)] (rdS s n l) fun r σ' => r = .d (.str ((s.drop n).take (toN t (s.drop n)))) ∧ σ' = rdS s (s.length - ((s.drop n).drop (toN t (s.drop n) + t.length)).length) l := by
  have hd1 := left_any s n l hn (rdS s n l) rfl rfl
  have hc1 := Index_any (s.drop n) t (by simp; omega) ht
  have hdl : (s.drop n).length = s.length - n := by simp
  have hle : toN t (s.drop n) ≤ (s.drop n).length := runN_le _ _
  have hlt := @toN_lt t (s.drop n)
  unfold idxT at hc1
  rw [show runN (fun x => !hasPre x t) (s.drop n) = toN t (s.drop n) from rfl] at hc1
  have hdr : ((s.drop n).drop (toN t (s.drop n) + t.length)).length = s.length - n - (toN t (s.drop n) + t.length) := by rw [List.length_drop, hdl]
  rw [hdr]
  generalize hm : toN t (s.drop n) = m at *
  generalize hr : s.drop n = r at *
  refine fn_okT Try.wf Try.tab_ok Try.func36 (by decide +kernel) rfl rfl ?_
  by_cases h : m = r.length
  · rw [if_pos h] at hc1
    clear hlt
    repeat' (first | refine PureC.use hc1 ?_ |           refine CallsAbs.use1 hd1 ?_ |            refine ⟨fun _ => ?_, fun h => absurd h (by decide)⟩ | refine ⟨fun h => absurd h (by decide), fun _ => ?_⟩ | (refine ⟨fun h => ?_, fun h => ?_⟩ <;> (try simp only [decide_eq_true_eq, decide_eq_false_iff_not, Bool.not_eq_true', Bool.not_eq_false', Bool.not_eq_true, Bool.not_eq_false, not_true_eq_false, beq_iff_eq, beq_eq_false_iff_ne, ne_eq, decide_eq_decide, true_iff, false_iff, iff_true, iff_false, true_and, and_true, false_or, or_false, Bool.and_true, Bool.and_eq_true, Bool.and_eq_false_iff, Bool.or_eq_true, Bool.or_eq_false_iff, List.length_cons, List.length_nil] at h) <;> (try (exfalso; first | omega | exact h rfl | (cases h; done) | exact absurd h (by assumption)))) | refine ⟨⟨by (first | omega | (simp only [List.length_append, List.length_cons, List.length_nil, List.length_drop, List.length_take]; omega)), by (first | omega | (simp only [List.length_append, List.length_cons, List.length_nil, List.length_drop, List.length_take]; omega))⟩, _, by assumption, by rfl, ?_⟩ | refine .inl ⟨⟨by (first | omega | (simp only [List.length_append, List.length_cons, List.length_nil, List.length_drop, List.length_take]; omega)), by (first | omega | (simp only [List.length_append, List.length_cons, List.length_nil, List.length_drop, List.length_take]; omega))⟩, ?_⟩ | refine ⟨⟨by (first | omega | (simp only [List.length_append, List.length_cons, List.length_nil, List.length_drop, List.length_take]; omega)), by (first | omega | (simp only [List.length_append, List.length_cons, List.length_nil, List.length_drop, List.length_take]; omega))⟩, ?_⟩ | refine ⟨⟨by (first | omega | (simp only [List.length_append, List.length_cons, List.length_nil, List.length_drop, List.length_take]; omega)), by (first | omega | (simp only [List.length_append, List.length_cons, List.length_nil, List.length_drop, List.length_take]; omega)), by (first | omega | (simp only [List.length_append, List.length_cons, List.length_nil, List.length_drop, List.length_take]; omega))⟩, ?_⟩ | refine ⟨.inl rfl, ?_⟩ | refine ⟨.inr (.inl (by (first | omega | (simp only [List.length_append, List.length_cons, List.length_nil, List.length_drop, List.length_take]; omega)))), ?_⟩ | refine ⟨_, rfl, rfl, by (first | exact Nat.le_refl _ | exact Nat.le_of_ble_eq_true rfl | decide), ?_⟩ | refine ⟨_, rfl, by (first | exact Nat.le_refl _ | exact Nat.le_of_ble_eq_true rfl | decide), ?_⟩ | refine ⟨by (first | exact Nat.le_refl _ | exact Nat.le_of_ble_eq_true rfl | decide | exact rfl), ?_⟩ | refine ⟨show _ ≤ (9223372036854775807 : Nat) by (first | omega | (simp only [List.length_append, List.length_cons, List.length_nil, List.length_drop, List.length_take]; omega)), ?_⟩ | refine ⟨show _ ≠ (0 : Int) by (first | omega | (simp only [List.length_append, List.length_cons, List.length_nil, List.length_drop, List.length_take]; omega)), ?_⟩ | refine ⟨_, rfl, _, rfl, ?_⟩ | refine ⟨_, by assumption, Nat.le_of_ble_eq_true rfl, ?_⟩ | refine ⟨_, by assumption, _, rfl, ?_⟩ | refine ⟨_, rfl, ?_⟩ | fail)
    refine ⟨.d (.str (r.take m)), rdS s (s.length - (s.length - n - (m + t.length))) l, ?_, rfl, rfl⟩
    rw [h, List.take_length]
    exact fin_mv [] rfl rfl rfl (store_out s n _ l _ (by omega)) rfl
  · rw [if_neg h] at hc1
    have h1 := hlt h
    clear hlt
    repeat' (first | refine PureC.use hc1 ?_ |           refine CallsAbs.use1 hd1 ?_ |            refine ⟨fun _ => ?_, fun h => absurd h (by decide)⟩ | refine ⟨fun h => absurd h (by decide), fun _ => ?_⟩ | (refine ⟨fun h => ?_, fun h => ?_⟩ <;> (try simp only [decide_eq_true_eq, decide_eq_false_iff_not, Bool.not_eq_true', Bool.not_eq_false', Bool.not_eq_true, Bool.not_eq_false, not_true_eq_false, beq_iff_eq, beq_eq_false_iff_ne, ne_eq, decide_eq_decide, true_iff, false_iff, iff_true, iff_false, true_and, and_true, false_or, or_false, Bool.and_true, Bool.and_eq_true, Bool.and_eq_false_iff, Bool.or_eq_true, Bool.or_eq_false_iff, List.length_cons, List.length_nil] at h) <;> (try (exfalso; first | omega | exact h rfl | (cases h; done) | exact absurd h (by assumption)))) | refine ⟨⟨by (first | omega | (simp only [List.length_append, List.length_cons, List.length_nil, List.length_drop, List.length_take]; omega)), by (first | omega | (simp only [List.length_append, List.length_cons, List.length_nil, List.length_drop, List.length_take]; omega))⟩, _, by assumption, by rfl, ?_⟩ | refine .inl ⟨⟨by (first | omega | (simp only [List.length_append, List.length_cons, List.length_nil, List.length_drop, List.length_take]; omega)), by (first | omega | (simp only [List.length_append, List.length_cons, List.length_nil, List.length_drop, List.length_take]; omega))⟩, ?_⟩ | refine ⟨⟨by (first | omega | (simp only [List.length_append, List.length_cons, List.length_nil, List.length_drop, List.length_take]; omega)), by (first | omega | (simp only [List.length_append, List.length_cons, List.length_nil, List.length_drop, List.length_take]; omega))⟩, ?_⟩ | refine ⟨⟨by (first | omega | (simp only [List.length_append, List.length_cons, List.length_nil, List.length_drop, List.length_take]; omega)), by (first | omega | (simp only [List.length_append, List.length_cons, List.length_nil, List.length_drop, List.length_take]; omega)), by (first | omega | (simp only [List.length_append, List.length_cons, List.length_nil, List.length_drop, List.length_take]; omega))⟩, ?_⟩ | refine ⟨.inl rfl, ?_⟩ | refine ⟨.inr (.inl (by (first | omega | (simp only [List.length_append, List.length_cons, List.length_nil, List.length_drop, List.length_take]; omega)))), ?_⟩ | refine ⟨_, rfl, rfl, by (first | exact Nat.le_refl _ | exact Nat.le_of_ble_eq_true rfl | decide), ?_⟩ | refine ⟨_, rfl, by (first | exact Nat.le_refl _ | exact Nat.le_of_ble_eq_true rfl | decide), ?_⟩ | refine ⟨by (first | exact Nat.le_refl _ | exact Nat.le_of_ble_eq_true rfl | decide | exact rfl), ?_⟩ | refine ⟨show _ ≤ (9223372036854775807 : Nat) by (first | omega | (simp only [List.length_append, List.length_cons, List.length_nil, List.length_drop, List.length_take]; omega)), ?_⟩ | refine ⟨show _ ≠ (0 : Int) by (first | omega | (simp only [List.length_append, List.length_cons, List.length_nil, List.length_drop, List.length_take]; omega)), ?_⟩ | refine ⟨_, rfl, _, rfl, ?_⟩ | refine ⟨_, by assumption, Nat.le_of_ble_eq_true rfl, ?_⟩ | refine ⟨_, by assumption, _, rfl, ?_⟩ | refine ⟨_, rfl, ?_⟩ | fail)
    refine ⟨.d (.str (r.take m)), rdS s (s.length - (s.length - n - (m + t.length))) l, ?_, rfl, rfl⟩
    exact fin_mv [] rfl rfl rfl (store_out s n _ l _ (by omega)) (congrArg D.str (by rw [Int.toNat_natCast]; rfl))

end Go.Proofs.Ytdaheonodpkfgaa
