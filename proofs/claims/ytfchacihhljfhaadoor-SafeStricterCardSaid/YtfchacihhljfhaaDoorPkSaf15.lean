/- What is proved here serves the claim: the walk over the code and the plain laws, part 15 of 16. -/
import Derived.Test.YtfchacihhljfhaaDoorPkSaf14
namespace Go.Proofs.YtfchacihhljfhaaDoor
open Go.Aw
set_option maxHeartbeats 1600000
set_option linter.unusedSimpArgs false
set_option linter.unusedVariables false
theorem in45 (c : UInt8) : decide (c ∈ [(45 : UInt8)]) = decide (c.toNat = 45) := by
  rw [decide_eq_decide, List.mem_singleton]
  constructor
  · intro h; rw [h]; rfl
  · intro h; exact UInt8.toNat_inj.1 h
set_option maxRecDepth 100000 in
theorem word_ok (s : List UInt8) (hs : s.length ≤ 4611686018427387904) : PureC Tryd.prog 40 [.d (.str s)] (.d (.bool (wordB s))) := by
  refine pure_okT Tryd.wf Tryd.tab_ok Tryd.func40 (by decide +kernel) rfl rfl rfl rfl ?_
  refine loopT Tryd.wf Tryd.tab_ok (fun n s' σ => ∃ k : Nat, n = s.length - k ∧ k ≤ s.length ∧ upto s [45] k = true ∧ s' = [(0, .d (.str s)), (6, .d (.int .i64 s.length)), (7, .d (.int .i64 k))] ∧ σ = ⟨0, []⟩)
    ⟨0, rfl, Nat.zero_le _, rfl, rfl, rfl⟩ (Mv.of [] rfl rfl rfl trivial ⟨rfl, rfl, rfl, trivial⟩) ?_
  rintro _ _ _ ⟨k, rfl, hk, hI, rfl, rfl⟩
  refine ⟨fun h => ?_, fun h => ?_⟩
  · have hlt : k < s.length := by have := of_decide_eq_true h; omega
    clear h
    have hst := upto_step s [45] k hlt
    rw [hI, Bool.true_and, ← getD_at s k hlt, in45] at hst
    have no : upto s [45] (k + 1) = false → wordB s = false := fun h => by
      unfold wordB; rw [upto_bad s [45] (k + 1) hlt h]; rfl
    unfold letB digB at hst
    repeat' (first |                        refine ⟨fun _ => ?_, fun h => absurd h (by decide)⟩ | refine ⟨fun h => absurd h (by decide), fun _ => ?_⟩ | (refine ⟨fun h => ?_, fun h => ?_⟩ <;> (try simp only [decide_eq_true_eq, decide_eq_false_iff_not, Bool.not_eq_true', Bool.not_eq_false', Bool.not_eq_true, Bool.not_eq_false, not_true_eq_false, beq_iff_eq, beq_eq_false_iff_ne, ne_eq, decide_eq_decide, true_iff, false_iff, iff_true, iff_false, true_and, and_true, false_or, or_false, Bool.and_true, Bool.and_eq_true, Bool.and_eq_false_iff, Bool.or_eq_true, Bool.or_eq_false_iff, List.length_cons, List.length_nil] at h) <;> (try (exfalso; first | omega | exact h rfl | (cases h; done) | exact absurd h (by assumption) | exact h (by assumption) | (simp at h; done)))) | refine ⟨⟨by (first | omega | (simp only [lenS]; omega)), by (first | omega | (simp only [lenS]; omega))⟩, _, by assumption, by rfl, ?_⟩ | refine .inl ⟨⟨by (first | omega | (simp only [lenS]; omega)), by (first | omega | (simp only [lenS]; omega))⟩, ?_⟩ | refine ⟨⟨by (first | omega | (simp only [lenS]; omega)), by (first | omega | (simp only [lenS]; omega))⟩, ?_⟩ | refine ⟨⟨by (first | omega | (simp only [lenS]; omega)), by (first | omega | (simp only [lenS]; omega)), by (first | omega | (simp only [lenS]; omega))⟩, ?_⟩ | refine ⟨.inl rfl, ?_⟩ | refine ⟨.inr (.inl (by (first | omega | (simp only [lenS]; omega)))), ?_⟩ | refine ⟨_, rfl, rfl, by (first | exact Nat.le_refl _ | exact Nat.le_of_ble_eq_true rfl | decide), ?_⟩ | refine ⟨_, rfl, by (first | exact Nat.le_refl _ | exact Nat.le_of_ble_eq_true rfl | decide), ?_⟩ | refine ⟨by (first | exact Nat.le_refl _ | exact Nat.le_of_ble_eq_true rfl | decide | exact rfl), ?_⟩ | refine ⟨show _ ≤ (9223372036854775807 : Nat) by (first | omega | (simp only [lenS]; omega)), ?_⟩ | refine ⟨show _ ≠ (0 : Int) by (first | omega | (simp only [lenS]; omega)), ?_⟩ | refine ⟨_, rfl, _, rfl, ?_⟩ | refine ⟨_, by assumption, Nat.le_of_ble_eq_true rfl, ?_⟩ | refine ⟨_, by assumption, _, rfl, ?_⟩ | refine ⟨_, rfl, ?_⟩ | fail)
    all_goals first
      | exact ⟨_, _, _, ⟨k + 1, rfl, hlt, by rw [hst]; (rw [Bool.eq_iff_iff]; simp only [Bool.or_eq_true, Bool.and_eq_true, Bool.not_eq_true', decide_eq_true_eq, decide_eq_false_iff_not, iff_true, iff_false, true_iff, false_iff, not_and, Bool.false_eq_true, reduceCtorEq, and_false, false_and, and_true, true_and, not_false_eq_true, false_or, or_false] <;> omega), rfl, rfl⟩, by omega, Mv.of [] rfl rfl rfl trivial ⟨rfl, rfl, rfl, trivial⟩⟩
      | exact ⟨_, _, fin_out rfl, congrArg (fun b => AV.d (.bool b)) (no (by rw [hst]; (rw [Bool.eq_iff_iff]; simp only [Bool.or_eq_true, Bool.and_eq_true, Bool.not_eq_true', decide_eq_true_eq, decide_eq_false_iff_not, iff_true, iff_false, true_iff, false_iff, not_and, Bool.false_eq_true, reduceCtorEq, and_false, false_and, and_true, true_and, not_false_eq_true, false_or, or_false] <;> omega))).symm⟩
  · have hk' : k = s.length := by have := of_decide_eq_false h; omega
    subst hk'
    have he := upto_end s [45]
    rw [hI, Bool.true_and] at he
    repeat' (first |                        refine ⟨fun _ => ?_, fun h => absurd h (by decide)⟩ | refine ⟨fun h => absurd h (by decide), fun _ => ?_⟩ | (refine ⟨fun h => ?_, fun h => ?_⟩ <;> (try simp only [decide_eq_true_eq, decide_eq_false_iff_not, Bool.not_eq_true', Bool.not_eq_false', Bool.not_eq_true, Bool.not_eq_false, not_true_eq_false, beq_iff_eq, beq_eq_false_iff_ne, ne_eq, decide_eq_decide, true_iff, false_iff, iff_true, iff_false, true_and, and_true, false_or, or_false, Bool.and_true, Bool.and_eq_true, Bool.and_eq_false_iff, Bool.or_eq_true, Bool.or_eq_false_iff, List.length_cons, List.length_nil] at h) <;> (try (exfalso; first | omega | exact h rfl | (cases h; done) | exact absurd h (by assumption) | exact h (by assumption) | (simp at h; done)))) | refine ⟨⟨by (first | omega | (simp only [lenS]; omega)), by (first | omega | (simp only [lenS]; omega))⟩, _, by assumption, by rfl, ?_⟩ | refine .inl ⟨⟨by (first | omega | (simp only [lenS]; omega)), by (first | omega | (simp only [lenS]; omega))⟩, ?_⟩ | refine ⟨⟨by (first | omega | (simp only [lenS]; omega)), by (first | omega | (simp only [lenS]; omega))⟩, ?_⟩ | refine ⟨⟨by (first | omega | (simp only [lenS]; omega)), by (first | omega | (simp only [lenS]; omega)), by (first | omega | (simp only [lenS]; omega))⟩, ?_⟩ | refine ⟨.inl rfl, ?_⟩ | refine ⟨.inr (.inl (by (first | omega | (simp only [lenS]; omega)))), ?_⟩ | refine ⟨_, rfl, rfl, by (first | exact Nat.le_refl _ | exact Nat.le_of_ble_eq_true rfl | decide), ?_⟩ | refine ⟨_, rfl, by (first | exact Nat.le_refl _ | exact Nat.le_of_ble_eq_true rfl | decide), ?_⟩ | refine ⟨by (first | exact Nat.le_refl _ | exact Nat.le_of_ble_eq_true rfl | decide | exact rfl), ?_⟩ | refine ⟨show _ ≤ (9223372036854775807 : Nat) by (first | omega | (simp only [lenS]; omega)), ?_⟩ | refine ⟨show _ ≠ (0 : Int) by (first | omega | (simp only [lenS]; omega)), ?_⟩ | refine ⟨_, rfl, _, rfl, ?_⟩ | refine ⟨_, by assumption, Nat.le_of_ble_eq_true rfl, ?_⟩ | refine ⟨_, by assumption, _, rfl, ?_⟩ | refine ⟨_, rfl, ?_⟩ | fail)
    all_goals exact ⟨_, _, fin_out rfl, congrArg (fun b => AV.d (.bool b)) (by unfold wordB; rw [← he]; ((                      try clear no; skip); first | rfl | (subst_vars; rfl) | (simp_all; done) | (simp_all; omega) | (simp_all; grind)))⟩
/-- What holds of a list up to a place. -/
def listU (f : List UInt8 → Bool) (l : List (List UInt8)) (k : Nat) : Bool := risesB (l.take k) && (l.take k).all f
theorem listU_step (f : List UInt8 → Bool) (l : List (List UInt8)) (k : Nat) (h : k < l.length) : listU f l (k + 1) = (listU f l k && ((decide (k = 0) || Op.bytesLess (l[k - 1]'(by omega)) l[k]) && f l[k])) := by
  unfold listU
  rw [risesB_step l k h, all_step f l k h]
  generalize risesB (l.take k) = a
  generalize (l.take k).all f = b
  generalize f l[k] = d
  generalize (decide (k = 0) || Op.bytesLess (l[k - 1]'(by omega)) l[k]) = e
  cases a <;> cases b <;> cases d <;> cases e <;> rfl
theorem listU_bad (f : List UInt8 → Bool) (l : List (List UInt8)) (k : Nat) (h : listU f l k = false) : listB f l = false := by
  unfold listU at h
  unfold listB
  rw [Bool.and_eq_false_iff] at h
  rcases h with h | h
  · have := risesB_pre _ (l.drop k) h
    rw [List.take_append_drop] at this
    rw [this]; rfl
  · rw [all_pre f l k h]; simp
set_option maxRecDepth 100000 in
theorem list_gen (σ0 : Store) (cap : List AV) (k0 : FuncId) (f : List UInt8 → Bool) (l : List (List UInt8)) (hl : l.length ≤ 4611686018427387903)
    (hmv : ∀ x y : St, vrelS (phi σ0.n []) x y → Mv σ0.n x σ0 y σ0) (hcap : vrelL (phi σ0.n []) cap cap)
    (hf : ∀ s ∈ l, CallsAbs Tryd.prog k0 ([.d (.str s)] ++ cap) σ0 fun r σ' => r = .d (.bool (f s)) ∧ σ' = σ0) :
    CallsAbs Tryd.prog 38 [.d (.sl (strsD l)), .fn (.func k0) [] cap] σ0 fun r σ' => r = .d (.bool (listB f l)) ∧ σ' = σ0 := by
  refine fn_okT Tryd.wf Tryd.tab_ok Tryd.func38 (by decide +kernel) rfl rfl ?_
  have hn := strsD_len l
  refine loopT Tryd.wf Tryd.tab_ok (fun n s' σ => ∃ k : Nat, n = l.length - k ∧ k ≤ l.length ∧ listU f l k = true ∧ s' = [(0, .d (.sl (strsD l))), (1, .fn (.func k0) [] cap), (7, .d (.sl (strsD l))), (8, .d (.int .i64 l.length)), (9, .d (.int .i64 k))] ∧ σ = σ0)
    ⟨0, rfl, Nat.zero_le _, rfl, rfl, rfl⟩ (hmv _ _ ⟨rfl, ⟨rfl, trivial, hcap⟩, rfl, congrArg (fun n : Nat => D.int .i64 n) hn.symm, rfl, trivial⟩) ?_
  rintro _ _ _ ⟨k, rfl, hk, hI, rfl, rfl⟩
  refine ⟨fun h => ?_, fun h => ?_⟩
  · have hlt : k < l.length := by have := of_decide_eq_true h; omega
    clear h
    have hg := strsD_get l k hlt
    have hg2 := strsD_getm l k hlt
    have hd1 := hf _ (List.getElem_mem hlt)
    have hst := listU_step f l k hlt
    rw [hI, Bool.true_and] at hst
    have no := listU_bad f l (k + 1)
    repeat' (first |            refine CallsAbs.use1 hd1 ?_ |            refine ⟨fun _ => ?_, fun h => absurd h (by decide)⟩ | refine ⟨fun h => absurd h (by decide), fun _ => ?_⟩ | (refine ⟨fun h => ?_, fun h => ?_⟩ <;> (try simp only [decide_eq_true_eq, decide_eq_false_iff_not, Bool.not_eq_true', Bool.not_eq_false', Bool.not_eq_true, Bool.not_eq_false, not_true_eq_false, beq_iff_eq, beq_eq_false_iff_ne, ne_eq, decide_eq_decide, true_iff, false_iff, iff_true, iff_false, true_and, and_true, false_or, or_false, Bool.and_true, Bool.and_eq_true, Bool.and_eq_false_iff, Bool.or_eq_true, Bool.or_eq_false_iff, List.length_cons, List.length_nil] at h) <;> (try (exfalso; first | omega | exact h rfl | (cases h; done) | exact absurd h (by assumption) | exact h (by assumption) | (simp at h; done)))) | refine ⟨⟨by (first | omega | (simp only [lenS]; omega)), by (first | omega | (simp only [lenS]; omega))⟩, _, by assumption, by rfl, ?_⟩ | refine .inl ⟨⟨by (first | omega | (simp only [lenS]; omega)), by (first | omega | (simp only [lenS]; omega))⟩, ?_⟩ | refine ⟨⟨by (first | omega | (simp only [lenS]; omega)), by (first | omega | (simp only [lenS]; omega))⟩, ?_⟩ | refine ⟨⟨by (first | omega | (simp only [lenS]; omega)), by (first | omega | (simp only [lenS]; omega)), by (first | omega | (simp only [lenS]; omega))⟩, ?_⟩ | refine ⟨.inl rfl, ?_⟩ | refine ⟨.inr (.inl (by (first | omega | (simp only [lenS]; omega)))), ?_⟩ | refine ⟨_, rfl, rfl, by (first | exact Nat.le_refl _ | exact Nat.le_of_ble_eq_true rfl | decide), ?_⟩ | refine ⟨_, rfl, by (first | exact Nat.le_refl _ | exact Nat.le_of_ble_eq_true rfl | decide), ?_⟩ | refine ⟨by (first | exact Nat.le_refl _ | exact Nat.le_of_ble_eq_true rfl | decide | exact rfl), ?_⟩ | refine ⟨show _ ≤ (9223372036854775807 : Nat) by (first | omega | (simp only [lenS]; omega)), ?_⟩ | refine ⟨show _ ≠ (0 : Int) by (first | omega | (simp only [lenS]; omega)), ?_⟩ | refine ⟨_, rfl, _, rfl, ?_⟩ | refine ⟨_, by assumption, Nat.le_of_ble_eq_true rfl, ?_⟩ | refine ⟨_, by assumption, _, rfl, ?_⟩ | refine ⟨_, rfl, ?_⟩ | fail)
    all_goals first
      | exact ⟨_, _, _, ⟨k + 1, rfl, hlt, by rw [hst]; ((try clear hd1;                  try clear hl;  try clear hmv; try clear hf; try clear no; skip); first | rfl | (subst_vars; rfl) | (simp_all; done) | (simp_all; omega) | (simp_all; grind)), rfl, rfl⟩, by omega, hmv _ _ ⟨rfl, ⟨rfl, trivial, hcap⟩, rfl, rfl, rfl, trivial⟩⟩
      | exact ⟨_, _, FinMove.refl _ _ _, congrArg (fun b => AV.d (.bool b)) (no (by rw [hst]; ((try clear hd1;                  try clear hl;  try clear hmv; try clear hf; try clear no; skip); first | rfl | (subst_vars; rfl) | (simp_all; done) | (simp_all; omega) | (simp_all; grind)))).symm, rfl⟩
  · have hk' : k = l.length := by have := of_decide_eq_false h; omega
    subst hk'
    unfold listU at hI
    rw [List.take_length] at hI
    repeat' (first |            refine CallsAbs.use1 hd1 ?_ |            refine ⟨fun _ => ?_, fun h => absurd h (by decide)⟩ | refine ⟨fun h => absurd h (by decide), fun _ => ?_⟩ | (refine ⟨fun h => ?_, fun h => ?_⟩ <;> (try simp only [decide_eq_true_eq, decide_eq_false_iff_not, Bool.not_eq_true', Bool.not_eq_false', Bool.not_eq_true, Bool.not_eq_false, not_true_eq_false, beq_iff_eq, beq_eq_false_iff_ne, ne_eq, decide_eq_decide, true_iff, false_iff, iff_true, iff_false, true_and, and_true, false_or, or_false, Bool.and_true, Bool.and_eq_true, Bool.and_eq_false_iff, Bool.or_eq_true, Bool.or_eq_false_iff, List.length_cons, List.length_nil] at h) <;> (try (exfalso; first | omega | exact h rfl | (cases h; done) | exact absurd h (by assumption) | exact h (by assumption) | (simp at h; done)))) | refine ⟨⟨by (first | omega | (simp only [lenS]; omega)), by (first | omega | (simp only [lenS]; omega))⟩, _, by assumption, by rfl, ?_⟩ | refine .inl ⟨⟨by (first | omega | (simp only [lenS]; omega)), by (first | omega | (simp only [lenS]; omega))⟩, ?_⟩ | refine ⟨⟨by (first | omega | (simp only [lenS]; omega)), by (first | omega | (simp only [lenS]; omega))⟩, ?_⟩ | refine ⟨⟨by (first | omega | (simp only [lenS]; omega)), by (first | omega | (simp only [lenS]; omega)), by (first | omega | (simp only [lenS]; omega))⟩, ?_⟩ | refine ⟨.inl rfl, ?_⟩ | refine ⟨.inr (.inl (by (first | omega | (simp only [lenS]; omega)))), ?_⟩ | refine ⟨_, rfl, rfl, by (first | exact Nat.le_refl _ | exact Nat.le_of_ble_eq_true rfl | decide), ?_⟩ | refine ⟨_, rfl, by (first | exact Nat.le_refl _ | exact Nat.le_of_ble_eq_true rfl | decide), ?_⟩ | refine ⟨by (first | exact Nat.le_refl _ | exact Nat.le_of_ble_eq_true rfl | decide | exact rfl), ?_⟩ | refine ⟨show _ ≤ (9223372036854775807 : Nat) by (first | omega | (simp only [lenS]; omega)), ?_⟩ | refine ⟨show _ ≠ (0 : Int) by (first | omega | (simp only [lenS]; omega)), ?_⟩ | refine ⟨_, rfl, _, rfl, ?_⟩ | refine ⟨_, by assumption, Nat.le_of_ble_eq_true rfl, ?_⟩ | refine ⟨_, by assumption, _, rfl, ?_⟩ | refine ⟨_, rfl, ?_⟩ | fail)
    exact ⟨_, _, FinMove.refl _ _ _, congrArg (fun b => AV.d (.bool b)) (by unfold listB; rw [hI, hn]; ((try clear hd1;                  try clear hl;  try clear hmv; try clear hf; try clear no; skip); first | rfl | (subst_vars; rfl) | (simp_all; done) | (simp_all; omega) | (simp_all; grind))), rfl⟩
theorem list_ok (k0 : FuncId) (f : List UInt8 → Bool) (l : List (List UInt8)) (hl : l.length ≤ 4611686018427387903) (hf : ∀ s ∈ l, PureC Tryd.prog k0 [.d (.str s)] (.d (.bool (f s)))) :
    PureC Tryd.prog 38 [.d (.sl (strsD l)), .fn (.func k0) [] []] (.d (.bool (listB f l))) := by
  refine PureC.of rfl rfl ((list_gen ⟨0, []⟩ [] k0 f l hl (fun x y h => Mv.of [] rfl rfl rfl trivial h) trivial (fun s hs => hf s hs _)).mono ?_)
  rintro _ _ ⟨rfl, rfl⟩
  exact ⟨rfl, rfl⟩
set_option maxRecDepth 100000 in
theorem never_ok (s : List UInt8) : PureC Tryd.prog 41 [.d (.str s)] (.d (.bool (neverB s))) := by
  have hc1 := tRaw_ok s
  rw [rawV_fst] at hc1
  refine pure_okT Tryd.wf Tryd.tab_ok Tryd.func41 (by decide +kernel) rfl rfl rfl rfl ?_
  repeat' (first | refine PureC.use hc1 ?_ |                       refine ⟨fun _ => ?_, fun h => absurd h (by decide)⟩ | refine ⟨fun h => absurd h (by decide), fun _ => ?_⟩ | (refine ⟨fun h => ?_, fun h => ?_⟩ <;> (try simp only [decide_eq_true_eq, decide_eq_false_iff_not, Bool.not_eq_true', Bool.not_eq_false', Bool.not_eq_true, Bool.not_eq_false, not_true_eq_false, beq_iff_eq, beq_eq_false_iff_ne, ne_eq, decide_eq_decide, true_iff, false_iff, iff_true, iff_false, true_and, and_true, false_or, or_false, Bool.and_true, Bool.and_eq_true, Bool.and_eq_false_iff, Bool.or_eq_true, Bool.or_eq_false_iff, List.length_cons, List.length_nil] at h) <;> (try (exfalso; first | omega | exact h rfl | (cases h; done) | exact absurd h (by assumption) | exact h (by assumption) | (simp at h; done)))) | refine ⟨⟨by (first | omega | (simp only [lenS]; omega)), by (first | omega | (simp only [lenS]; omega))⟩, _, by assumption, by rfl, ?_⟩ | refine .inl ⟨⟨by (first | omega | (simp only [lenS]; omega)), by (first | omega | (simp only [lenS]; omega))⟩, ?_⟩ | refine ⟨⟨by (first | omega | (simp only [lenS]; omega)), by (first | omega | (simp only [lenS]; omega))⟩, ?_⟩ | refine ⟨⟨by (first | omega | (simp only [lenS]; omega)), by (first | omega | (simp only [lenS]; omega)), by (first | omega | (simp only [lenS]; omega))⟩, ?_⟩ | refine ⟨.inl rfl, ?_⟩ | refine ⟨.inr (.inl (by (first | omega | (simp only [lenS]; omega)))), ?_⟩ | refine ⟨_, rfl, rfl, by (first | exact Nat.le_refl _ | exact Nat.le_of_ble_eq_true rfl | decide), ?_⟩ | refine ⟨_, rfl, by (first | exact Nat.le_refl _ | exact Nat.le_of_ble_eq_true rfl | decide), ?_⟩ | refine ⟨by (first | exact Nat.le_refl _ | exact Nat.le_of_ble_eq_true rfl | decide | exact rfl), ?_⟩ | refine ⟨show _ ≤ (9223372036854775807 : Nat) by (first | omega | (simp only [lenS]; omega)), ?_⟩ | refine ⟨show _ ≠ (0 : Int) by (first | omega | (simp only [lenS]; omega)), ?_⟩ | refine ⟨_, rfl, _, rfl, ?_⟩ | refine ⟨_, by assumption, Nat.le_of_ble_eq_true rfl, ?_⟩ | refine ⟨_, by assumption, _, rfl, ?_⟩ | refine ⟨_, rfl, ?_⟩ | fail)
  all_goals exact ⟨_, _, fin_out rfl, congrArg (fun b => AV.d (.bool b)) (by unfold neverB; simp_all [nevers])⟩
set_option maxRecDepth 100000 in
theorem attr_ok (s : List UInt8) (hs : s.length ≤ 4611686018427387904) : PureC Tryd.prog 44 [.d (.str s)] (.d (.bool (attrWordB s))) := by
  have hc1 := word_ok s hs
  have hc2 := HasPrefix_ok s [111, 110]
  refine pure_okT Tryd.wf Tryd.tab_ok Tryd.func44 (by decide +kernel) rfl rfl rfl rfl ?_
  repeat' (first | refine PureC.use hc1 ?_ | refine PureC.use hc2 ?_ |                      refine ⟨fun _ => ?_, fun h => absurd h (by decide)⟩ | refine ⟨fun h => absurd h (by decide), fun _ => ?_⟩ | (refine ⟨fun h => ?_, fun h => ?_⟩ <;> (try simp only [decide_eq_true_eq, decide_eq_false_iff_not, Bool.not_eq_true', Bool.not_eq_false', Bool.not_eq_true, Bool.not_eq_false, not_true_eq_false, beq_iff_eq, beq_eq_false_iff_ne, ne_eq, decide_eq_decide, true_iff, false_iff, iff_true, iff_false, true_and, and_true, false_or, or_false, Bool.and_true, Bool.and_eq_true, Bool.and_eq_false_iff, Bool.or_eq_true, Bool.or_eq_false_iff, List.length_cons, List.length_nil] at h) <;> (try (exfalso; first | omega | exact h rfl | (cases h; done) | exact absurd h (by assumption) | exact h (by assumption) | (simp at h; done)))) | refine ⟨⟨by (first | omega | (simp only [lenS]; omega)), by (first | omega | (simp only [lenS]; omega))⟩, _, by assumption, by rfl, ?_⟩ | refine .inl ⟨⟨by (first | omega | (simp only [lenS]; omega)), by (first | omega | (simp only [lenS]; omega))⟩, ?_⟩ | refine ⟨⟨by (first | omega | (simp only [lenS]; omega)), by (first | omega | (simp only [lenS]; omega))⟩, ?_⟩ | refine ⟨⟨by (first | omega | (simp only [lenS]; omega)), by (first | omega | (simp only [lenS]; omega)), by (first | omega | (simp only [lenS]; omega))⟩, ?_⟩ | refine ⟨.inl rfl, ?_⟩ | refine ⟨.inr (.inl (by (first | omega | (simp only [lenS]; omega)))), ?_⟩ | refine ⟨_, rfl, rfl, by (first | exact Nat.le_refl _ | exact Nat.le_of_ble_eq_true rfl | decide), ?_⟩ | refine ⟨_, rfl, by (first | exact Nat.le_refl _ | exact Nat.le_of_ble_eq_true rfl | decide), ?_⟩ | refine ⟨by (first | exact Nat.le_refl _ | exact Nat.le_of_ble_eq_true rfl | decide | exact rfl), ?_⟩ | refine ⟨show _ ≤ (9223372036854775807 : Nat) by (first | omega | (simp only [lenS]; omega)), ?_⟩ | refine ⟨show _ ≠ (0 : Int) by (first | omega | (simp only [lenS]; omega)), ?_⟩ | refine ⟨_, rfl, _, rfl, ?_⟩ | refine ⟨_, by assumption, Nat.le_of_ble_eq_true rfl, ?_⟩ | refine ⟨_, by assumption, _, rfl, ?_⟩ | refine ⟨_, rfl, ?_⟩ | fail)
  all_goals exact ⟨_, _, fin_out rfl, congrArg (fun b => AV.d (.bool b)) (by unfold attrWordB; ((          try clear hc1; try clear hc2;            skip); first | rfl | (subst_vars; rfl) | (simp_all; done) | (simp_all; omega) | (simp_all; grind)))⟩
set_option maxRecDepth 100000 in
theorem right2_ok (s : List UInt8) (hs : s.length ≤ 4611686018427387904) : PureC Tryd.prog 39 [.d (.str s)] (.d (.bool (elemOk s))) := by
  have hc1 := word_ok s hs
  have hc2 := never_ok s
  refine pure_okT Tryd.wf Tryd.tab_ok Tryd.func39 (by decide +kernel) rfl rfl rfl rfl ?_
  repeat' (first | refine PureC.use hc1 ?_ | refine PureC.use hc2 ?_ |                      refine ⟨fun _ => ?_, fun h => absurd h (by decide)⟩ | refine ⟨fun h => absurd h (by decide), fun _ => ?_⟩ | (refine ⟨fun h => ?_, fun h => ?_⟩ <;> (try simp only [decide_eq_true_eq, decide_eq_false_iff_not, Bool.not_eq_true', Bool.not_eq_false', Bool.not_eq_true, Bool.not_eq_false, not_true_eq_false, beq_iff_eq, beq_eq_false_iff_ne, ne_eq, decide_eq_decide, true_iff, false_iff, iff_true, iff_false, true_and, and_true, false_or, or_false, Bool.and_true, Bool.and_eq_true, Bool.and_eq_false_iff, Bool.or_eq_true, Bool.or_eq_false_iff, List.length_cons, List.length_nil] at h) <;> (try (exfalso; first | omega | exact h rfl | (cases h; done) | exact absurd h (by assumption) | exact h (by assumption) | (simp at h; done)))) | refine ⟨⟨by (first | omega | (simp only [lenS]; omega)), by (first | omega | (simp only [lenS]; omega))⟩, _, by assumption, by rfl, ?_⟩ | refine .inl ⟨⟨by (first | omega | (simp only [lenS]; omega)), by (first | omega | (simp only [lenS]; omega))⟩, ?_⟩ | refine ⟨⟨by (first | omega | (simp only [lenS]; omega)), by (first | omega | (simp only [lenS]; omega))⟩, ?_⟩ | refine ⟨⟨by (first | omega | (simp only [lenS]; omega)), by (first | omega | (simp only [lenS]; omega)), by (first | omega | (simp only [lenS]; omega))⟩, ?_⟩ | refine ⟨.inl rfl, ?_⟩ | refine ⟨.inr (.inl (by (first | omega | (simp only [lenS]; omega)))), ?_⟩ | refine ⟨_, rfl, rfl, by (first | exact Nat.le_refl _ | exact Nat.le_of_ble_eq_true rfl | decide), ?_⟩ | refine ⟨_, rfl, by (first | exact Nat.le_refl _ | exact Nat.le_of_ble_eq_true rfl | decide), ?_⟩ | refine ⟨by (first | exact Nat.le_refl _ | exact Nat.le_of_ble_eq_true rfl | decide | exact rfl), ?_⟩ | refine ⟨show _ ≤ (9223372036854775807 : Nat) by (first | omega | (simp only [lenS]; omega)), ?_⟩ | refine ⟨show _ ≠ (0 : Int) by (first | omega | (simp only [lenS]; omega)), ?_⟩ | refine ⟨_, rfl, _, rfl, ?_⟩ | refine ⟨_, by assumption, Nat.le_of_ble_eq_true rfl, ?_⟩ | refine ⟨_, by assumption, _, rfl, ?_⟩ | refine ⟨_, rfl, ?_⟩ | fail)
  all_goals exact ⟨_, _, fin_out rfl, congrArg (fun b => AV.d (.bool b)) (by unfold elemOk; ((          try clear hc1; try clear hc2;            skip); first | rfl | (subst_vars; rfl) | (simp_all; done) | (simp_all; omega) | (simp_all; grind)))⟩
set_option maxRecDepth 100000 in
theorem right4_ok (s : List UInt8) (hs : s.length ≤ 4611686018427387904) : PureC Tryd.prog 45 [.d (.str s)] (.d (.bool (schemeOk s))) := by
  have hc1 := word_ok s hs
  refine pure_okT Tryd.wf Tryd.tab_ok Tryd.func45 (by decide +kernel) rfl rfl rfl rfl ?_
  repeat' (first | refine PureC.use hc1 ?_ |                       refine ⟨fun _ => ?_, fun h => absurd h (by decide)⟩ | refine ⟨fun h => absurd h (by decide), fun _ => ?_⟩ | (refine ⟨fun h => ?_, fun h => ?_⟩ <;> (try simp only [decide_eq_true_eq, decide_eq_false_iff_not, Bool.not_eq_true', Bool.not_eq_false', Bool.not_eq_true, Bool.not_eq_false, not_true_eq_false, beq_iff_eq, beq_eq_false_iff_ne, ne_eq, decide_eq_decide, true_iff, false_iff, iff_true, iff_false, true_and, and_true, false_or, or_false, Bool.and_true, Bool.and_eq_true, Bool.and_eq_false_iff, Bool.or_eq_true, Bool.or_eq_false_iff, List.length_cons, List.length_nil] at h) <;> (try (exfalso; first | omega | exact h rfl | (cases h; done) | exact absurd h (by assumption) | exact h (by assumption) | (simp at h; done)))) | refine ⟨⟨by (first | omega | (simp only [lenS]; omega)), by (first | omega | (simp only [lenS]; omega))⟩, _, by assumption, by rfl, ?_⟩ | refine .inl ⟨⟨by (first | omega | (simp only [lenS]; omega)), by (first | omega | (simp only [lenS]; omega))⟩, ?_⟩ | refine ⟨⟨by (first | omega | (simp only [lenS]; omega)), by (first | omega | (simp only [lenS]; omega))⟩, ?_⟩ | refine ⟨⟨by (first | omega | (simp only [lenS]; omega)), by (first | omega | (simp only [lenS]; omega)), by (first | omega | (simp only [lenS]; omega))⟩, ?_⟩ | refine ⟨.inl rfl, ?_⟩ | refine ⟨.inr (.inl (by (first | omega | (simp only [lenS]; omega)))), ?_⟩ | refine ⟨_, rfl, rfl, by (first | exact Nat.le_refl _ | exact Nat.le_of_ble_eq_true rfl | decide), ?_⟩ | refine ⟨_, rfl, by (first | exact Nat.le_refl _ | exact Nat.le_of_ble_eq_true rfl | decide), ?_⟩ | refine ⟨by (first | exact Nat.le_refl _ | exact Nat.le_of_ble_eq_true rfl | decide | exact rfl), ?_⟩ | refine ⟨show _ ≤ (9223372036854775807 : Nat) by (first | omega | (simp only [lenS]; omega)), ?_⟩ | refine ⟨show _ ≠ (0 : Int) by (first | omega | (simp only [lenS]; omega)), ?_⟩ | refine ⟨_, rfl, _, rfl, ?_⟩ | refine ⟨_, by assumption, Nat.le_of_ble_eq_true rfl, ?_⟩ | refine ⟨_, by assumption, _, rfl, ?_⟩ | refine ⟨_, rfl, ?_⟩ | fail)
  all_goals exact ⟨_, _, fin_out rfl, congrArg (fun b => AV.d (.bool b)) (by unfold schemeOk; ((          try clear hc1;             skip); first | rfl | (subst_vars; rfl) | (simp_all; done) | (simp_all; omega) | (simp_all; grind)))⟩
end Go.Proofs.YtfchacihhljfhaaDoor

namespace Go.Proofs.YtfchacihhljfhaaDoor
open Go.Aw
set_option maxHeartbeats 1600000
set_option linter.unusedSimpArgs false
set_option linter.unusedVariables false
set_option maxRecDepth 100000 in
theorem lIndex1_ok (s : List UInt8) (c : UInt8) : PureC Tryd.prog 78 [.d (.str s), .d (.str [c])] (.d (.int .i64 (idxB c s))) := by
  have hc1 := lIndexByte_ok s c
  refine pure_okT Tryd.wf Tryd.tab_ok Tryd.func78 (by decide +kernel) rfl rfl rfl rfl ?_
  repeat' (first | refine PureC.use hc1 ?_ |                       refine ⟨fun _ => ?_, fun h => absurd h (by decide)⟩ | refine ⟨fun h => absurd h (by decide), fun _ => ?_⟩ | (refine ⟨fun h => ?_, fun h => ?_⟩ <;> (try simp only [decide_eq_true_eq, decide_eq_false_iff_not, Bool.not_eq_true', Bool.not_eq_false', Bool.not_eq_true, Bool.not_eq_false, not_true_eq_false, beq_iff_eq, beq_eq_false_iff_ne, ne_eq, decide_eq_decide, true_iff, false_iff, iff_true, iff_false, true_and, and_true, false_or, or_false, Bool.and_true, Bool.and_eq_true, Bool.and_eq_false_iff, Bool.or_eq_true, Bool.or_eq_false_iff, List.length_cons, List.length_nil] at h) <;> (try (exfalso; first | omega | exact h rfl | (cases h; done) | exact absurd h (by assumption) | exact h (by assumption) | (simp at h; done)))) | refine ⟨⟨by (first | omega | (simp only [lenS]; omega)), by (first | omega | (simp only [lenS]; omega))⟩, _, by assumption, by rfl, ?_⟩ | refine .inl ⟨⟨by (first | omega | (simp only [lenS]; omega)), by (first | omega | (simp only [lenS]; omega))⟩, ?_⟩ | refine ⟨⟨by (first | omega | (simp only [lenS]; omega)), by (first | omega | (simp only [lenS]; omega))⟩, ?_⟩ | refine ⟨⟨by (first | omega | (simp only [lenS]; omega)), by (first | omega | (simp only [lenS]; omega)), by (first | omega | (simp only [lenS]; omega))⟩, ?_⟩ | refine ⟨.inl rfl, ?_⟩ | refine ⟨.inr (.inl (by (first | omega | (simp only [lenS]; omega)))), ?_⟩ | refine ⟨_, rfl, rfl, by (first | exact Nat.le_refl _ | exact Nat.le_of_ble_eq_true rfl | decide), ?_⟩ | refine ⟨_, rfl, by (first | exact Nat.le_refl _ | exact Nat.le_of_ble_eq_true rfl | decide), ?_⟩ | refine ⟨by (first | exact Nat.le_refl _ | exact Nat.le_of_ble_eq_true rfl | decide | exact rfl), ?_⟩ | refine ⟨show _ ≤ (9223372036854775807 : Nat) by (first | omega | (simp only [lenS]; omega)), ?_⟩ | refine ⟨show _ ≠ (0 : Int) by (first | omega | (simp only [lenS]; omega)), ?_⟩ | refine ⟨_, rfl, _, rfl, ?_⟩ | refine ⟨_, by assumption, Nat.le_of_ble_eq_true rfl, ?_⟩ | refine ⟨_, by assumption, _, rfl, ?_⟩ | refine ⟨_, rfl, ?_⟩ | fail)
  · rename_i h
    refine ⟨_, _, fin_out rfl, ?_⟩
    subst h
    exact congrArg (fun n => AV.d (.int .i64 n)) (idxB_some (a := []) (b := []) (by simp)).symm
  · exact ⟨_, _, fin_out rfl, rfl⟩
def cutV (s : List UInt8) : AV := match cutDot s with
  | none => .tup [.d (.str s), .d (.str []), .d (.bool false)]
  | some (a, b) => .tup [.d (.str a), .d (.str b), .d (.bool true)]
theorem cutV_pure (s : List UInt8) : (cutV s).pure = true := by unfold cutV; split <;> rfl
set_option maxRecDepth 100000 in
theorem lCut_ok (s : List UInt8) (hs : s.length ≤ 4611686018427387904) : PureC Tryd.prog 67 [.d (.str s), .d (.str [46])] (cutV s) := by
  have hc1 := lIndex1_ok s 46
  refine pure_okT Tryd.wf Tryd.tab_ok Tryd.func67 (by decide +kernel) rfl rfl rfl (cutV_pure s) ?_
  by_cases hm : (46 : UInt8) ∈ s
  · obtain ⟨a, b, rfl, ha⟩ := split_first hm
    rw [idxB_some ha] at hc1
    have e : cutV (a ++ 46 :: b) = .tup [.d (.str a), .d (.str b), .d (.bool true)] := by unfold cutV; rw [cutDot_some ha]
    rw [e]
    simp only [List.length_append, List.length_cons] at hs
    repeat' (first | refine PureC.use hc1 ?_ |                       refine ⟨fun _ => ?_, fun h => absurd h (by decide)⟩ | refine ⟨fun h => absurd h (by decide), fun _ => ?_⟩ | (refine ⟨fun h => ?_, fun h => ?_⟩ <;> (try simp only [decide_eq_true_eq, decide_eq_false_iff_not, Bool.not_eq_true', Bool.not_eq_false', Bool.not_eq_true, Bool.not_eq_false, not_true_eq_false, beq_iff_eq, beq_eq_false_iff_ne, ne_eq, decide_eq_decide, true_iff, false_iff, iff_true, iff_false, true_and, and_true, false_or, or_false, Bool.and_true, Bool.and_eq_true, Bool.and_eq_false_iff, Bool.or_eq_true, Bool.or_eq_false_iff, List.length_cons, List.length_nil] at h) <;> (try (exfalso; first | omega | exact h rfl | (cases h; done) | exact absurd h (by assumption) | exact h (by assumption) | (simp at h; done)))) | refine ⟨⟨by (first | omega | (simp only [lenS]; omega)), by (first | omega | (simp only [lenS]; omega))⟩, _, by assumption, by rfl, ?_⟩ | refine .inl ⟨⟨by (first | omega | (simp only [lenS]; omega)), by (first | omega | (simp only [lenS]; omega))⟩, ?_⟩ | refine ⟨⟨by (first | omega | (simp only [lenS]; omega)), by (first | omega | (simp only [lenS]; omega))⟩, ?_⟩ | refine ⟨⟨by (first | omega | (simp only [lenS]; omega)), by (first | omega | (simp only [lenS]; omega)), by (first | omega | (simp only [lenS]; omega))⟩, ?_⟩ | refine ⟨.inl rfl, ?_⟩ | refine ⟨.inr (.inl (by (first | omega | (simp only [lenS]; omega)))), ?_⟩ | refine ⟨_, rfl, rfl, by (first | exact Nat.le_refl _ | exact Nat.le_of_ble_eq_true rfl | decide), ?_⟩ | refine ⟨_, rfl, by (first | exact Nat.le_refl _ | exact Nat.le_of_ble_eq_true rfl | decide), ?_⟩ | refine ⟨by (first | exact Nat.le_refl _ | exact Nat.le_of_ble_eq_true rfl | decide | exact rfl), ?_⟩ | refine ⟨show _ ≤ (9223372036854775807 : Nat) by (first | omega | (simp only [lenS]; omega)), ?_⟩ | refine ⟨show _ ≠ (0 : Int) by (first | omega | (simp only [lenS]; omega)), ?_⟩ | refine ⟨_, rfl, _, rfl, ?_⟩ | refine ⟨_, by assumption, Nat.le_of_ble_eq_true rfl, ?_⟩ | refine ⟨_, by assumption, _, rfl, ?_⟩ | refine ⟨_, rfl, ?_⟩ | fail)
    refine drawnT Tryd.wf Tryd.tab_ok Tryd.mixed (by decide +kernel) ?_; repeat' (first |       refine qskip rfl rfl ?_ | refine qstep (r := .d (.bool true)) rfl rfl (fin_eq (congrArg (fun b => AV.d (.bool b)) (decide_eq_true (by omega)))) ?_ | refine qstep (r := .d (.bool false)) rfl rfl (fin_eq (congrArg (fun b => AV.d (.bool b)) (decide_eq_false (by omega)))) ?_ | refine qstep rfl rfl ⟨fun _ => FinMove.refl _ _ _, fun h => absurd h (by decide)⟩ ?_ | refine qstep rfl rfl ⟨fun h => absurd h (by decide), fun _ => FinMove.refl _ _ _⟩ ?_ | refine qstep rfl rfl (FinMove.refl _ _ _) ?_ |     refine qstep rfl rfl (PureC.use hc1 (FinMove.refl _ _ _)) ?_ |        refine qstep rfl rfl ⟨⟨by (first | omega | (simp only [lenS]; omega)), by (first | omega | (simp only [lenS]; omega))⟩, _, by assumption, by rfl, FinMove.refl _ _ _⟩ ?_ | refine qstep rfl rfl (.inl ⟨⟨by (first | omega | (simp only [lenS]; omega)), by (first | omega | (simp only [lenS]; omega))⟩, FinMove.refl _ _ _⟩) ?_ | refine qstep rfl rfl ⟨⟨by (first | omega | (simp only [lenS]; omega)), by (first | omega | (simp only [lenS]; omega))⟩, FinMove.refl _ _ _⟩ ?_ | refine qstep rfl rfl ⟨⟨by (first | omega | (simp only [lenS]; omega)), by (first | omega | (simp only [lenS]; omega)), by (first | omega | (simp only [lenS]; omega))⟩, FinMove.refl _ _ _⟩ ?_ | refine qstep rfl rfl ⟨⟨by (first | omega | (simp only [lenS]; omega)), by (first | omega | (simp only [lenS]; omega)), by (first | omega | (simp only [lenS]; omega))⟩, .inl rfl, FinMove.refl _ _ _⟩ ?_ | refine qstep rfl rfl ⟨_, rfl, _, rfl, FinMove.refl _ _ _⟩ ?_ | refine qstep rfl rfl ⟨_, rfl, FinMove.refl _ _ _⟩ ?_ | refine qstep rfl rfl ⟨_, rfl, Nat.le_refl _, FinMove.refl _ _ _⟩ ?_ | refine qstep rfl rfl ⟨Nat.le_refl _, FinMove.refl _ _ _⟩ ?_ | refine qstep rfl rfl ⟨by decide, FinMove.refl _ _ _⟩ ?_ | refine qstep rfl rfl ⟨show _ ≤ (9223372036854775807 : Nat) by (first | omega | (simp only [lenS]; omega)), FinMove.refl _ _ _⟩ ?_ | fail)
    refine ⟨_, _, fin_out rfl, ?_⟩
    show AV.tup [.d (.str (((a ++ 46 :: b).take ((a.length : Nat) : Int).toNat).drop (0 : Int).toNat)), .d (.str (((a ++ 46 :: b).take (((a ++ 46 :: b).length : Nat) : Int).toNat).drop ((a.length : Int) + ((([46] : List UInt8).length : Nat) : Int)).toNat)), .d (.bool true)] = _
    have e2 : ((a.length : Int) + ((([46] : List UInt8).length : Nat) : Int)).toNat = a.length + 1 := by simp only [List.length_cons, List.length_nil]; omega
    rw [e2, Int.toNat_natCast, Int.toNat_natCast, List.take_length]
    simp
  · rw [idxB_none hm] at hc1
    have e : cutV s = .tup [.d (.str s), .d (.str []), .d (.bool false)] := by unfold cutV; rw [cutDot_none hm]
    rw [e]
    repeat' (first | refine PureC.use hc1 ?_ |                       refine ⟨fun _ => ?_, fun h => absurd h (by decide)⟩ | refine ⟨fun h => absurd h (by decide), fun _ => ?_⟩ | (refine ⟨fun h => ?_, fun h => ?_⟩ <;> (try simp only [decide_eq_true_eq, decide_eq_false_iff_not, Bool.not_eq_true', Bool.not_eq_false', Bool.not_eq_true, Bool.not_eq_false, not_true_eq_false, beq_iff_eq, beq_eq_false_iff_ne, ne_eq, decide_eq_decide, true_iff, false_iff, iff_true, iff_false, true_and, and_true, false_or, or_false, Bool.and_true, Bool.and_eq_true, Bool.and_eq_false_iff, Bool.or_eq_true, Bool.or_eq_false_iff, List.length_cons, List.length_nil] at h) <;> (try (exfalso; first | omega | exact h rfl | (cases h; done) | exact absurd h (by assumption) | exact h (by assumption) | (simp at h; done)))) | refine ⟨⟨by (first | omega | (simp only [lenS]; omega)), by (first | omega | (simp only [lenS]; omega))⟩, _, by assumption, by rfl, ?_⟩ | refine .inl ⟨⟨by (first | omega | (simp only [lenS]; omega)), by (first | omega | (simp only [lenS]; omega))⟩, ?_⟩ | refine ⟨⟨by (first | omega | (simp only [lenS]; omega)), by (first | omega | (simp only [lenS]; omega))⟩, ?_⟩ | refine ⟨⟨by (first | omega | (simp only [lenS]; omega)), by (first | omega | (simp only [lenS]; omega)), by (first | omega | (simp only [lenS]; omega))⟩, ?_⟩ | refine ⟨.inl rfl, ?_⟩ | refine ⟨.inr (.inl (by (first | omega | (simp only [lenS]; omega)))), ?_⟩ | refine ⟨_, rfl, rfl, by (first | exact Nat.le_refl _ | exact Nat.le_of_ble_eq_true rfl | decide), ?_⟩ | refine ⟨_, rfl, by (first | exact Nat.le_refl _ | exact Nat.le_of_ble_eq_true rfl | decide), ?_⟩ | refine ⟨by (first | exact Nat.le_refl _ | exact Nat.le_of_ble_eq_true rfl | decide | exact rfl), ?_⟩ | refine ⟨show _ ≤ (9223372036854775807 : Nat) by (first | omega | (simp only [lenS]; omega)), ?_⟩ | refine ⟨show _ ≠ (0 : Int) by (first | omega | (simp only [lenS]; omega)), ?_⟩ | refine ⟨_, rfl, _, rfl, ?_⟩ | refine ⟨_, by assumption, Nat.le_of_ble_eq_true rfl, ?_⟩ | refine ⟨_, by assumption, _, rfl, ?_⟩ | refine ⟨_, rfl, ?_⟩ | fail)
    exact ⟨_, _, fin_out rfl, rfl⟩
set_option maxRecDepth 100000 in
theorem Cut_ok (s : List UInt8) (hs : s.length ≤ 4611686018427387904) : PureC Tryd.prog 43 [.d (.str s), .d (.str [46])] (cutV s) := by
  have hc1 := lCut_ok s hs
  refine pure_okT Tryd.wf Tryd.tab_ok Tryd.func43 (by decide +kernel) rfl rfl rfl (cutV_pure s) ?_
  refine PureC.use hc1 ?_
  unfold cutV
  cases cutDot s with
  | none => exact ⟨_, _, fin_out rfl, rfl⟩
  | some x => exact ⟨_, _, fin_out rfl, rfl⟩
/-- The policy's own cell, and the cell of the function that looks into its elements. -/
def boxO (p : Pol) : Ob := .rows (9, 24) [(polD p).map .d]
theorem box_pure (p : Pol) : ∀ row ∈ [(polD p).map AV.d], pureL row = true := fun row h => by rw [List.mem_singleton.1 h]; rfl
def hasO : Ob := .rows (1, 30) [[.fn (.func 37) [] [.ref 0 0 0]]]
def hasS (p : Pol) : Store := ⟨2, [(1, hasO), (0, boxO p)]⟩
set_option maxRecDepth 100000 in
theorem right1_ok (p : Pol) (s : List UInt8) (hp : Fits p) : CallsAbs Tryd.prog 37 [.d (.str s), .ref 0 0 0] (hasS p) fun r σ' => r = .d (.bool (decide (s ∈ p.el))) ∧ σ' = hasS p := by
  have hc1 := Contains_ok p.el s (by have := hp.el.1; omega)
  refine fn_okT Tryd.wf Tryd.tab_ok Tryd.func37 (by decide +kernel) rfl rfl ?_
  repeat' (first | refine PureC.use hc1 ?_ |                       refine ⟨fun _ => ?_, fun h => absurd h (by decide)⟩ | refine ⟨fun h => absurd h (by decide), fun _ => ?_⟩ | (refine ⟨fun h => ?_, fun h => ?_⟩ <;> (try simp only [decide_eq_true_eq, decide_eq_false_iff_not, Bool.not_eq_true', Bool.not_eq_false', Bool.not_eq_true, Bool.not_eq_false, not_true_eq_false, beq_iff_eq, beq_eq_false_iff_ne, ne_eq, decide_eq_decide, true_iff, false_iff, iff_true, iff_false, true_and, and_true, false_or, or_false, Bool.and_true, Bool.and_eq_true, Bool.and_eq_false_iff, Bool.or_eq_true, Bool.or_eq_false_iff, List.length_cons, List.length_nil] at h) <;> (try (exfalso; first | omega | exact h rfl | (cases h; done) | exact absurd h (by assumption) | exact h (by assumption) | (simp at h; done)))) | refine ⟨⟨by (first | omega | (simp only [lenS]; omega)), by (first | omega | (simp only [lenS]; omega))⟩, _, by assumption, by rfl, ?_⟩ | refine .inl ⟨⟨by (first | omega | (simp only [lenS]; omega)), by (first | omega | (simp only [lenS]; omega))⟩, ?_⟩ | refine ⟨⟨by (first | omega | (simp only [lenS]; omega)), by (first | omega | (simp only [lenS]; omega))⟩, ?_⟩ | refine ⟨⟨by (first | omega | (simp only [lenS]; omega)), by (first | omega | (simp only [lenS]; omega)), by (first | omega | (simp only [lenS]; omega))⟩, ?_⟩ | refine ⟨.inl rfl, ?_⟩ | refine ⟨.inr (.inl (by (first | omega | (simp only [lenS]; omega)))), ?_⟩ | refine ⟨_, rfl, rfl, by (first | exact Nat.le_refl _ | exact Nat.le_of_ble_eq_true rfl | decide), ?_⟩ | refine ⟨_, rfl, by (first | exact Nat.le_refl _ | exact Nat.le_of_ble_eq_true rfl | decide), ?_⟩ | refine ⟨by (first | exact Nat.le_refl _ | exact Nat.le_of_ble_eq_true rfl | decide | exact rfl), ?_⟩ | refine ⟨show _ ≤ (9223372036854775807 : Nat) by (first | omega | (simp only [lenS]; omega)), ?_⟩ | refine ⟨show _ ≠ (0 : Int) by (first | omega | (simp only [lenS]; omega)), ?_⟩ | refine ⟨_, rfl, _, rfl, ?_⟩ | refine ⟨_, by assumption, Nat.le_of_ble_eq_true rfl, ?_⟩ | refine ⟨_, by assumption, _, rfl, ?_⟩ | refine ⟨_, rfl, ?_⟩ | fail)
  exact ⟨_, _, FinMove.refl _ _ _, rfl, rfl⟩
set_option maxRecDepth 100000 in
theorem right3_ok (p : Pol) (s : List UInt8) (hp : Fits p) (hs : s.length ≤ 1000000) : CallsAbs Tryd.prog 42 [.d (.str s), .ref 1 0 0] (hasS p) fun r σ' => r = .d (.bool (attrOk p.el s)) ∧ σ' = hasS p := by
  have hc1 := Cut_ok s (by omega)
  refine fn_okT Tryd.wf Tryd.tab_ok Tryd.func42 (by decide +kernel) rfl rfl ?_
  unfold cutV at hc1
  have hlen := cutDot_len s
  unfold attrOk
  cases hcd : cutDot s with
  | none =>
    rw [hcd] at hc1
    repeat' (first | refine PureC.use hc1 ?_ | refine PureC.use hc2 ?_ |          refine CallsAbs.use1 hd1 ?_ |            refine ⟨fun _ => ?_, fun h => absurd h (by decide)⟩ | refine ⟨fun h => absurd h (by decide), fun _ => ?_⟩ | (refine ⟨fun h => ?_, fun h => ?_⟩ <;> (try simp only [decide_eq_true_eq, decide_eq_false_iff_not, Bool.not_eq_true', Bool.not_eq_false', Bool.not_eq_true, Bool.not_eq_false, not_true_eq_false, beq_iff_eq, beq_eq_false_iff_ne, ne_eq, decide_eq_decide, true_iff, false_iff, iff_true, iff_false, true_and, and_true, false_or, or_false, Bool.and_true, Bool.and_eq_true, Bool.and_eq_false_iff, Bool.or_eq_true, Bool.or_eq_false_iff, List.length_cons, List.length_nil] at h) <;> (try (exfalso; first | omega | exact h rfl | (cases h; done) | exact absurd h (by assumption) | exact h (by assumption) | (simp at h; done)))) | refine ⟨⟨by (first | omega | (simp only [lenS]; omega)), by (first | omega | (simp only [lenS]; omega))⟩, _, by assumption, by rfl, ?_⟩ | refine .inl ⟨⟨by (first | omega | (simp only [lenS]; omega)), by (first | omega | (simp only [lenS]; omega))⟩, ?_⟩ | refine ⟨⟨by (first | omega | (simp only [lenS]; omega)), by (first | omega | (simp only [lenS]; omega))⟩, ?_⟩ | refine ⟨⟨by (first | omega | (simp only [lenS]; omega)), by (first | omega | (simp only [lenS]; omega)), by (first | omega | (simp only [lenS]; omega))⟩, ?_⟩ | refine ⟨.inl rfl, ?_⟩ | refine ⟨.inr (.inl (by (first | omega | (simp only [lenS]; omega)))), ?_⟩ | refine ⟨_, rfl, rfl, by (first | exact Nat.le_refl _ | exact Nat.le_of_ble_eq_true rfl | decide), ?_⟩ | refine ⟨_, rfl, by (first | exact Nat.le_refl _ | exact Nat.le_of_ble_eq_true rfl | decide), ?_⟩ | refine ⟨by (first | exact Nat.le_refl _ | exact Nat.le_of_ble_eq_true rfl | decide | exact rfl), ?_⟩ | refine ⟨show _ ≤ (9223372036854775807 : Nat) by (first | omega | (simp only [lenS]; omega)), ?_⟩ | refine ⟨show _ ≠ (0 : Int) by (first | omega | (simp only [lenS]; omega)), ?_⟩ | refine ⟨_, rfl, _, rfl, ?_⟩ | refine ⟨_, by assumption, Nat.le_of_ble_eq_true rfl, ?_⟩ | refine ⟨_, by assumption, _, rfl, ?_⟩ | refine ⟨_, rfl, ?_⟩ | fail)
    exact ⟨_, _, FinMove.refl _ _ _, rfl, rfl⟩
  | some x =>
    rw [hcd] at hc1 hlen
    obtain ⟨e, a⟩ := x
    have hd1 := right1_ok p e hp
    have hc2 := attr_ok a (by have := hlen _ rfl; dsimp only at this; omega)
    repeat' (first | refine PureC.use hc1 ?_ | refine PureC.use hc2 ?_ |          refine CallsAbs.use1 hd1 ?_ |            refine ⟨fun _ => ?_, fun h => absurd h (by decide)⟩ | refine ⟨fun h => absurd h (by decide), fun _ => ?_⟩ | (refine ⟨fun h => ?_, fun h => ?_⟩ <;> (try simp only [decide_eq_true_eq, decide_eq_false_iff_not, Bool.not_eq_true', Bool.not_eq_false', Bool.not_eq_true, Bool.not_eq_false, not_true_eq_false, beq_iff_eq, beq_eq_false_iff_ne, ne_eq, decide_eq_decide, true_iff, false_iff, iff_true, iff_false, true_and, and_true, false_or, or_false, Bool.and_true, Bool.and_eq_true, Bool.and_eq_false_iff, Bool.or_eq_true, Bool.or_eq_false_iff, List.length_cons, List.length_nil] at h) <;> (try (exfalso; first | omega | exact h rfl | (cases h; done) | exact absurd h (by assumption) | exact h (by assumption) | (simp at h; done)))) | refine ⟨⟨by (first | omega | (simp only [lenS]; omega)), by (first | omega | (simp only [lenS]; omega))⟩, _, by assumption, by rfl, ?_⟩ | refine .inl ⟨⟨by (first | omega | (simp only [lenS]; omega)), by (first | omega | (simp only [lenS]; omega))⟩, ?_⟩ | refine ⟨⟨by (first | omega | (simp only [lenS]; omega)), by (first | omega | (simp only [lenS]; omega))⟩, ?_⟩ | refine ⟨⟨by (first | omega | (simp only [lenS]; omega)), by (first | omega | (simp only [lenS]; omega)), by (first | omega | (simp only [lenS]; omega))⟩, ?_⟩ | refine ⟨.inl rfl, ?_⟩ | refine ⟨.inr (.inl (by (first | omega | (simp only [lenS]; omega)))), ?_⟩ | refine ⟨_, rfl, rfl, by (first | exact Nat.le_refl _ | exact Nat.le_of_ble_eq_true rfl | decide), ?_⟩ | refine ⟨_, rfl, by (first | exact Nat.le_refl _ | exact Nat.le_of_ble_eq_true rfl | decide), ?_⟩ | refine ⟨by (first | exact Nat.le_refl _ | exact Nat.le_of_ble_eq_true rfl | decide | exact rfl), ?_⟩ | refine ⟨show _ ≤ (9223372036854775807 : Nat) by (first | omega | (simp only [lenS]; omega)), ?_⟩ | refine ⟨show _ ≠ (0 : Int) by (first | omega | (simp only [lenS]; omega)), ?_⟩ | refine ⟨_, rfl, _, rfl, ?_⟩ | refine ⟨_, by assumption, Nat.le_of_ble_eq_true rfl, ?_⟩ | refine ⟨_, by assumption, _, rfl, ?_⟩ | refine ⟨_, rfl, ?_⟩ | fail)
    all_goals exact ⟨_, _, FinMove.refl _ _ _, congrArg (fun b => AV.d (.bool b)) (by ((try clear hd1;          try clear hc1; try clear hc2;        try clear hp;    skip); first | rfl | (subst_vars; rfl) | (simp_all; done) | (simp_all; omega) | (simp_all; grind))), rfl⟩
set_option maxRecDepth 100000 in
theorem has_any (p : Pol) (s : List UInt8) (hp : Fits p) (σ : Store) (h0 : σ.get 0 = boxO p) (hn : Nat.ble 1 σ.n = true) : CallsAbs Tryd.prog 37 [.d (.str s), .ref 0 0 0] σ fun r σ' => r = .d (.bool (decide (s ∈ p.el))) ∧ σ' = ⟨σ.n, (0, boxO p) :: σ.objs⟩ := by
  have hc1 := Contains_ok p.el s (by have := hp.el.1; omega)
  have base : CallsAbs Tryd.prog 37 [.d (.str s), .ref 0 0 0] ⟨1, [(0, boxO p)]⟩ fun r σ' => r = .d (.bool (decide (s ∈ p.el))) ∧ σ' = ⟨1, [(0, boxO p)]⟩ := by
    refine fn_okT Tryd.wf Tryd.tab_ok Tryd.func37 (by decide +kernel) rfl rfl ?_
    repeat' (first | refine PureC.use hc1 ?_ |                       refine ⟨fun _ => ?_, fun h => absurd h (by decide)⟩ | refine ⟨fun h => absurd h (by decide), fun _ => ?_⟩ | (refine ⟨fun h => ?_, fun h => ?_⟩ <;> (try simp only [decide_eq_true_eq, decide_eq_false_iff_not, Bool.not_eq_true', Bool.not_eq_false', Bool.not_eq_true, Bool.not_eq_false, not_true_eq_false, beq_iff_eq, beq_eq_false_iff_ne, ne_eq, decide_eq_decide, true_iff, false_iff, iff_true, iff_false, true_and, and_true, false_or, or_false, Bool.and_true, Bool.and_eq_true, Bool.and_eq_false_iff, Bool.or_eq_true, Bool.or_eq_false_iff, List.length_cons, List.length_nil] at h) <;> (try (exfalso; first | omega | exact h rfl | (cases h; done) | exact absurd h (by assumption) | exact h (by assumption) | (simp at h; done)))) | refine ⟨⟨by (first | omega | (simp only [lenS]; omega)), by (first | omega | (simp only [lenS]; omega))⟩, _, by assumption, by rfl, ?_⟩ | refine .inl ⟨⟨by (first | omega | (simp only [lenS]; omega)), by (first | omega | (simp only [lenS]; omega))⟩, ?_⟩ | refine ⟨⟨by (first | omega | (simp only [lenS]; omega)), by (first | omega | (simp only [lenS]; omega))⟩, ?_⟩ | refine ⟨⟨by (first | omega | (simp only [lenS]; omega)), by (first | omega | (simp only [lenS]; omega)), by (first | omega | (simp only [lenS]; omega))⟩, ?_⟩ | refine ⟨.inl rfl, ?_⟩ | refine ⟨.inr (.inl (by (first | omega | (simp only [lenS]; omega)))), ?_⟩ | refine ⟨_, rfl, rfl, by (first | exact Nat.le_refl _ | exact Nat.le_of_ble_eq_true rfl | decide), ?_⟩ | refine ⟨_, rfl, by (first | exact Nat.le_refl _ | exact Nat.le_of_ble_eq_true rfl | decide), ?_⟩ | refine ⟨by (first | exact Nat.le_refl _ | exact Nat.le_of_ble_eq_true rfl | decide | exact rfl), ?_⟩ | refine ⟨show _ ≤ (9223372036854775807 : Nat) by (first | omega | (simp only [lenS]; omega)), ?_⟩ | refine ⟨show _ ≠ (0 : Int) by (first | omega | (simp only [lenS]; omega)), ?_⟩ | refine ⟨_, rfl, _, rfl, ?_⟩ | refine ⟨_, by assumption, Nat.le_of_ble_eq_true rfl, ?_⟩ | refine ⟨_, by assumption, _, rfl, ?_⟩ | refine ⟨_, rfl, ?_⟩ | fail)
    exact ⟨_, _, FinMove.refl _ _ _, rfl, rfl⟩
  have hb := box_pure p
  obtain ⟨n, objs⟩ := σ
  cases n with
  | zero => cases hn
  | succ n =>
  refine CallsAbs.frame base [.old 0] ⟨Nat.zero_le _, rfl, by simp [goodr, idx], ⟨?_, trivial⟩⟩ ⟨rfl, ⟨rfl, rfl, rfl⟩, trivial⟩ ?_
  · show orel _ (boxO p) (Store.get ⟨n + 1, objs⟩ 0)
    rw [h0]
    exact ⟨rfl, .inl ⟨rfl, hb⟩⟩
  · rintro _ _ ⟨rfl, rfl⟩
    exact ⟨.d (.bool (decide (s ∈ p.el))), [(0, boxO p)], ⟨⟨rfl, .inl ⟨rfl, hb⟩⟩, trivial⟩, rfl, rfl, rfl, rfl⟩
set_option maxRecDepth 100000 in
theorem Right_ok (p : Pol) (hp : Fits p) : PureC Tryd.prog 17 [polA p] (.d (.bool (rightB p))) := by
  have hc1 := list_ok 39 elemOk p.el (by have := hp.el.1; omega) (fun s hs => right2_ok s (by have := hp.el.2 s hs; omega))
  have hc2 := list_ok 45 schemeOk p.sc (by have := hp.sc.1; omega) (fun s hs => right4_ok s (by have := hp.sc.2 s hs; omega))
  have hc3 := list_ok 40 wordB p.cl (by have := hp.cl.1; omega) (fun s hs => word_ok s (by have := hp.cl.2 s hs; omega))
  have hc4 := list_ok 40 wordB p.pr (by have := hp.pr.1; omega) (fun s hs => word_ok s (by have := hp.pr.2 s hs; omega))
  have hl := list_gen (hasS p) [.ref 1 0 0] 42 (attrOk p.el) p.at' (by have := hp.at'.1; omega) (fun x y h => Mv.of [] rfl rfl rfl ⟨⟨rfl, .inr ⟨⟨⟨rfl, trivial, ⟨rfl, rfl, rfl⟩, trivial⟩, trivial⟩, trivial⟩⟩, ⟨rfl, .inl ⟨rfl, fun row h => by rw [List.mem_singleton.1 h]; rfl⟩⟩, trivial⟩ h) ⟨⟨rfl, rfl, rfl⟩, trivial⟩ (fun s hs => right3_ok p s hp (hp.at'.2 s hs))
  refine pure_okT Tryd.wf Tryd.tab_ok Tryd.func17 (by decide +kernel) rfl rfl rfl rfl ?_
  have he1 := has_any p [108, 105] hp
  have he2 := has_any p [117, 108] hp
  have he3 := has_any p [111, 108] hp
  have no : sizesB p = false → AV.d (.bool false) = AV.d (.bool (rightB p)) := fun h => by unfold rightB; rw [h]; rfl
  unfold sizesB at no
  repeat' (first | refine PureC.use hc1 ?_ | refine PureC.use hc2 ?_ | refine PureC.use hc3 ?_ | refine PureC.use hc4 ?_ |            refine CallsAbs.use1 (he1 _ (by rfl) (by rfl)) ?_ | refine CallsAbs.use1 (he2 _ (by rfl) (by rfl)) ?_ | refine CallsAbs.use1 (he3 _ (by rfl) (by rfl)) ?_ |      refine ⟨fun _ => ?_, fun h => absurd h (by decide)⟩ | refine ⟨fun h => absurd h (by decide), fun _ => ?_⟩ | (refine ⟨fun h => ?_, fun h => ?_⟩ <;> (try simp only [decide_eq_true_eq, decide_eq_false_iff_not, Bool.not_eq_true', Bool.not_eq_false', Bool.not_eq_true, Bool.not_eq_false, not_true_eq_false, beq_iff_eq, beq_eq_false_iff_ne, ne_eq, decide_eq_decide, true_iff, false_iff, iff_true, iff_false, true_and, and_true, false_or, or_false, Bool.and_true, Bool.and_eq_true, Bool.and_eq_false_iff, Bool.or_eq_true, Bool.or_eq_false_iff, List.length_cons, List.length_nil] at h) <;> (try (exfalso; first | omega | exact h rfl | (cases h; done) | exact absurd h (by assumption) | exact h (by assumption) | (simp at h; done)))) | refine ⟨⟨by (first | omega | (simp only [lenS]; omega)), by (first | omega | (simp only [lenS]; omega))⟩, _, by assumption, by rfl, ?_⟩ | refine .inl ⟨⟨by (first | omega | (simp only [lenS]; omega)), by (first | omega | (simp only [lenS]; omega))⟩, ?_⟩ | refine ⟨⟨by (first | omega | (simp only [lenS]; omega)), by (first | omega | (simp only [lenS]; omega))⟩, ?_⟩ | refine ⟨⟨by (first | omega | (simp only [lenS]; omega)), by (first | omega | (simp only [lenS]; omega)), by (first | omega | (simp only [lenS]; omega))⟩, ?_⟩ | refine ⟨.inl rfl, ?_⟩ | refine ⟨.inr (.inl (by (first | omega | (simp only [lenS]; omega)))), ?_⟩ | refine ⟨_, rfl, rfl, by (first | exact Nat.le_refl _ | exact Nat.le_of_ble_eq_true rfl | decide), ?_⟩ | refine ⟨_, rfl, by (first | exact Nat.le_refl _ | exact Nat.le_of_ble_eq_true rfl | decide), ?_⟩ | refine ⟨by (first | exact Nat.le_refl _ | exact Nat.le_of_ble_eq_true rfl | decide | exact rfl), ?_⟩ | refine ⟨show _ ≤ (9223372036854775807 : Nat) by (first | omega | (simp only [lenS]; omega)), ?_⟩ | refine ⟨show _ ≠ (0 : Int) by (first | omega | (simp only [lenS]; omega)), ?_⟩ | refine ⟨_, rfl, _, rfl, ?_⟩ | refine ⟨_, by assumption, Nat.le_of_ble_eq_true rfl, ?_⟩ | refine ⟨_, by assumption, _, rfl, ?_⟩ | refine ⟨_, rfl, ?_⟩ | fail)
  all_goals first
    | exact ⟨_, _, fin_out rfl, no (by rw [decide_eq_false_iff_not]; omega)⟩
    | skip
  have hsz : sizesB p = true := by unfold sizesB; rw [decide_eq_true_eq]; omega
  refine CallsAbs.frame hl [.old 0, .old 3] ⟨Nat.zero_le _, rfl, rfl, ⟨⟨rfl, .inr ⟨⟨⟨rfl, trivial, ⟨rfl, rfl, rfl⟩, trivial⟩, trivial⟩, trivial⟩⟩, ⟨rfl, .inl ⟨rfl, box_pure p⟩⟩, trivial⟩⟩ ⟨rfl, ⟨rfl, trivial, ⟨⟨rfl, rfl, rfl⟩, trivial⟩⟩, trivial⟩ ?_
  rintro _ _ ⟨rfl, rfl⟩
  refine ⟨.d (.bool (listB (attrOk p.el) p.at')), [(3, hasO), (0, boxO p)], ⟨⟨rfl, .inr ⟨⟨⟨rfl, trivial, ⟨rfl, rfl, rfl⟩, trivial⟩, trivial⟩, trivial⟩⟩, ⟨rfl, .inl ⟨rfl, box_pure p⟩⟩, trivial⟩, rfl, rfl, ?_⟩
  clear no
  have hR : rightB p = (listB elemOk p.el && (listB (attrOk p.el) p.at' && (listB schemeOk p.sc && (listB wordB p.cl && (listB wordB p.pr && (!decide ([108, 105] ∈ p.el) || (decide ([117, 108] ∈ p.el) && decide ([111, 108] ∈ p.el)))))))) := by unfold rightB; rw [hsz]; rfl
  rw [hR]
  clear hR hsz
  generalize listB elemOk p.el = b1 at *
  generalize listB (attrOk p.el) p.at' = b2 at *
  generalize listB schemeOk p.sc = b3 at *
  generalize listB wordB p.cl = b4 at *
  generalize listB wordB p.pr = b5 at *
  generalize decide ([108, 105] ∈ p.el) = b6 at *
  generalize decide ([117, 108] ∈ p.el) = b7 at *
  generalize decide ([111, 108] ∈ p.el) = b8 at *
  repeat' (first | refine PureC.use hc1 ?_ | refine PureC.use hc2 ?_ | refine PureC.use hc3 ?_ | refine PureC.use hc4 ?_ |            refine CallsAbs.use1 (he1 _ (by rfl) (by rfl)) ?_ | refine CallsAbs.use1 (he2 _ (by rfl) (by rfl)) ?_ | refine CallsAbs.use1 (he3 _ (by rfl) (by rfl)) ?_ |      refine ⟨fun _ => ?_, fun h => absurd h (by decide)⟩ | refine ⟨fun h => absurd h (by decide), fun _ => ?_⟩ | (refine ⟨fun h => ?_, fun h => ?_⟩ <;> (try simp only [decide_eq_true_eq, decide_eq_false_iff_not, Bool.not_eq_true', Bool.not_eq_false', Bool.not_eq_true, Bool.not_eq_false, not_true_eq_false, beq_iff_eq, beq_eq_false_iff_ne, ne_eq, decide_eq_decide, true_iff, false_iff, iff_true, iff_false, true_and, and_true, false_or, or_false, Bool.and_true, Bool.and_eq_true, Bool.and_eq_false_iff, Bool.or_eq_true, Bool.or_eq_false_iff, List.length_cons, List.length_nil] at h) <;> (try (exfalso; first | omega | exact h rfl | (cases h; done) | exact absurd h (by assumption) | exact h (by assumption) | (simp at h; done)))) | refine ⟨⟨by (first | omega | (simp only [lenS]; omega)), by (first | omega | (simp only [lenS]; omega))⟩, _, by assumption, by rfl, ?_⟩ | refine .inl ⟨⟨by (first | omega | (simp only [lenS]; omega)), by (first | omega | (simp only [lenS]; omega))⟩, ?_⟩ | refine ⟨⟨by (first | omega | (simp only [lenS]; omega)), by (first | omega | (simp only [lenS]; omega))⟩, ?_⟩ | refine ⟨⟨by (first | omega | (simp only [lenS]; omega)), by (first | omega | (simp only [lenS]; omega)), by (first | omega | (simp only [lenS]; omega))⟩, ?_⟩ | refine ⟨.inl rfl, ?_⟩ | refine ⟨.inr (.inl (by (first | omega | (simp only [lenS]; omega)))), ?_⟩ | refine ⟨_, rfl, rfl, by (first | exact Nat.le_refl _ | exact Nat.le_of_ble_eq_true rfl | decide), ?_⟩ | refine ⟨_, rfl, by (first | exact Nat.le_refl _ | exact Nat.le_of_ble_eq_true rfl | decide), ?_⟩ | refine ⟨by (first | exact Nat.le_refl _ | exact Nat.le_of_ble_eq_true rfl | decide | exact rfl), ?_⟩ | refine ⟨show _ ≤ (9223372036854775807 : Nat) by (first | omega | (simp only [lenS]; omega)), ?_⟩ | refine ⟨show _ ≠ (0 : Int) by (first | omega | (simp only [lenS]; omega)), ?_⟩ | refine ⟨_, rfl, _, rfl, ?_⟩ | refine ⟨_, by assumption, Nat.le_of_ble_eq_true rfl, ?_⟩ | refine ⟨_, by assumption, _, rfl, ?_⟩ | refine ⟨_, rfl, ?_⟩ | fail)
  all_goals exact ⟨_, _, fin_out rfl, congrArg (fun b => AV.d (.bool b)) (by ((       try clear he1; try clear he2; try clear he3; try clear hc1; try clear hc2; try clear hc3; try clear hc4;     try clear hl; try clear hp;   try clear no; skip); first | rfl | (subst_vars; rfl) | (simp_all; done) | (simp_all; omega) | (simp_all; grind)))⟩
end Go.Proofs.YtfchacihhljfhaaDoor

namespace Go.Proofs.YtfchacihhljfhaaDoor
open Go.Aw
set_option maxHeartbeats 1600000
set_option linter.unusedSimpArgs false
set_option linter.unusedVariables false
set_option maxRecDepth 100000 in
theorem all_ok (a b : List (List UInt8)) (ha : a.length ≤ 4611686018427387903) (hb : b.length ≤ 4611686018427387903) : PureC Tryd.prog 47 [.d (.sl (strsD a)), .d (.sl (strsD b))] (.d (.bool (allIn a b))) := by
  refine pure_okT Tryd.wf Tryd.tab_ok Tryd.func47 (by decide +kernel) rfl rfl rfl rfl ?_
  have hn := strsD_len a
  refine loopT Tryd.wf Tryd.tab_ok (fun n s' σ => ∃ k : Nat, n = a.length - k ∧ k ≤ a.length ∧ allIn (a.take k) b = true ∧ s' = [(0, .d (.sl (strsD a))), (1, .d (.sl (strsD b))), (7, .d (.sl (strsD a))), (8, .d (.int .i64 a.length)), (9, .d (.int .i64 k))] ∧ σ = ⟨0, []⟩)
    ⟨0, rfl, Nat.zero_le _, rfl, rfl, rfl⟩ (Mv.of [] rfl rfl rfl trivial ⟨rfl, rfl, rfl, congrArg (fun n : Nat => D.int .i64 n) hn.symm, rfl, trivial⟩) ?_
  rintro _ _ _ ⟨k, rfl, hk, hI, rfl, rfl⟩
  refine ⟨fun h => ?_, fun h => ?_⟩
  · have hlt : k < a.length := by have := of_decide_eq_true h; omega
    clear h
    have hg := strsD_get a k hlt
    have hc1 := Contains_ok b a[k] hb
    have hst := all_step (fun s => decide (s ∈ b)) a k hlt
    have no := all_pre (fun s => decide (s ∈ b)) a (k + 1)
    unfold allIn at hI ⊢
    rw [hI, Bool.true_and] at hst
    repeat' (first | refine PureC.use hc1 ?_ |                       refine ⟨fun _ => ?_, fun h => absurd h (by decide)⟩ | refine ⟨fun h => absurd h (by decide), fun _ => ?_⟩ | (refine ⟨fun h => ?_, fun h => ?_⟩ <;> (try simp only [decide_eq_true_eq, decide_eq_false_iff_not, Bool.not_eq_true', Bool.not_eq_false', Bool.not_eq_true, Bool.not_eq_false, not_true_eq_false, beq_iff_eq, beq_eq_false_iff_ne, ne_eq, decide_eq_decide, true_iff, false_iff, iff_true, iff_false, true_and, and_true, false_or, or_false, Bool.and_true, Bool.and_eq_true, Bool.and_eq_false_iff, Bool.or_eq_true, Bool.or_eq_false_iff, List.length_cons, List.length_nil] at h) <;> (try (exfalso; first | omega | exact h rfl | (cases h; done) | exact absurd h (by assumption) | exact h (by assumption) | (simp at h; done)))) | refine ⟨⟨by (first | omega | (simp only [lenS]; omega)), by (first | omega | (simp only [lenS]; omega))⟩, _, by assumption, by rfl, ?_⟩ | refine .inl ⟨⟨by (first | omega | (simp only [lenS]; omega)), by (first | omega | (simp only [lenS]; omega))⟩, ?_⟩ | refine ⟨⟨by (first | omega | (simp only [lenS]; omega)), by (first | omega | (simp only [lenS]; omega))⟩, ?_⟩ | refine ⟨⟨by (first | omega | (simp only [lenS]; omega)), by (first | omega | (simp only [lenS]; omega)), by (first | omega | (simp only [lenS]; omega))⟩, ?_⟩ | refine ⟨.inl rfl, ?_⟩ | refine ⟨.inr (.inl (by (first | omega | (simp only [lenS]; omega)))), ?_⟩ | refine ⟨_, rfl, rfl, by (first | exact Nat.le_refl _ | exact Nat.le_of_ble_eq_true rfl | decide), ?_⟩ | refine ⟨_, rfl, by (first | exact Nat.le_refl _ | exact Nat.le_of_ble_eq_true rfl | decide), ?_⟩ | refine ⟨by (first | exact Nat.le_refl _ | exact Nat.le_of_ble_eq_true rfl | decide | exact rfl), ?_⟩ | refine ⟨show _ ≤ (9223372036854775807 : Nat) by (first | omega | (simp only [lenS]; omega)), ?_⟩ | refine ⟨show _ ≠ (0 : Int) by (first | omega | (simp only [lenS]; omega)), ?_⟩ | refine ⟨_, rfl, _, rfl, ?_⟩ | refine ⟨_, by assumption, Nat.le_of_ble_eq_true rfl, ?_⟩ | refine ⟨_, by assumption, _, rfl, ?_⟩ | refine ⟨_, rfl, ?_⟩ | fail)
    all_goals first
      | exact ⟨_, _, _, ⟨k + 1, rfl, hlt, by rw [hst]; ((          try clear hc1;            try clear no; skip); first | rfl | (subst_vars; rfl) | (simp_all; done) | (simp_all; omega) | (simp_all; grind)), rfl, rfl⟩, by omega, Mv.of [] rfl rfl rfl trivial ⟨rfl, rfl, rfl, rfl, rfl, trivial⟩⟩
      | exact ⟨_, _, fin_out rfl, congrArg (fun b => AV.d (.bool b)) (no (by rw [hst]; ((          try clear hc1;            try clear no; skip); first | rfl | (subst_vars; rfl) | (simp_all; done) | (simp_all; omega) | (simp_all; grind)))).symm⟩
  · have hk' : k = a.length := by have := of_decide_eq_false h; omega
    subst hk'
    rw [List.take_length] at hI
    exact ⟨_, _, fin_out rfl, congrArg (fun b => AV.d (.bool b)) hI.symm⟩
theorem any_expr (s : List UInt8) : ∀ (n : Int), (46 ∈ s → n = idxB 46 s) → (46 ∉ s → n = s.length) → ([42] : List UInt8) ++ ((s.take ((s.length : Nat) : Int).toNat).drop n.toNat) = anyOf s := by
  intro n h1 h2
  rw [Int.toNat_natCast, List.take_length]
  unfold anyOf
  by_cases hm : (46 : UInt8) ∈ s
  · rw [h1 hm]
    obtain ⟨a, b, rfl, ha⟩ := split_first hm
    rw [idxB_some ha, cutDot_some ha, Int.toNat_natCast]
    simp
  · rw [h2 hm, cutDot_none hm, Int.toNat_natCast, List.drop_length]
    rfl
set_option maxRecDepth 100000 in
theorem Stricter_ok (p q : Pol) (hp : Fits p) (hq : Fits q) : PureC Tryd.prog 18 [polA p, polA q] (.d (.bool (stricterB p q))) := by
  have hpa := hp.at'.1
  have hqa := hq.at'.1
  have hc1 := all_ok p.el q.el (by have := hp.el.1; omega) (by have := hq.el.1; omega)
  have hc2 := all_ok p.sc q.sc (by have := hp.sc.1; omega) (by have := hq.sc.1; omega)
  have hc3 := all_ok p.cl q.cl (by have := hp.cl.1; omega) (by have := hq.cl.1; omega)
  have hc4 := all_ok p.pr q.pr (by have := hp.pr.1; omega) (by have := hq.pr.1; omega)
  refine pure_okT Tryd.wf Tryd.tab_ok Tryd.func18 (by decide +kernel) rfl rfl rfl rfl ?_
  have hn := strsD_len p.at'
  repeat' (first | refine PureC.use hc1 ?_ | refine PureC.use hc2 ?_ | refine PureC.use hc3 ?_ | refine PureC.use hc4 ?_ | refine PureC.use hc5 ?_ | refine PureC.use hc6 ?_ | refine PureC.use hc7 ?_ |                 refine ⟨fun _ => ?_, fun h => absurd h (by decide)⟩ | refine ⟨fun h => absurd h (by decide), fun _ => ?_⟩ | (refine ⟨fun h => ?_, fun h => ?_⟩ <;> (try simp only [decide_eq_true_eq, decide_eq_false_iff_not, Bool.not_eq_true', Bool.not_eq_false', Bool.not_eq_true, Bool.not_eq_false, not_true_eq_false, beq_iff_eq, beq_eq_false_iff_ne, ne_eq, decide_eq_decide, true_iff, false_iff, iff_true, iff_false, true_and, and_true, false_or, or_false, Bool.and_true, Bool.and_eq_true, Bool.and_eq_false_iff, Bool.or_eq_true, Bool.or_eq_false_iff, List.length_cons, List.length_nil] at h) <;> (try (exfalso; first | omega | exact h rfl | (cases h; done) | exact absurd h (by assumption) | exact h (by assumption) | (simp at h; done)))) | refine ⟨⟨by (first | omega | (simp only [lenS]; omega)), by (first | omega | (simp only [lenS]; omega))⟩, _, by assumption, by rfl, ?_⟩ | refine .inl ⟨⟨by (first | omega | (simp only [lenS]; omega)), by (first | omega | (simp only [lenS]; omega))⟩, ?_⟩ | refine ⟨⟨by (first | omega | (simp only [lenS]; omega)), by (first | omega | (simp only [lenS]; omega))⟩, ?_⟩ | refine ⟨⟨by (first | omega | (simp only [lenS]; omega)), by (first | omega | (simp only [lenS]; omega)), by (first | omega | (simp only [lenS]; omega))⟩, ?_⟩ | refine ⟨.inl rfl, ?_⟩ | refine ⟨.inr (.inl (by (first | omega | (simp only [lenS]; omega)))), ?_⟩ | refine ⟨_, rfl, rfl, by (first | exact Nat.le_refl _ | exact Nat.le_of_ble_eq_true rfl | decide), ?_⟩ | refine ⟨_, rfl, by (first | exact Nat.le_refl _ | exact Nat.le_of_ble_eq_true rfl | decide), ?_⟩ | refine ⟨by (first | exact Nat.le_refl _ | exact Nat.le_of_ble_eq_true rfl | decide | exact rfl), ?_⟩ | refine ⟨show _ ≤ (9223372036854775807 : Nat) by (first | omega | (simp only [lenS]; omega)), ?_⟩ | refine ⟨show _ ≠ (0 : Int) by (first | omega | (simp only [lenS]; omega)), ?_⟩ | refine ⟨_, rfl, _, rfl, ?_⟩ | refine ⟨_, by assumption, Nat.le_of_ble_eq_true rfl, ?_⟩ | refine ⟨_, by assumption, _, rfl, ?_⟩ | refine ⟨_, rfl, ?_⟩ | fail)
  refine loopT Tryd.wf Tryd.tab_ok (fun n s' σ => ∃ k : Nat, n = p.at'.length - k ∧ k ≤ p.at'.length ∧ attrsIn (p.at'.take k) q.at' = true ∧ s' = [(2, .ref 0 0 0), (3, .ref 1 0 0), (11, .d (.sl (strsD p.at'))), (12, .d (.int .i64 p.at'.length)), (13, .d (.int .i64 k))] ∧ σ = ⟨2, [(1, boxO q), (0, boxO p)]⟩)
    ⟨0, rfl, Nat.zero_le _, rfl, rfl, rfl⟩ (Mv.of [.old 0, .old 1] rfl rfl rfl ⟨⟨rfl, .inl ⟨rfl, box_pure q⟩⟩, ⟨rfl, .inl ⟨rfl, box_pure p⟩⟩, trivial⟩ ⟨⟨rfl, rfl, rfl⟩, ⟨rfl, rfl, rfl⟩, rfl, congrArg (fun n : Nat => D.int .i64 n) hn.symm, rfl, trivial⟩) ?_
  rintro _ _ _ ⟨k, rfl, hk, hI, rfl, rfl⟩
  refine ⟨fun h => ?_, fun h => ?_⟩
  · have hlt : k < p.at'.length := by have := of_decide_eq_true h; omega
    clear h
    have hg := strsD_get p.at' k hlt
    have hst := all_step (fun s => decide (s ∈ q.at') || decide (anyOf s ∈ q.at')) p.at' k hlt
    have no : attrsIn (p.at'.take (k + 1)) q.at' = false → stricterB p q = false := fun h => by
      unfold stricterB attrsIn; rw [all_pre _ _ _ h]; rfl
    unfold attrsIn at hI no ⊢
    rw [hI, Bool.true_and] at hst
    have hsl := hp.at'.2 _ (List.getElem_mem hlt)
    generalize p.at'[k] = s at *
    have hc5 := Contains_ok q.at' s (by omega)
    have hc6 := IndexByte_ok s 46
    have hc7 := Contains_ok q.at' (anyOf s) (by omega)
    by_cases hm : (46 : UInt8) ∈ s
    · have he := any_expr s (idxB 46 s) (fun _ => rfl) (fun h => absurd hm h)
      have hle : 0 ≤ idxB 46 s ∧ idxB 46 s < s.length := by
        obtain ⟨a, b, rfl, ha⟩ := split_first hm
        rw [idxB_some ha]; simp; omega
      rw [← he] at hc7 hst
      generalize idxB 46 s = x at *
      repeat' (first | refine PureC.use hc1 ?_ | refine PureC.use hc2 ?_ | refine PureC.use hc3 ?_ | refine PureC.use hc4 ?_ | refine PureC.use hc5 ?_ | refine PureC.use hc6 ?_ | refine PureC.use hc7 ?_ |                 refine ⟨fun _ => ?_, fun h => absurd h (by decide)⟩ | refine ⟨fun h => absurd h (by decide), fun _ => ?_⟩ | (refine ⟨fun h => ?_, fun h => ?_⟩ <;> (try simp only [decide_eq_true_eq, decide_eq_false_iff_not, Bool.not_eq_true', Bool.not_eq_false', Bool.not_eq_true, Bool.not_eq_false, not_true_eq_false, beq_iff_eq, beq_eq_false_iff_ne, ne_eq, decide_eq_decide, true_iff, false_iff, iff_true, iff_false, true_and, and_true, false_or, or_false, Bool.and_true, Bool.and_eq_true, Bool.and_eq_false_iff, Bool.or_eq_true, Bool.or_eq_false_iff, List.length_cons, List.length_nil] at h) <;> (try (exfalso; first | omega | exact h rfl | (cases h; done) | exact absurd h (by assumption) | exact h (by assumption) | (simp at h; done)))) | refine ⟨⟨by (first | omega | (simp only [lenS]; omega)), by (first | omega | (simp only [lenS]; omega))⟩, _, by assumption, by rfl, ?_⟩ | refine .inl ⟨⟨by (first | omega | (simp only [lenS]; omega)), by (first | omega | (simp only [lenS]; omega))⟩, ?_⟩ | refine ⟨⟨by (first | omega | (simp only [lenS]; omega)), by (first | omega | (simp only [lenS]; omega))⟩, ?_⟩ | refine ⟨⟨by (first | omega | (simp only [lenS]; omega)), by (first | omega | (simp only [lenS]; omega)), by (first | omega | (simp only [lenS]; omega))⟩, ?_⟩ | refine ⟨.inl rfl, ?_⟩ | refine ⟨.inr (.inl (by (first | omega | (simp only [lenS]; omega)))), ?_⟩ | refine ⟨_, rfl, rfl, by (first | exact Nat.le_refl _ | exact Nat.le_of_ble_eq_true rfl | decide), ?_⟩ | refine ⟨_, rfl, by (first | exact Nat.le_refl _ | exact Nat.le_of_ble_eq_true rfl | decide), ?_⟩ | refine ⟨by (first | exact Nat.le_refl _ | exact Nat.le_of_ble_eq_true rfl | decide | exact rfl), ?_⟩ | refine ⟨show _ ≤ (9223372036854775807 : Nat) by (first | omega | (simp only [lenS]; omega)), ?_⟩ | refine ⟨show _ ≠ (0 : Int) by (first | omega | (simp only [lenS]; omega)), ?_⟩ | refine ⟨_, rfl, _, rfl, ?_⟩ | refine ⟨_, by assumption, Nat.le_of_ble_eq_true rfl, ?_⟩ | refine ⟨_, by assumption, _, rfl, ?_⟩ | refine ⟨_, rfl, ?_⟩ | fail)
      all_goals first
        | exact ⟨_, _, _, ⟨k + 1, rfl, hlt, by rw [hst]; ((          try clear hc1; try clear hc2; try clear hc3; try clear hc4; try clear hc5; try clear hc6; try clear hc7;   try clear hp;   try clear no; skip); first | rfl | (subst_vars; rfl) | (simp_all; done) | (simp_all; omega) | (simp_all; grind)), rfl, rfl⟩, by omega, Mv.of [.old 0, .old 1] rfl rfl rfl ⟨⟨rfl, .inl ⟨rfl, box_pure q⟩⟩, ⟨rfl, .inl ⟨rfl, box_pure p⟩⟩, trivial⟩ ⟨⟨rfl, rfl, rfl⟩, ⟨rfl, rfl, rfl⟩, rfl, rfl, rfl, trivial⟩⟩
        | exact ⟨_, _, fin_out rfl, congrArg (fun b => AV.d (.bool b)) (no (by rw [hst]; ((          try clear hc1; try clear hc2; try clear hc3; try clear hc4; try clear hc5; try clear hc6; try clear hc7;   try clear hp;   try clear no; skip); first | rfl | (subst_vars; rfl) | (simp_all; done) | (simp_all; omega) | (simp_all; grind)))).symm⟩
    · have he : anyOf s = [42] := by unfold anyOf; rw [cutDot_none hm]
      rw [idxB_none hm] at hc6
      rw [he] at hc7 hst
      repeat' (first | refine PureC.use hc1 ?_ | refine PureC.use hc2 ?_ | refine PureC.use hc3 ?_ | refine PureC.use hc4 ?_ | refine PureC.use hc5 ?_ | refine PureC.use hc6 ?_ | refine PureC.use hc7 ?_ |                 refine ⟨fun _ => ?_, fun h => absurd h (by decide)⟩ | refine ⟨fun h => absurd h (by decide), fun _ => ?_⟩ | (refine ⟨fun h => ?_, fun h => ?_⟩ <;> (try simp only [decide_eq_true_eq, decide_eq_false_iff_not, Bool.not_eq_true', Bool.not_eq_false', Bool.not_eq_true, Bool.not_eq_false, not_true_eq_false, beq_iff_eq, beq_eq_false_iff_ne, ne_eq, decide_eq_decide, true_iff, false_iff, iff_true, iff_false, true_and, and_true, false_or, or_false, Bool.and_true, Bool.and_eq_true, Bool.and_eq_false_iff, Bool.or_eq_true, Bool.or_eq_false_iff, List.length_cons, List.length_nil] at h) <;> (try (exfalso; first | omega | exact h rfl | (cases h; done) | exact absurd h (by assumption) | exact h (by assumption) | (simp at h; done)))) | refine ⟨⟨by (first | omega | (simp only [lenS]; omega)), by (first | omega | (simp only [lenS]; omega))⟩, _, by assumption, by rfl, ?_⟩ | refine .inl ⟨⟨by (first | omega | (simp only [lenS]; omega)), by (first | omega | (simp only [lenS]; omega))⟩, ?_⟩ | refine ⟨⟨by (first | omega | (simp only [lenS]; omega)), by (first | omega | (simp only [lenS]; omega))⟩, ?_⟩ | refine ⟨⟨by (first | omega | (simp only [lenS]; omega)), by (first | omega | (simp only [lenS]; omega)), by (first | omega | (simp only [lenS]; omega))⟩, ?_⟩ | refine ⟨.inl rfl, ?_⟩ | refine ⟨.inr (.inl (by (first | omega | (simp only [lenS]; omega)))), ?_⟩ | refine ⟨_, rfl, rfl, by (first | exact Nat.le_refl _ | exact Nat.le_of_ble_eq_true rfl | decide), ?_⟩ | refine ⟨_, rfl, by (first | exact Nat.le_refl _ | exact Nat.le_of_ble_eq_true rfl | decide), ?_⟩ | refine ⟨by (first | exact Nat.le_refl _ | exact Nat.le_of_ble_eq_true rfl | decide | exact rfl), ?_⟩ | refine ⟨show _ ≤ (9223372036854775807 : Nat) by (first | omega | (simp only [lenS]; omega)), ?_⟩ | refine ⟨show _ ≠ (0 : Int) by (first | omega | (simp only [lenS]; omega)), ?_⟩ | refine ⟨_, rfl, _, rfl, ?_⟩ | refine ⟨_, by assumption, Nat.le_of_ble_eq_true rfl, ?_⟩ | refine ⟨_, by assumption, _, rfl, ?_⟩ | refine ⟨_, rfl, ?_⟩ | fail)
      all_goals first
        | exact ⟨_, _, _, ⟨k + 1, rfl, hlt, by rw [hst]; ((          try clear hc1; try clear hc2; try clear hc3; try clear hc4; try clear hc5; try clear hc6; try clear hc7;   try clear hp;   try clear no; skip); first | rfl | (subst_vars; rfl) | (simp_all; done) | (simp_all; omega) | (simp_all; grind)), rfl, rfl⟩, by omega, Mv.of [.old 0, .old 1] rfl rfl rfl ⟨⟨rfl, .inl ⟨rfl, box_pure q⟩⟩, ⟨rfl, .inl ⟨rfl, box_pure p⟩⟩, trivial⟩ ⟨⟨rfl, rfl, rfl⟩, ⟨rfl, rfl, rfl⟩, rfl, rfl, rfl, trivial⟩⟩
        | exact ⟨_, _, fin_out rfl, congrArg (fun b => AV.d (.bool b)) (no (by rw [hst]; ((          try clear hc1; try clear hc2; try clear hc3; try clear hc4; try clear hc5; try clear hc6; try clear hc7;   try clear hp;   try clear no; skip); first | rfl | (subst_vars; rfl) | (simp_all; done) | (simp_all; omega) | (simp_all; grind)))).symm⟩
  · have hk' : k = p.at'.length := by have := of_decide_eq_false h; omega
    subst hk'
    rw [List.take_length] at hI
    have hS : stricterB p q = (decide (p.dp ≤ q.dp ∧ p.nd ≤ q.nd ∧ p.by' ≤ q.by') && (allIn p.el q.el && (allIn p.sc q.sc && (allIn p.cl q.cl && allIn p.pr q.pr)))) := by unfold stricterB; rw [hI]; rfl
    rw [hS]
    clear hS hI
    generalize allIn p.el q.el = b1 at *
    generalize allIn p.sc q.sc = b2 at *
    generalize allIn p.cl q.cl = b3 at *
    generalize allIn p.pr q.pr = b4 at *
    by_cases hcap : p.dp ≤ q.dp ∧ p.nd ≤ q.nd ∧ p.by' ≤ q.by'
    · rw [decide_eq_true hcap]
      repeat' (first | refine PureC.use hc1 ?_ | refine PureC.use hc2 ?_ | refine PureC.use hc3 ?_ | refine PureC.use hc4 ?_ | refine PureC.use hc5 ?_ | refine PureC.use hc6 ?_ | refine PureC.use hc7 ?_ |                 refine ⟨fun _ => ?_, fun h => absurd h (by decide)⟩ | refine ⟨fun h => absurd h (by decide), fun _ => ?_⟩ | (refine ⟨fun h => ?_, fun h => ?_⟩ <;> (try simp only [decide_eq_true_eq, decide_eq_false_iff_not, Bool.not_eq_true', Bool.not_eq_false', Bool.not_eq_true, Bool.not_eq_false, not_true_eq_false, beq_iff_eq, beq_eq_false_iff_ne, ne_eq, decide_eq_decide, true_iff, false_iff, iff_true, iff_false, true_and, and_true, false_or, or_false, Bool.and_true, Bool.and_eq_true, Bool.and_eq_false_iff, Bool.or_eq_true, Bool.or_eq_false_iff, List.length_cons, List.length_nil] at h) <;> (try (exfalso; first | omega | exact h rfl | (cases h; done) | exact absurd h (by assumption) | exact h (by assumption) | (simp at h; done)))) | refine ⟨⟨by (first | omega | (simp only [lenS]; omega)), by (first | omega | (simp only [lenS]; omega))⟩, _, by assumption, by rfl, ?_⟩ | refine .inl ⟨⟨by (first | omega | (simp only [lenS]; omega)), by (first | omega | (simp only [lenS]; omega))⟩, ?_⟩ | refine ⟨⟨by (first | omega | (simp only [lenS]; omega)), by (first | omega | (simp only [lenS]; omega))⟩, ?_⟩ | refine ⟨⟨by (first | omega | (simp only [lenS]; omega)), by (first | omega | (simp only [lenS]; omega)), by (first | omega | (simp only [lenS]; omega))⟩, ?_⟩ | refine ⟨.inl rfl, ?_⟩ | refine ⟨.inr (.inl (by (first | omega | (simp only [lenS]; omega)))), ?_⟩ | refine ⟨_, rfl, rfl, by (first | exact Nat.le_refl _ | exact Nat.le_of_ble_eq_true rfl | decide), ?_⟩ | refine ⟨_, rfl, by (first | exact Nat.le_refl _ | exact Nat.le_of_ble_eq_true rfl | decide), ?_⟩ | refine ⟨by (first | exact Nat.le_refl _ | exact Nat.le_of_ble_eq_true rfl | decide | exact rfl), ?_⟩ | refine ⟨show _ ≤ (9223372036854775807 : Nat) by (first | omega | (simp only [lenS]; omega)), ?_⟩ | refine ⟨show _ ≠ (0 : Int) by (first | omega | (simp only [lenS]; omega)), ?_⟩ | refine ⟨_, rfl, _, rfl, ?_⟩ | refine ⟨_, by assumption, Nat.le_of_ble_eq_true rfl, ?_⟩ | refine ⟨_, by assumption, _, rfl, ?_⟩ | refine ⟨_, rfl, ?_⟩ | fail)
      all_goals exact ⟨_, _, fin_out rfl, congrArg (fun b => AV.d (.bool b)) (by ((          try clear hc1; try clear hc2; try clear hc3; try clear hc4; try clear hc5; try clear hc6; try clear hc7;   try clear hp;   try clear no; skip); first | rfl | (subst_vars; rfl) | (simp_all; done) | (simp_all; omega) | (simp_all; grind)))⟩
    · rw [decide_eq_false hcap]
      repeat' (first | refine PureC.use hc1 ?_ | refine PureC.use hc2 ?_ | refine PureC.use hc3 ?_ | refine PureC.use hc4 ?_ | refine PureC.use hc5 ?_ | refine PureC.use hc6 ?_ | refine PureC.use hc7 ?_ |                 refine ⟨fun _ => ?_, fun h => absurd h (by decide)⟩ | refine ⟨fun h => absurd h (by decide), fun _ => ?_⟩ | (refine ⟨fun h => ?_, fun h => ?_⟩ <;> (try simp only [decide_eq_true_eq, decide_eq_false_iff_not, Bool.not_eq_true', Bool.not_eq_false', Bool.not_eq_true, Bool.not_eq_false, not_true_eq_false, beq_iff_eq, beq_eq_false_iff_ne, ne_eq, decide_eq_decide, true_iff, false_iff, iff_true, iff_false, true_and, and_true, false_or, or_false, Bool.and_true, Bool.and_eq_true, Bool.and_eq_false_iff, Bool.or_eq_true, Bool.or_eq_false_iff, List.length_cons, List.length_nil] at h) <;> (try (exfalso; first | omega | exact h rfl | (cases h; done) | exact absurd h (by assumption) | exact h (by assumption) | (simp at h; done)))) | refine ⟨⟨by (first | omega | (simp only [lenS]; omega)), by (first | omega | (simp only [lenS]; omega))⟩, _, by assumption, by rfl, ?_⟩ | refine .inl ⟨⟨by (first | omega | (simp only [lenS]; omega)), by (first | omega | (simp only [lenS]; omega))⟩, ?_⟩ | refine ⟨⟨by (first | omega | (simp only [lenS]; omega)), by (first | omega | (simp only [lenS]; omega))⟩, ?_⟩ | refine ⟨⟨by (first | omega | (simp only [lenS]; omega)), by (first | omega | (simp only [lenS]; omega)), by (first | omega | (simp only [lenS]; omega))⟩, ?_⟩ | refine ⟨.inl rfl, ?_⟩ | refine ⟨.inr (.inl (by (first | omega | (simp only [lenS]; omega)))), ?_⟩ | refine ⟨_, rfl, rfl, by (first | exact Nat.le_refl _ | exact Nat.le_of_ble_eq_true rfl | decide), ?_⟩ | refine ⟨_, rfl, by (first | exact Nat.le_refl _ | exact Nat.le_of_ble_eq_true rfl | decide), ?_⟩ | refine ⟨by (first | exact Nat.le_refl _ | exact Nat.le_of_ble_eq_true rfl | decide | exact rfl), ?_⟩ | refine ⟨show _ ≤ (9223372036854775807 : Nat) by (first | omega | (simp only [lenS]; omega)), ?_⟩ | refine ⟨show _ ≠ (0 : Int) by (first | omega | (simp only [lenS]; omega)), ?_⟩ | refine ⟨_, rfl, _, rfl, ?_⟩ | refine ⟨_, by assumption, Nat.le_of_ble_eq_true rfl, ?_⟩ | refine ⟨_, by assumption, _, rfl, ?_⟩ | refine ⟨_, rfl, ?_⟩ | fail)
      all_goals exact ⟨_, _, fin_out rfl, congrArg (fun b => AV.d (.bool b)) (by ((          try clear hc1; try clear hc2; try clear hc3; try clear hc4; try clear hc5; try clear hc6; try clear hc7;   try clear hp;   try clear no; skip); first | rfl | (subst_vars; rfl) | (simp_all; done) | (simp_all; omega) | (simp_all; grind)))⟩
end Go.Proofs.YtfchacihhljfhaaDoor

namespace Go.Proofs.YtfchacihhljfhaaDoor
open Go.Aw
set_option maxHeartbeats 1600000
set_option linter.unusedSimpArgs false
set_option linter.unusedVariables false
def sp (c : UInt8) : Bool := decide (c.toNat ≤ 32)
def trimL (s : List UInt8) : List UInt8 := s.dropWhile sp
def trimR (s : List UInt8) : List UInt8 := (s.reverse.dropWhile sp).reverse
def kept (c : UInt8) : Bool := !(decide (c.toNat = 9) || decide (c.toNat = 10) || decide (c.toNat = 13))
def bare (s : List UInt8) : List UInt8 := (trimR (trimL s)).filter kept
theorem trimR_snoc (t : List UInt8) (c : UInt8) : trimR (t ++ [c]) = if sp c then trimR t else t ++ [c] := by
  unfold trimR
  rw [List.reverse_append]
  simp only [List.reverse_cons, List.reverse_nil, List.nil_append, List.singleton_append, List.dropWhile_cons]
  split <;> simp
theorem split_last (t : List UInt8) (h : t ≠ []) : t = t.take (t.length - 1) ++ [t.getD (t.length - 1) 0] := by
  have hl : t.length - 1 < t.length := by have := List.length_pos_iff.2 h; omega
  have := List.take_succ_eq_append_getElem hl
  rw [List.getD_eq_getElem?_getD, List.getElem?_eq_getElem hl, Option.getD_some, ← this, List.take_of_length_le (by omega)]
set_option maxRecDepth 10000 in
theorem Bare_ok (s : List UInt8) (hs : s.length ≤ 9223372036854775807) (hs2 : s.length ≤ 140737488355328) : PureC Tryd.prog 35 [.d (.str s)] (.d (.str (bare s))) := by
  refine PureC.of rfl rfl (fn_okTE Tryd.wf Tryd.tab_ok Tryd.func35 (by decide +kernel) rfl rfl ?_)
  refine E.seq (E.of Tryd.wf Tryd.tab_ok ?_)
  refine scopeE ?_
  refine midT Tryd.wf Tryd.tab_ok (fun s' σ => ∃ t : List UInt8, t.length ≤ s.length ∧ t = trimL s ∧ s' = [(0, .d (.str t))] ∧ σ = ⟨0, []⟩) ?_ ?_
  · refine loopT Tryd.wf Tryd.tab_ok (fun n s' σ => ∃ t : List UInt8, n = t.length ∧ t.length ≤ s.length ∧ trimL t = trimL s ∧ s' = [(0, .d (.str t))] ∧ σ = ⟨0, []⟩) ⟨s, rfl, Nat.le_refl _, rfl, rfl, rfl⟩ (Mv.of [] rfl rfl rfl trivial ⟨rfl, trivial⟩) ?_
    rintro _ _ _ ⟨t, rfl, hl, ht, rfl, rfl⟩
    refine ⟨fun h => ?_, fun h => ?_⟩
    · have h' : t ≠ [] := by intro e; subst e; exact absurd h (by decide)
      obtain ⟨c, r, rfl⟩ : ∃ c r, t = c :: r := by cases t with | nil => exact absurd rfl h' | cons c r => exact ⟨c, r, rfl⟩
      refine ⟨⟨by omega, by simp⟩, ⟨fun h2 => ?_, fun h2 => ?_⟩⟩
      · have hsp : sp c = true := by have := of_decide_eq_true h2; simp [sp] at this ⊢; omega
        refine ⟨⟨by omega, by simp; omega, by simp⟩, _, _, _, ⟨r, rfl, by simp at hl; omega, ?_, rfl, rfl⟩, by simp, Mv.of [] rfl rfl rfl trivial ⟨?_, trivial⟩⟩
        · rw [← ht]; simp [trimL, List.dropWhile_cons, hsp]
        · exact congrArg D.str (by simp)
      · have hsp : sp c = false := by have := of_decide_eq_false h2; simp [sp] at this ⊢; omega
        refine ⟨_, _, ⟨c :: r, hl, ?_, rfl, rfl⟩, Mv.of [] rfl rfl rfl trivial ⟨rfl, trivial⟩⟩
        rw [← ht]; simp [trimL, List.dropWhile_cons, hsp]
    · have h' : t = [] := by have : decide (t = []) = true := by simpa using h
                             exact of_decide_eq_true this
      subst h'
      exact ⟨_, _, ⟨[], Nat.zero_le _, ht, rfl, rfl⟩, Mv.of [] rfl rfl rfl trivial ⟨rfl, trivial⟩⟩
  rintro _ _ ⟨t0, hl0, rfl, rfl, rfl⟩
  refine midT Tryd.wf Tryd.tab_ok (fun s' σ => ∃ t : List UInt8, t.length ≤ s.length ∧ t = trimR (trimL s) ∧ s' = [(0, .d (.str t))] ∧ σ = ⟨0, []⟩) ?_ ?_
  · refine loopT Tryd.wf Tryd.tab_ok (fun n s' σ => ∃ t : List UInt8, n = t.length ∧ t.length ≤ s.length ∧ trimR t = trimR (trimL s) ∧ s' = [(0, .d (.str t))] ∧ σ = ⟨0, []⟩) ⟨trimL s, rfl, hl0, rfl, rfl, rfl⟩ (Mv.of [] rfl rfl rfl trivial ⟨rfl, trivial⟩) ?_
    rintro _ _ _ ⟨t, rfl, hl, ht, rfl, rfl⟩
    refine ⟨fun h => ?_, fun h => ?_⟩
    · have h' : t ≠ [] := by intro e; subst e; exact absurd h (by decide)
      have hpos := List.length_pos_iff.2 h'
      have e1 : ((t.length : Int) - 1).toNat = t.length - 1 := by omega
      refine .inl ⟨⟨by omega, by omega⟩, ⟨by omega, by omega⟩, ⟨fun h2 => ?_, fun h2 => ?_⟩⟩
      · have hsp : sp (t.getD (t.length - 1) 0) = true := by have := of_decide_eq_true h2; rw [e1] at this; simp [sp] at this ⊢; omega
        refine .inl ⟨⟨by omega, by omega⟩, ⟨by omega, by omega, by omega⟩, _, _, _, ⟨t.take (t.length - 1), rfl, by simp; omega, ?_, rfl, rfl⟩, by simp; omega, Mv.of [] rfl rfl rfl trivial ⟨?_, trivial⟩⟩
        · have := trimR_snoc (t.take (t.length - 1)) (t.getD (t.length - 1) 0)
          rw [← split_last t h', hsp] at this
          rw [if_pos rfl] at this
          rw [← this]; exact ht
        · exact congrArg D.str (by rw [e1]; rfl)
      · have hsp : sp (t.getD (t.length - 1) 0) = false := by have := of_decide_eq_false h2; rw [e1] at this; simp [sp] at this ⊢; omega
        refine ⟨_, _, ⟨t, hl, ?_, rfl, rfl⟩, Mv.of [] rfl rfl rfl trivial ⟨rfl, trivial⟩⟩
        have := trimR_snoc (t.take (t.length - 1)) (t.getD (t.length - 1) 0)
        rw [← split_last t h', hsp] at this
        rw [← ht, this]; rfl
    · have h' : t = [] := by have : decide (t = []) = true := by simpa using h
                             exact of_decide_eq_true this
      subst h'
      exact ⟨_, _, ⟨[], Nat.zero_le _, ht, rfl, rfl⟩, Mv.of [] rfl rfl rfl trivial ⟨rfl, trivial⟩⟩
  rintro _ _ ⟨t, hl, ht, rfl, rfl⟩
  refine E.of Tryd.wf Tryd.tab_ok ?_
  refine loopT Tryd.wf Tryd.tab_ok (fun n s' σ => ∃ k : Nat, n = t.length - k ∧ k ≤ t.length ∧ s' = [(0, .d (.str t)), (3, .ref 0 0 0), (30, .d (.int .i64 t.length)), (31, .d (.int .i64 k))] ∧ σ = ⟨1, [(0, .bld 77 5 ((t.take k).filter kept))]⟩)
    ⟨0, rfl, Nat.zero_le _, rfl, rfl⟩ (Mv.of [.old 0] rfl rfl rfl ⟨⟨rfl, rfl, rfl⟩, trivial⟩ ⟨rfl, ⟨rfl, rfl, rfl⟩, rfl, rfl, trivial⟩) ?_
  rintro _ _ _ ⟨k, rfl, hk, rfl, rfl⟩
  refine ⟨fun h => ?_, fun h => ?_⟩
  · have hlt : k < t.length := by have := of_decide_eq_true h; omega
    have hg : t.getD ((k : Nat) : Int).toNat 0 = t[k] := by rw [Int.toNat_natCast, List.getD_eq_getElem?_getD, List.getElem?_eq_getElem hlt, Option.getD_some]
    have step : ∀ b, kept t[k] = b → (t.take (k + 1)).filter kept = (t.take k).filter kept ++ (if b then [t[k]] else []) := by
      intro b hb
      rw [List.take_succ_eq_append_getElem hlt, List.filter_append]
      cases b <;> simp [hb]
    have skip : ∀ {s0 : St} {σ0 : Store}, kept t[k] = false → True := fun _ => trivial
    refine ⟨⟨by omega, by omega⟩, ⟨fun h9 => ?_, fun h9 => ?_⟩⟩
    · have hkp : kept t[k] = false := by have := of_decide_eq_true h9; rw [hg] at this; simp [kept]; omega
      refine .inl ⟨⟨by omega, by omega⟩, _, _, _, ⟨k + 1, rfl, hlt, rfl, rfl⟩, by omega, Mv.of [.old 0] rfl rfl rfl ⟨⟨rfl, rfl, ?_⟩, trivial⟩ ⟨rfl, ⟨rfl, rfl, rfl⟩, rfl, rfl, trivial⟩⟩
      rw [step _ hkp]; simp
    · refine ⟨fun h10 => ?_, fun h10 => ?_⟩
      · have hkp : kept t[k] = false := by have := of_decide_eq_true h10; rw [hg] at this; simp [kept]; omega
        refine .inl ⟨⟨by omega, by omega⟩, _, _, _, ⟨k + 1, rfl, hlt, rfl, rfl⟩, by omega, Mv.of [.old 0] rfl rfl rfl ⟨⟨rfl, rfl, ?_⟩, trivial⟩ ⟨rfl, ⟨rfl, rfl, rfl⟩, rfl, rfl, trivial⟩⟩
        rw [step _ hkp]; simp
      · refine ⟨fun h13 => ?_, fun h13 => ?_⟩
        · have hkp : kept t[k] = false := by have := of_decide_eq_true h13; rw [hg] at this; simp [kept]; omega
          refine .inl ⟨⟨by omega, by omega⟩, _, _, _, ⟨k + 1, rfl, hlt, rfl, rfl⟩, by omega, Mv.of [.old 0] rfl rfl rfl ⟨⟨rfl, rfl, ?_⟩, trivial⟩ ⟨rfl, ⟨rfl, rfl, rfl⟩, rfl, rfl, trivial⟩⟩
          rw [step _ hkp]; simp
        · have hkp : kept t[k] = true := by
            have h1 := of_decide_eq_false h9; have h2 := of_decide_eq_false h10; have h3 := of_decide_eq_false h13
            rw [hg] at h1 h2 h3; simp [kept]; omega
          have hlen : ((t.take k).filter kept).length ≤ k := Nat.le_trans (List.length_filter_le _ _) (by simp; omega)
          refine ⟨⟨by omega, by omega⟩, CallsAbs.frame (WriteByte_ok ((t.take k).filter kept) (t.getD ((k : Nat) : Int).toNat 0) (by omega)) [.old 0] ⟨Nat.zero_le _, rfl, rfl, ⟨⟨rfl, rfl, rfl⟩, trivial⟩⟩ ⟨⟨rfl, rfl, rfl⟩, rfl, trivial⟩ ?_⟩
          rintro _ _ ⟨rfl, rfl⟩
          refine ⟨.nili, [(0, .bld 77 5 ((t.take (k + 1)).filter kept))], ⟨⟨rfl, rfl, ?_⟩, trivial⟩, rfl, trivial, ?_⟩
          · rw [step _ hkp, hg]; rfl
          · exact .inl ⟨⟨by omega, by omega⟩, _, _, _, ⟨k + 1, rfl, hlt, rfl, rfl⟩, by omega, Mv.of [.old 0] rfl rfl rfl ⟨⟨rfl, rfl, rfl⟩, trivial⟩ ⟨rfl, ⟨rfl, rfl, rfl⟩, rfl, rfl, trivial⟩⟩
  · have hk' : k = t.length := by have := of_decide_eq_false h; omega
    subst hk'
    rw [List.take_length]
    have hlen : (t.filter kept).length ≤ t.length := List.length_filter_le _ _
    refine CallsAbs.frame (String_ok (t.filter kept) (by omega)) [.old 0] ⟨Nat.zero_le _, rfl, rfl, ⟨⟨rfl, rfl, rfl⟩, trivial⟩⟩ ⟨⟨rfl, rfl, rfl⟩, trivial⟩ ?_
    rintro _ _ ⟨rfl, rfl⟩
    refine ⟨.d (.str (t.filter kept)), [(0, .dead)], ⟨trivial, trivial⟩, rfl, rfl, ?_⟩
    refine ⟨.d (.str (bare s)), ⟨0, []⟩, fin_mv [] rfl rfl rfl trivial ?_, rfl, rfl⟩
    exact congrArg D.str (by rw [bare, ← ht])
def letter (c : UInt8) : Bool := decide (97 ≤ c.toNat) && decide (c.toNat ≤ 122)
def tailc (c : UInt8) : Bool := (decide (48 ≤ c.toNat) && decide (c.toNat ≤ 57)) || decide (c.toNat = 43) || decide (c.toNat = 45) || decide (c.toNat = 46)
def scan (acc : List UInt8) : List UInt8 → Option (List UInt8)
  | [] => none
  | c :: r => if letter c then scan (acc ++ [c]) r else if acc = [] then none else if c.toNat = 58 then some acc else if tailc c then scan (acc ++ [c]) r else none
def schemeO (s : List UInt8) : Option (List UInt8) := scan [] (lower (bare s))
def schemeS (s : List UInt8) : List UInt8 := (schemeO s).getD []
def schemeB (s : List UInt8) : Bool := (schemeO s).isSome
theorem bare_len (s : List UInt8) : (bare s).length ≤ s.length := by
  have h1 : (trimL s).length ≤ s.length := (List.dropWhile_suffix _).length_le
  have h2 : (trimR (trimL s)).length ≤ (trimL s).length := by
    unfold trimR
    rw [List.length_reverse]
    exact Nat.le_trans (List.dropWhile_suffix _).length_le (by simp)
  exact Nat.le_trans (List.length_filter_le _ _) (Nat.le_trans h2 h1)
theorem lower_len (s : List UInt8) : (lower s).length = s.length := by simp [lower]
/-- What the scan does at a place. -/
theorem scan_at (b : List UInt8) (k : Nat) (h : k < b.length) : scan (b.take k) (b.drop k) =
    if letter b[k] then scan (b.take (k + 1)) (b.drop (k + 1)) else if k = 0 then none else if b[k].toNat = 58 then some (b.take k) else if tailc b[k] then scan (b.take (k + 1)) (b.drop (k + 1)) else none := by
  rw [List.drop_eq_getElem_cons h, scan, ← List.take_succ_eq_append_getElem h]
  have : b.take k = [] ↔ k = 0 := by
    rw [List.take_eq_nil_iff]
    constructor
    · rintro (h | h)
      · exact h
      · subst h; simp at h
    · exact .inl
  simp only [this]
theorem scan_end (b : List UInt8) : scan (b.take b.length) (b.drop b.length) = none := by
  rw [List.drop_length]; rfl
def schemeV (s : List UInt8) : AV := .tup [.d (.str (schemeS s)), .d (.bool (schemeB s))]
theorem schemeV_none {s : List UInt8} (h : schemeO s = none) : schemeV s = .tup [.d (.str []), .d (.bool false)] := by simp [schemeV, schemeS, schemeB, h]
theorem schemeV_some {s x : List UInt8} (h : schemeO s = some x) : schemeV s = .tup [.d (.str x), .d (.bool true)] := by simp [schemeV, schemeS, schemeB, h]
set_option maxRecDepth 10000 in
theorem Scheme_ok (s : List UInt8) (hs : s.length ≤ 140737488355328) : PureC Tryd.prog 34 [.d (.str s)] (schemeV s) := by
  refine pure_okT Tryd.wf Tryd.tab_ok Tryd.func34 (by decide +kernel) rfl rfl rfl rfl ?_
  refine PureC.use (Bare_ok s (by omega) hs) (PureC.use (Lower_ok (bare s) (by have := bare_len s; omega)) ?_)
  generalize hb : lower (bare s) = b
  have hO : schemeO s = scan [] b := by rw [schemeO, hb]
  have hbl : b.length ≤ 140737488355328 := by rw [← hb, lower_len]; have := bare_len s; omega
  refine loopT Tryd.wf Tryd.tab_ok (fun n s' σ => ∃ k : Nat, n = b.length - k ∧ k ≤ b.length ∧ schemeO s = scan (b.take k) (b.drop k) ∧ s' = [(4, .d (.str b)), (11, .d (.int .i64 b.length)), (12, .d (.int .i64 k))] ∧ σ = ⟨0, []⟩)
    ⟨0, rfl, Nat.zero_le _, hO, rfl, rfl⟩ (Mv.of [] rfl rfl rfl trivial ⟨rfl, rfl, rfl, trivial⟩) ?_
  rintro _ _ _ ⟨k, rfl, hk, hI, rfl, rfl⟩
  have no : schemeO s = none → ∃ r2 σ2, FinMove ⟨0, []⟩ (.tup [.d (.str []), .d (.bool false)]) ⟨0, []⟩ r2 σ2 ∧ r2 = schemeV s := fun h => ⟨_, _, FinMove.refl _ _ _, (schemeV_none h).symm⟩
  refine ⟨fun h => ?_, fun h => ?_⟩
  · have hlt : k < b.length := by have := of_decide_eq_true h; omega
    have hg := getD_at b k hlt
    have hu := b[k].toNat_lt
    rw [scan_at b k hlt] at hI
    have go : schemeO s = scan (b.take (k + 1)) (b.drop (k + 1)) → (∃ k' : Nat, b.length - (k + 1) = b.length - k' ∧ k' ≤ b.length ∧ schemeO s = scan (b.take k') (b.drop k') ∧ [(4, .d (.str b)), (11, .d (.int .i64 b.length)), (12, .d (.int .i64 ((k + 1 : Nat) : Int)))] = [(4, AV.d (.str b)), (11, .d (.int .i64 b.length)), (12, .d (.int .i64 k'))] ∧ (⟨0, []⟩ : Store) = ⟨0, []⟩) :=
      fun h => ⟨k + 1, rfl, hlt, h, rfl, rfl⟩
    -- behind the test for a letter
    have rest : letter b[k] = false → schemeO s = if k = 0 then none else if b[k].toNat = 58 then some (b.take k) else if tailc b[k] then scan (b.take (k + 1)) (b.drop (k + 1)) else none := fun hle => by rw [hI]; simp [hle]
    have hT : ∀ {p : Int → Prop} [DecidablePred p], decide (p ((b.getD ((k : Nat) : Int).toNat 0).toNat : Int)) = true → p (b[k].toNat : Int) := fun {p} _ h => by rw [hg] at h; exact of_decide_eq_true h
    have hF : ∀ {p : Int → Prop} [DecidablePred p], decide (p ((b.getD ((k : Nat) : Int).toNat 0).toNat : Int)) = false → ¬ p (b[k].toNat : Int) := fun {p} _ h => by rw [hg] at h; exact of_decide_eq_false h
    refine ⟨⟨by omega, by omega⟩, ⟨fun h1 => ⟨fun h2 => ?_, fun h2 => ?_⟩, fun h1 => ?_⟩⟩
    · have h1' := hT (p := fun x => 97 ≤ x) h1
      have h2' := hT (p := fun x => x ≤ 122) h2
      have hle : letter b[k] = true := by simp [letter]; omega
      rw [if_pos hle] at hI
      exact .inl ⟨⟨by omega, by omega⟩, _, _, _, go hI, by omega, Mv.of [] rfl rfl rfl trivial ⟨rfl, rfl, rfl, trivial⟩⟩
    all_goals
      have hr := rest (by first | (have := hT (p := fun x => 97 ≤ x) h1; have := hF (p := fun x => x ≤ 122) h2; simp [letter]; omega) | (have := hF (p := fun x => 97 ≤ x) h1; simp [letter]; omega))
      refine ⟨fun h0 => ?_, fun h0 => ?_⟩
      · have h0' := of_decide_eq_true h0
        exact no (by rw [hr, if_pos (by omega)])
      · have h0' := of_decide_eq_false h0
        rw [if_neg (by omega)] at hr
        refine ⟨fun h58 => ?_, fun h58 => ?_⟩
        · have h58' := hT (p := fun x => x = 58) h58
          rw [if_pos (by omega)] at hr
          exact ⟨⟨by omega, by omega, by omega⟩, _, _, FinMove.refl _ _ _, (schemeV_some hr).symm⟩
        · have h58' := hF (p := fun x => x = 58) h58
          rw [if_neg (by omega)] at hr
          refine ⟨fun h48 => ⟨fun h57 => ⟨fun h43 => ⟨fun h45 => ⟨fun h46 => ?_, fun h46 => ?_⟩, fun h45 => ?_⟩, fun h43 => ?_⟩, fun h57 => ?_⟩, fun h48 => ⟨fun h43 => ⟨fun h45 => ⟨fun h46 => ?_, fun h46 => ?_⟩, fun h45 => ?_⟩, fun h43 => ?_⟩⟩
          · have := hT (p := fun x => x = 46) h46
            exact .inl ⟨⟨by omega, by omega⟩, _, _, _, go (by rw [hr, if_pos (by simp [tailc]; omega)]), by omega, Mv.of [] rfl rfl rfl trivial ⟨rfl, rfl, rfl, trivial⟩⟩
          · have := hF (p := fun x => x = 46) h46; have := hF (p := fun x => x = 45) h45; have := hF (p := fun x => x = 43) h43; have := hF (p := fun x => x ≤ 57) h57
            exact no (by rw [hr, if_neg (by simp [tailc]; omega)])
          · have := hT (p := fun x => x = 45) h45
            exact .inl ⟨⟨by omega, by omega⟩, _, _, _, go (by rw [hr, if_pos (by simp [tailc]; omega)]), by omega, Mv.of [] rfl rfl rfl trivial ⟨rfl, rfl, rfl, trivial⟩⟩
          · have := hT (p := fun x => x = 43) h43
            exact .inl ⟨⟨by omega, by omega⟩, _, _, _, go (by rw [hr, if_pos (by simp [tailc]; omega)]), by omega, Mv.of [] rfl rfl rfl trivial ⟨rfl, rfl, rfl, trivial⟩⟩
          · have := hT (p := fun x => x ≤ 57) h57; have := hT (p := fun x => 48 ≤ x) h48
            exact .inl ⟨⟨by omega, by omega⟩, _, _, _, go (by rw [hr, if_pos (by simp [tailc]; omega)]), by omega, Mv.of [] rfl rfl rfl trivial ⟨rfl, rfl, rfl, trivial⟩⟩
          · have := hT (p := fun x => x = 46) h46
            exact .inl ⟨⟨by omega, by omega⟩, _, _, _, go (by rw [hr, if_pos (by simp [tailc]; omega)]), by omega, Mv.of [] rfl rfl rfl trivial ⟨rfl, rfl, rfl, trivial⟩⟩
          · have := hF (p := fun x => x = 46) h46; have := hF (p := fun x => x = 45) h45; have := hF (p := fun x => x = 43) h43; have := hF (p := fun x => 48 ≤ x) h48
            exact no (by rw [hr, if_neg (by simp [tailc]; omega)])
          · have := hT (p := fun x => x = 45) h45
            exact .inl ⟨⟨by omega, by omega⟩, _, _, _, go (by rw [hr, if_pos (by simp [tailc]; omega)]), by omega, Mv.of [] rfl rfl rfl trivial ⟨rfl, rfl, rfl, trivial⟩⟩
          · have := hT (p := fun x => x = 43) h43
            exact .inl ⟨⟨by omega, by omega⟩, _, _, _, go (by rw [hr, if_pos (by simp [tailc]; omega)]), by omega, Mv.of [] rfl rfl rfl trivial ⟨rfl, rfl, rfl, trivial⟩⟩
  · have hk' : k = b.length := by have := of_decide_eq_false h; omega
    subst hk'
    exact no (hI.trans (scan_end b))
def badc (c : UInt8) : Bool := decide (c.toNat < 32) || decide (c.toNat = 92) || decide (c.toNat = 127)
def allowed (s : List UInt8) (l : List (List UInt8)) : Bool := if schemeB s then decide (schemeS s ∈ l) else !hasPre (bare s) [47, 47] && (bare s).all fun c => !badc c
theorem all_split (b : List UInt8) (k : Nat) (h : k < b.length) : (b.drop k).all (fun c => !badc c) = (!badc b[k] && (b.drop (k + 1)).all fun c => !badc c) := by
  rw [List.drop_eq_getElem_cons h, List.all_cons]
set_option maxRecDepth 10000 in
theorem Allowed_ok (s : List UInt8) (l : List (List UInt8)) (hs : s.length ≤ 140737488355328) (hl : l.length ≤ 4611686018427387903) : PureC Tryd.prog 16 [.d (.str s), .d (.sl (strsD l))] (.d (.bool (allowed s l))) := by
  refine pure_okT Tryd.wf Tryd.tab_ok Tryd.func16 (by decide +kernel) rfl rfl rfl rfl ?_
  refine PureC.use (Scheme_ok s hs) ⟨fun h => ?_, fun h => ?_⟩
  · have hb : schemeB s = true := h
    exact PureC.use (Contains_ok l (schemeS s) hl) ⟨_, _, FinMove.refl _ _ _, congrArg (fun b => AV.d (.bool b)) (by rw [allowed, if_pos hb])⟩
  · have hb : ¬ schemeB s = true := by rw [show schemeB s = false from h]; simp
    have hal : allowed s l = (!hasPre (bare s) [47, 47] && (bare s).all fun c => !badc c) := by rw [allowed, if_neg hb]
    have hbl := bare_len s
    refine PureC.use (Bare_ok s (by omega) hs) (PureC.use (HasPrefix_ok (bare s) [47, 47]) ⟨fun h2 => ?_, fun h2 => ?_⟩)
    · exact ⟨_, _, FinMove.refl _ _ _, congrArg (fun b => AV.d (.bool b)) (by rw [hal, h2]; rfl)⟩
    · rw [h2] at hal
      generalize bare s = b at *
      refine loopT Tryd.wf Tryd.tab_ok (fun n s' σ => ∃ k : Nat, n = b.length - k ∧ k ≤ b.length ∧ allowed s l = ((b.drop k).all fun c => !badc c) ∧ s' = [(7, .d (.str b)), (23, .d (.int .i64 b.length)), (24, .d (.int .i64 k))] ∧ σ = ⟨0, []⟩)
        ⟨0, rfl, Nat.zero_le _, by rw [hal]; simp, rfl, rfl⟩ (Mv.of [] rfl rfl rfl trivial ⟨rfl, rfl, rfl, trivial⟩) ?_
      rintro _ _ _ ⟨k, rfl, hk, hI, rfl, rfl⟩
      have no : allowed s l = false → ∃ r2 σ2, FinMove ⟨0, []⟩ (.d (.bool false)) ⟨0, []⟩ r2 σ2 ∧ r2 = AV.d (.bool (allowed s l)) := fun h => ⟨_, _, FinMove.refl _ _ _, by rw [h]⟩
      refine ⟨fun h3 => ?_, fun h3 => ?_⟩
      · have hlt : k < b.length := by have := of_decide_eq_true h3; omega
        have hg := getD_at b k hlt
        rw [all_split b k hlt] at hI
        clear h3
        refine ⟨⟨by omega, by omega⟩, ⟨fun a => ⟨⟨by omega, by omega⟩, ⟨fun c => ⟨⟨by omega, by omega⟩, ⟨fun d => ?_, fun d => ?_⟩⟩, fun c => ?_⟩⟩, fun a => ?_⟩⟩
        all_goals
          try simp only [hg, decide_eq_true_eq, decide_eq_false_iff_not] at a
          try simp only [hg, decide_eq_true_eq, decide_eq_false_iff_not] at c
          try simp only [hg, decide_eq_true_eq, decide_eq_false_iff_not] at d
        · exact no (by rw [hI]; simp [badc]; omega)
        · refine .inl ⟨⟨by omega, by omega⟩, _, _, _, ⟨k + 1, rfl, hlt, ?_, rfl, rfl⟩, by omega, Mv.of [] rfl rfl rfl trivial ⟨rfl, rfl, rfl, trivial⟩⟩
          have : badc b[k] = false := by simp [badc]; omega
          rw [hI, this]; rfl
        · exact no (by rw [hI]; simp [badc]; omega)
        · exact no (by rw [hI]; simp [badc]; omega)
      · have hk' : k = b.length := by have := of_decide_eq_false h3; omega
        subst hk'
        exact ⟨_, _, FinMove.refl _ _ _, congrArg (fun b => AV.d (.bool b)) (by rw [hI]; simp)⟩
end Go.Proofs.YtfchacihhljfhaaDoor

namespace Go.Proofs.YtfchacihhljfhaaDoor
open Go.Aw
set_option maxHeartbeats 1600000
set_option linter.unusedSimpArgs false
set_option linter.unusedVariables false
def attrP (p : Pol) (el a : List UInt8) : Bool := decide (el ∈ p.el) && (decide ([42, 46] ++ a ∈ p.at') || decide (el ++ [46] ++ a ∈ p.at'))
set_option maxRecDepth 100000 in
theorem Elem_ok (p : Pol) (nm : List UInt8) (hp : Fits p) : PureC Tryd.prog 19 [polA p, .d (.str nm)] (.d (.bool (decide (nm ∈ p.el)))) := by
  have hc1 := Contains_ok p.el nm (by have := hp.el.1; omega)
  refine pure_okT Tryd.wf Tryd.tab_ok Tryd.func19 (by decide +kernel) rfl rfl rfl rfl ?_
  repeat' (first | refine PureC.use hc1 ?_ |                       refine ⟨fun _ => ?_, fun h => absurd h (by decide)⟩ | refine ⟨fun h => absurd h (by decide), fun _ => ?_⟩ | (refine ⟨fun h => ?_, fun h => ?_⟩ <;> (try simp only [decide_eq_true_eq, decide_eq_false_iff_not, Bool.not_eq_true', Bool.not_eq_false', Bool.not_eq_true, Bool.not_eq_false, not_true_eq_false, beq_iff_eq, beq_eq_false_iff_ne, ne_eq, decide_eq_decide, true_iff, false_iff, iff_true, iff_false, true_and, and_true, false_or, or_false, Bool.and_true, Bool.and_eq_true, Bool.and_eq_false_iff, Bool.or_eq_true, Bool.or_eq_false_iff, List.length_cons, List.length_nil] at h) <;> (try (exfalso; first | omega | exact h rfl | (cases h; done) | exact absurd h (by assumption) | exact h (by assumption) | (simp at h; done)))) | refine ⟨⟨by (first | omega | (simp only [lenS]; omega)), by (first | omega | (simp only [lenS]; omega))⟩, _, by assumption, by rfl, ?_⟩ | refine .inl ⟨⟨by (first | omega | (simp only [lenS]; omega)), by (first | omega | (simp only [lenS]; omega))⟩, ?_⟩ | refine ⟨⟨by (first | omega | (simp only [lenS]; omega)), by (first | omega | (simp only [lenS]; omega))⟩, ?_⟩ | refine ⟨⟨by (first | omega | (simp only [lenS]; omega)), by (first | omega | (simp only [lenS]; omega)), by (first | omega | (simp only [lenS]; omega))⟩, ?_⟩ | refine ⟨.inl rfl, ?_⟩ | refine ⟨.inr (.inl (by (first | omega | (simp only [lenS]; omega)))), ?_⟩ | refine ⟨_, rfl, rfl, by (first | exact Nat.le_refl _ | exact Nat.le_of_ble_eq_true rfl | decide), ?_⟩ | refine ⟨_, rfl, by (first | exact Nat.le_refl _ | exact Nat.le_of_ble_eq_true rfl | decide), ?_⟩ | refine ⟨by (first | exact Nat.le_refl _ | exact Nat.le_of_ble_eq_true rfl | decide | exact rfl), ?_⟩ | refine ⟨show _ ≤ (9223372036854775807 : Nat) by (first | omega | (simp only [lenS]; omega)), ?_⟩ | refine ⟨show _ ≠ (0 : Int) by (first | omega | (simp only [lenS]; omega)), ?_⟩ | refine ⟨_, rfl, _, rfl, ?_⟩ | refine ⟨_, by assumption, Nat.le_of_ble_eq_true rfl, ?_⟩ | refine ⟨_, by assumption, _, rfl, ?_⟩ | refine ⟨_, rfl, ?_⟩ | fail)
  exact ⟨_, _, fin_out rfl, rfl⟩
set_option maxRecDepth 100000 in
theorem Attr_ok (p : Pol) (el a : List UInt8) (hp : Fits p) (he : el.length ≤ 1000000) (ha : a.length ≤ 1000000) : PureC Tryd.prog 21 [polA p, .d (.str el), .d (.str a)] (.d (.bool (attrP p el a))) := by
  have hc1 := Elem_ok p el hp
  have hc2 := Contains_ok p.at' ([42, 46] ++ a) (by have := hp.at'.1; omega)
  have hc3 := Contains_ok p.at' (el ++ [46] ++ a) (by have := hp.at'.1; omega)
  unfold attrP
  by_cases h1 : el ∈ p.el
  · rw [decide_eq_true h1] at hc1 ⊢
    by_cases h2 : [42, 46] ++ a ∈ p.at'
    · rw [decide_eq_true h2] at hc2 ⊢
      refine pure_okT Tryd.wf Tryd.tab_ok Tryd.func21 (by decide +kernel) rfl rfl rfl rfl ?_
      repeat' (first | refine PureC.use hc1 ?_ | refine PureC.use hc2 ?_ | refine PureC.use hc3 ?_ |                     refine ⟨fun _ => ?_, fun h => absurd h (by decide)⟩ | refine ⟨fun h => absurd h (by decide), fun _ => ?_⟩ | (refine ⟨fun h => ?_, fun h => ?_⟩ <;> (try simp only [decide_eq_true_eq, decide_eq_false_iff_not, Bool.not_eq_true', Bool.not_eq_false', Bool.not_eq_true, Bool.not_eq_false, not_true_eq_false, beq_iff_eq, beq_eq_false_iff_ne, ne_eq, decide_eq_decide, true_iff, false_iff, iff_true, iff_false, true_and, and_true, false_or, or_false, Bool.and_true, Bool.and_eq_true, Bool.and_eq_false_iff, Bool.or_eq_true, Bool.or_eq_false_iff, List.length_cons, List.length_nil] at h) <;> (try (exfalso; first | omega | exact h rfl | (cases h; done) | exact absurd h (by assumption) | exact h (by assumption) | (simp at h; done)))) | refine ⟨⟨by (first | omega | (simp only [lenS]; omega)), by (first | omega | (simp only [lenS]; omega))⟩, _, by assumption, by rfl, ?_⟩ | refine .inl ⟨⟨by (first | omega | (simp only [lenS]; omega)), by (first | omega | (simp only [lenS]; omega))⟩, ?_⟩ | refine ⟨⟨by (first | omega | (simp only [lenS]; omega)), by (first | omega | (simp only [lenS]; omega))⟩, ?_⟩ | refine ⟨⟨by (first | omega | (simp only [lenS]; omega)), by (first | omega | (simp only [lenS]; omega)), by (first | omega | (simp only [lenS]; omega))⟩, ?_⟩ | refine ⟨.inl rfl, ?_⟩ | refine ⟨.inr (.inl (by (first | omega | (simp only [lenS]; omega)))), ?_⟩ | refine ⟨_, rfl, rfl, by (first | exact Nat.le_refl _ | exact Nat.le_of_ble_eq_true rfl | decide), ?_⟩ | refine ⟨_, rfl, by (first | exact Nat.le_refl _ | exact Nat.le_of_ble_eq_true rfl | decide), ?_⟩ | refine ⟨by (first | exact Nat.le_refl _ | exact Nat.le_of_ble_eq_true rfl | decide | exact rfl), ?_⟩ | refine ⟨show _ ≤ (9223372036854775807 : Nat) by (first | omega | (simp only [lenS]; omega)), ?_⟩ | refine ⟨show _ ≠ (0 : Int) by (first | omega | (simp only [lenS]; omega)), ?_⟩ | refine ⟨_, rfl, _, rfl, ?_⟩ | refine ⟨_, by assumption, Nat.le_of_ble_eq_true rfl, ?_⟩ | refine ⟨_, by assumption, _, rfl, ?_⟩ | refine ⟨_, rfl, ?_⟩ | fail)
      exact ⟨_, _, fin_out rfl, rfl⟩
    · rw [decide_eq_false h2] at hc2 ⊢
      refine pure_okT Tryd.wf Tryd.tab_ok Tryd.func21 (by decide +kernel) rfl rfl rfl rfl ?_
      repeat' (first | refine PureC.use hc1 ?_ | refine PureC.use hc2 ?_ | refine PureC.use hc3 ?_ |                     refine ⟨fun _ => ?_, fun h => absurd h (by decide)⟩ | refine ⟨fun h => absurd h (by decide), fun _ => ?_⟩ | (refine ⟨fun h => ?_, fun h => ?_⟩ <;> (try simp only [decide_eq_true_eq, decide_eq_false_iff_not, Bool.not_eq_true', Bool.not_eq_false', Bool.not_eq_true, Bool.not_eq_false, not_true_eq_false, beq_iff_eq, beq_eq_false_iff_ne, ne_eq, decide_eq_decide, true_iff, false_iff, iff_true, iff_false, true_and, and_true, false_or, or_false, Bool.and_true, Bool.and_eq_true, Bool.and_eq_false_iff, Bool.or_eq_true, Bool.or_eq_false_iff, List.length_cons, List.length_nil] at h) <;> (try (exfalso; first | omega | exact h rfl | (cases h; done) | exact absurd h (by assumption) | exact h (by assumption) | (simp at h; done)))) | refine ⟨⟨by (first | omega | (simp only [lenS]; omega)), by (first | omega | (simp only [lenS]; omega))⟩, _, by assumption, by rfl, ?_⟩ | refine .inl ⟨⟨by (first | omega | (simp only [lenS]; omega)), by (first | omega | (simp only [lenS]; omega))⟩, ?_⟩ | refine ⟨⟨by (first | omega | (simp only [lenS]; omega)), by (first | omega | (simp only [lenS]; omega))⟩, ?_⟩ | refine ⟨⟨by (first | omega | (simp only [lenS]; omega)), by (first | omega | (simp only [lenS]; omega)), by (first | omega | (simp only [lenS]; omega))⟩, ?_⟩ | refine ⟨.inl rfl, ?_⟩ | refine ⟨.inr (.inl (by (first | omega | (simp only [lenS]; omega)))), ?_⟩ | refine ⟨_, rfl, rfl, by (first | exact Nat.le_refl _ | exact Nat.le_of_ble_eq_true rfl | decide), ?_⟩ | refine ⟨_, rfl, by (first | exact Nat.le_refl _ | exact Nat.le_of_ble_eq_true rfl | decide), ?_⟩ | refine ⟨by (first | exact Nat.le_refl _ | exact Nat.le_of_ble_eq_true rfl | decide | exact rfl), ?_⟩ | refine ⟨show _ ≤ (9223372036854775807 : Nat) by (first | omega | (simp only [lenS]; omega)), ?_⟩ | refine ⟨show _ ≠ (0 : Int) by (first | omega | (simp only [lenS]; omega)), ?_⟩ | refine ⟨_, rfl, _, rfl, ?_⟩ | refine ⟨_, by assumption, Nat.le_of_ble_eq_true rfl, ?_⟩ | refine ⟨_, by assumption, _, rfl, ?_⟩ | refine ⟨_, rfl, ?_⟩ | fail)
      exact ⟨_, _, fin_out rfl, congrArg (fun b => AV.d (.bool b)) (by simp)⟩
  · rw [decide_eq_false h1] at hc1 ⊢
    refine pure_okT Tryd.wf Tryd.tab_ok Tryd.func21 (by decide +kernel) rfl rfl rfl rfl ?_
    repeat' (first | refine PureC.use hc1 ?_ | refine PureC.use hc2 ?_ | refine PureC.use hc3 ?_ |                     refine ⟨fun _ => ?_, fun h => absurd h (by decide)⟩ | refine ⟨fun h => absurd h (by decide), fun _ => ?_⟩ | (refine ⟨fun h => ?_, fun h => ?_⟩ <;> (try simp only [decide_eq_true_eq, decide_eq_false_iff_not, Bool.not_eq_true', Bool.not_eq_false', Bool.not_eq_true, Bool.not_eq_false, not_true_eq_false, beq_iff_eq, beq_eq_false_iff_ne, ne_eq, decide_eq_decide, true_iff, false_iff, iff_true, iff_false, true_and, and_true, false_or, or_false, Bool.and_true, Bool.and_eq_true, Bool.and_eq_false_iff, Bool.or_eq_true, Bool.or_eq_false_iff, List.length_cons, List.length_nil] at h) <;> (try (exfalso; first | omega | exact h rfl | (cases h; done) | exact absurd h (by assumption) | exact h (by assumption) | (simp at h; done)))) | refine ⟨⟨by (first | omega | (simp only [lenS]; omega)), by (first | omega | (simp only [lenS]; omega))⟩, _, by assumption, by rfl, ?_⟩ | refine .inl ⟨⟨by (first | omega | (simp only [lenS]; omega)), by (first | omega | (simp only [lenS]; omega))⟩, ?_⟩ | refine ⟨⟨by (first | omega | (simp only [lenS]; omega)), by (first | omega | (simp only [lenS]; omega))⟩, ?_⟩ | refine ⟨⟨by (first | omega | (simp only [lenS]; omega)), by (first | omega | (simp only [lenS]; omega)), by (first | omega | (simp only [lenS]; omega))⟩, ?_⟩ | refine ⟨.inl rfl, ?_⟩ | refine ⟨.inr (.inl (by (first | omega | (simp only [lenS]; omega)))), ?_⟩ | refine ⟨_, rfl, rfl, by (first | exact Nat.le_refl _ | exact Nat.le_of_ble_eq_true rfl | decide), ?_⟩ | refine ⟨_, rfl, by (first | exact Nat.le_refl _ | exact Nat.le_of_ble_eq_true rfl | decide), ?_⟩ | refine ⟨by (first | exact Nat.le_refl _ | exact Nat.le_of_ble_eq_true rfl | decide | exact rfl), ?_⟩ | refine ⟨show _ ≤ (9223372036854775807 : Nat) by (first | omega | (simp only [lenS]; omega)), ?_⟩ | refine ⟨show _ ≠ (0 : Int) by (first | omega | (simp only [lenS]; omega)), ?_⟩ | refine ⟨_, rfl, _, rfl, ?_⟩ | refine ⟨_, by assumption, Nat.le_of_ble_eq_true rfl, ?_⟩ | refine ⟨_, by assumption, _, rfl, ?_⟩ | refine ⟨_, rfl, ?_⟩ | fail)
    exact ⟨_, _, fin_out rfl, rfl⟩
def clsB (l : List (List UInt8)) : List (List UInt8) → List (List UInt8) → Bool
  | _, [] => true
  | seen, c :: r => (!decide (c ∈ seen) && decide (c ∈ l)) && clsB l (c :: seen) r
def seenR : List (List UInt8) → List (AV × AV)
  | [] => []
  | c :: r => mput c (.d (.bool true)) (seenR r)
theorem seenR_keys : ∀ q, strKeys (seenR q)
  | [] => fun e h => by simp [seenR] at h
  | p :: r => strKeys_mputS _ _ _ (seenR_keys r)
theorem seenR_pure : ∀ q, ∀ e ∈ seenR q, e.1.pure = true ∧ e.2.pure = true
  | [] => fun e h => by simp [seenR] at h
  | p :: r => pure_mputS _ _ rfl _ (seenR_pure r)
theorem seenR_look (x : List UInt8) : ∀ q, (mlook x (seenR q)).getD (.d (.bool false)) = .d (.bool (decide (x ∈ q)))
  | [] => rfl
  | p :: r => by
    rw [seenR, mlook_mputS _ _ _ _ (seenR_keys r)]
    by_cases h : x = p
    · rw [if_pos h, h]; simp
    · rw [if_neg h, seenR_look x r]; simp [h]
set_option maxRecDepth 100000 in
set_option maxHeartbeats 1000000 in
theorem classes_ok (v : List UInt8) (l : List (List UInt8)) (hv : v.length ≤ 1000000) (hl : l.length ≤ 1000000) : PureC Tryd.prog 22 [.d (.str v), .d (.sl (strsD l))] (.d (.bool (clsB l [] (splitB 32 v)))) := by
  have hc1 := Split_ok 32 v (by omega)
  have hn := strsD_len (splitB 32 v)
  have hcnt := splitB_len 32 v
  have hcl := List.count_le_length (a := 32) (l := v)
  generalize splitB 32 v = ps at *
  refine pure_okT Tryd.wf Tryd.tab_ok Tryd.func22 (by decide +kernel) rfl rfl rfl rfl ?_
  repeat' (first | refine PureC.use hc1 ?_ | refine PureC.use hc2 ?_ |                      refine ⟨fun _ => ?_, fun h => absurd h (by decide)⟩ | refine ⟨fun h => absurd h (by decide), fun _ => ?_⟩ | (refine ⟨fun h => ?_, fun h => ?_⟩ <;> (try simp only [decide_eq_true_eq, decide_eq_false_iff_not, Bool.not_eq_true', Bool.not_eq_false', Bool.not_eq_true, Bool.not_eq_false, not_true_eq_false, beq_iff_eq, beq_eq_false_iff_ne, ne_eq, decide_eq_decide, true_iff, false_iff, iff_true, iff_false, true_and, and_true, false_or, or_false, Bool.and_true, Bool.and_eq_true, Bool.and_eq_false_iff, Bool.or_eq_true, Bool.or_eq_false_iff, List.length_cons, List.length_nil] at h) <;> (try (exfalso; first | omega | exact h rfl | (cases h; done) | exact absurd h (by assumption) | exact h (by assumption) | (simp at h; done)))) | refine ⟨⟨by (first | omega | (simp only [lenS]; omega)), by (first | omega | (simp only [lenS]; omega))⟩, _, by assumption, by rfl, ?_⟩ | refine .inl ⟨⟨by (first | omega | (simp only [lenS]; omega)), by (first | omega | (simp only [lenS]; omega))⟩, ?_⟩ | refine ⟨⟨by (first | omega | (simp only [lenS]; omega)), by (first | omega | (simp only [lenS]; omega))⟩, ?_⟩ | refine ⟨⟨by (first | omega | (simp only [lenS]; omega)), by (first | omega | (simp only [lenS]; omega)), by (first | omega | (simp only [lenS]; omega))⟩, ?_⟩ | refine ⟨.inl rfl, ?_⟩ | refine ⟨.inr (.inl (by (first | omega | (simp only [lenS]; omega)))), ?_⟩ | refine ⟨_, rfl, rfl, by (first | exact Nat.le_refl _ | exact Nat.le_of_ble_eq_true rfl | decide), ?_⟩ | refine ⟨_, rfl, by (first | exact Nat.le_refl _ | exact Nat.le_of_ble_eq_true rfl | decide), ?_⟩ | refine ⟨by (first | exact Nat.le_refl _ | exact Nat.le_of_ble_eq_true rfl | decide | exact rfl), ?_⟩ | refine ⟨show _ ≤ (9223372036854775807 : Nat) by (first | omega | (simp only [lenS]; omega)), ?_⟩ | refine ⟨show _ ≠ (0 : Int) by (first | omega | (simp only [lenS]; omega)), ?_⟩ | refine ⟨_, rfl, _, rfl, ?_⟩ | refine ⟨_, by assumption, Nat.le_of_ble_eq_true rfl, ?_⟩ | refine ⟨_, by assumption, _, rfl, ?_⟩ | refine ⟨_, rfl, ?_⟩ | fail)
  refine loopT Tryd.wf Tryd.tab_ok (fun n s' σ => ∃ (k : Nat) (q : List (List UInt8)), n = ps.length - k ∧ k ≤ ps.length ∧ clsB l [] ps = clsB l q (ps.drop k) ∧ s' = [(1, .d (.sl (strsD l))), (5, .mp 0), (10, .d (.sl (strsD ps))), (11, .d (.int .i64 ps.length)), (12, .d (.int .i64 k))] ∧ σ = ⟨1, [(0, .map (seenR q))]⟩)
    ⟨0, [], rfl, Nat.zero_le _, rfl, rfl, rfl⟩ (Mv.of [.old 0] rfl rfl rfl ⟨.inl ⟨rfl, seenR_pure _⟩, trivial⟩ ⟨rfl, rfl, rfl, congrArg (fun n : Nat => D.int .i64 n) hn.symm, rfl, trivial⟩) ?_
  rintro _ _ _ ⟨k, q, rfl, hk, hI, rfl, rfl⟩
  by_cases hlt : k < ps.length
  · have hg := strsD_get ps k hlt
    rw [List.drop_eq_getElem_cons hlt, clsB] at hI
    have hc2 := Contains_ok l ps[k] (by omega)
    generalize ps[k] = p at *
    repeat' (first | refine PureC.use hc1 ?_ | refine PureC.use hc2 ?_ |                      refine ⟨fun _ => ?_, fun h => absurd h (by decide)⟩ | refine ⟨fun h => absurd h (by decide), fun _ => ?_⟩ | (refine ⟨fun h => ?_, fun h => ?_⟩ <;> (try simp only [decide_eq_true_eq, decide_eq_false_iff_not, Bool.not_eq_true', Bool.not_eq_false', Bool.not_eq_true, Bool.not_eq_false, not_true_eq_false, beq_iff_eq, beq_eq_false_iff_ne, ne_eq, decide_eq_decide, true_iff, false_iff, iff_true, iff_false, true_and, and_true, false_or, or_false, Bool.and_true, Bool.and_eq_true, Bool.and_eq_false_iff, Bool.or_eq_true, Bool.or_eq_false_iff, List.length_cons, List.length_nil] at h) <;> (try (exfalso; first | omega | exact h rfl | (cases h; done) | exact absurd h (by assumption) | exact h (by assumption) | (simp at h; done)))) | refine ⟨⟨by (first | omega | (simp only [lenS]; omega)), by (first | omega | (simp only [lenS]; omega))⟩, _, by assumption, by rfl, ?_⟩ | refine .inl ⟨⟨by (first | omega | (simp only [lenS]; omega)), by (first | omega | (simp only [lenS]; omega))⟩, ?_⟩ | refine ⟨⟨by (first | omega | (simp only [lenS]; omega)), by (first | omega | (simp only [lenS]; omega))⟩, ?_⟩ | refine ⟨⟨by (first | omega | (simp only [lenS]; omega)), by (first | omega | (simp only [lenS]; omega)), by (first | omega | (simp only [lenS]; omega))⟩, ?_⟩ | refine ⟨.inl rfl, ?_⟩ | refine ⟨.inr (.inl (by (first | omega | (simp only [lenS]; omega)))), ?_⟩ | refine ⟨_, rfl, rfl, by (first | exact Nat.le_refl _ | exact Nat.le_of_ble_eq_true rfl | decide), ?_⟩ | refine ⟨_, rfl, by (first | exact Nat.le_refl _ | exact Nat.le_of_ble_eq_true rfl | decide), ?_⟩ | refine ⟨by (first | exact Nat.le_refl _ | exact Nat.le_of_ble_eq_true rfl | decide | exact rfl), ?_⟩ | refine ⟨show _ ≤ (9223372036854775807 : Nat) by (first | omega | (simp only [lenS]; omega)), ?_⟩ | refine ⟨show _ ≠ (0 : Int) by (first | omega | (simp only [lenS]; omega)), ?_⟩ | refine ⟨_, rfl, _, rfl, ?_⟩ | refine ⟨_, by assumption, Nat.le_of_ble_eq_true rfl, ?_⟩ | refine ⟨_, by assumption, _, rfl, ?_⟩ | refine ⟨_, rfl, ?_⟩ | fail)
    refine ⟨_, _, rfl, seenR_keys q, rfl, rfl, ?_⟩
    rw [seenR_look]
    by_cases hin : p ∈ q
    · rw [decide_eq_true hin] at hI ⊢
      repeat' (first | refine PureC.use hc1 ?_ | refine PureC.use hc2 ?_ |                      refine ⟨fun _ => ?_, fun h => absurd h (by decide)⟩ | refine ⟨fun h => absurd h (by decide), fun _ => ?_⟩ | (refine ⟨fun h => ?_, fun h => ?_⟩ <;> (try simp only [decide_eq_true_eq, decide_eq_false_iff_not, Bool.not_eq_true', Bool.not_eq_false', Bool.not_eq_true, Bool.not_eq_false, not_true_eq_false, beq_iff_eq, beq_eq_false_iff_ne, ne_eq, decide_eq_decide, true_iff, false_iff, iff_true, iff_false, true_and, and_true, false_or, or_false, Bool.and_true, Bool.and_eq_true, Bool.and_eq_false_iff, Bool.or_eq_true, Bool.or_eq_false_iff, List.length_cons, List.length_nil] at h) <;> (try (exfalso; first | omega | exact h rfl | (cases h; done) | exact absurd h (by assumption) | exact h (by assumption) | (simp at h; done)))) | refine ⟨⟨by (first | omega | (simp only [lenS]; omega)), by (first | omega | (simp only [lenS]; omega))⟩, _, by assumption, by rfl, ?_⟩ | refine .inl ⟨⟨by (first | omega | (simp only [lenS]; omega)), by (first | omega | (simp only [lenS]; omega))⟩, ?_⟩ | refine ⟨⟨by (first | omega | (simp only [lenS]; omega)), by (first | omega | (simp only [lenS]; omega))⟩, ?_⟩ | refine ⟨⟨by (first | omega | (simp only [lenS]; omega)), by (first | omega | (simp only [lenS]; omega)), by (first | omega | (simp only [lenS]; omega))⟩, ?_⟩ | refine ⟨.inl rfl, ?_⟩ | refine ⟨.inr (.inl (by (first | omega | (simp only [lenS]; omega)))), ?_⟩ | refine ⟨_, rfl, rfl, by (first | exact Nat.le_refl _ | exact Nat.le_of_ble_eq_true rfl | decide), ?_⟩ | refine ⟨_, rfl, by (first | exact Nat.le_refl _ | exact Nat.le_of_ble_eq_true rfl | decide), ?_⟩ | refine ⟨by (first | exact Nat.le_refl _ | exact Nat.le_of_ble_eq_true rfl | decide | exact rfl), ?_⟩ | refine ⟨show _ ≤ (9223372036854775807 : Nat) by (first | omega | (simp only [lenS]; omega)), ?_⟩ | refine ⟨show _ ≠ (0 : Int) by (first | omega | (simp only [lenS]; omega)), ?_⟩ | refine ⟨_, rfl, _, rfl, ?_⟩ | refine ⟨_, by assumption, Nat.le_of_ble_eq_true rfl, ?_⟩ | refine ⟨_, by assumption, _, rfl, ?_⟩ | refine ⟨_, rfl, ?_⟩ | fail)
      exact ⟨_, _, fin_out rfl, congrArg (fun b => AV.d (.bool b)) hI.symm⟩
    · rw [decide_eq_false hin] at hI ⊢
      by_cases hin2 : p ∈ l
      · rw [decide_eq_true hin2] at hI hc2
        repeat' (first | refine PureC.use hc1 ?_ | refine PureC.use hc2 ?_ |                      refine ⟨fun _ => ?_, fun h => absurd h (by decide)⟩ | refine ⟨fun h => absurd h (by decide), fun _ => ?_⟩ | (refine ⟨fun h => ?_, fun h => ?_⟩ <;> (try simp only [decide_eq_true_eq, decide_eq_false_iff_not, Bool.not_eq_true', Bool.not_eq_false', Bool.not_eq_true, Bool.not_eq_false, not_true_eq_false, beq_iff_eq, beq_eq_false_iff_ne, ne_eq, decide_eq_decide, true_iff, false_iff, iff_true, iff_false, true_and, and_true, false_or, or_false, Bool.and_true, Bool.and_eq_true, Bool.and_eq_false_iff, Bool.or_eq_true, Bool.or_eq_false_iff, List.length_cons, List.length_nil] at h) <;> (try (exfalso; first | omega | exact h rfl | (cases h; done) | exact absurd h (by assumption) | exact h (by assumption) | (simp at h; done)))) | refine ⟨⟨by (first | omega | (simp only [lenS]; omega)), by (first | omega | (simp only [lenS]; omega))⟩, _, by assumption, by rfl, ?_⟩ | refine .inl ⟨⟨by (first | omega | (simp only [lenS]; omega)), by (first | omega | (simp only [lenS]; omega))⟩, ?_⟩ | refine ⟨⟨by (first | omega | (simp only [lenS]; omega)), by (first | omega | (simp only [lenS]; omega))⟩, ?_⟩ | refine ⟨⟨by (first | omega | (simp only [lenS]; omega)), by (first | omega | (simp only [lenS]; omega)), by (first | omega | (simp only [lenS]; omega))⟩, ?_⟩ | refine ⟨.inl rfl, ?_⟩ | refine ⟨.inr (.inl (by (first | omega | (simp only [lenS]; omega)))), ?_⟩ | refine ⟨_, rfl, rfl, by (first | exact Nat.le_refl _ | exact Nat.le_of_ble_eq_true rfl | decide), ?_⟩ | refine ⟨_, rfl, by (first | exact Nat.le_refl _ | exact Nat.le_of_ble_eq_true rfl | decide), ?_⟩ | refine ⟨by (first | exact Nat.le_refl _ | exact Nat.le_of_ble_eq_true rfl | decide | exact rfl), ?_⟩ | refine ⟨show _ ≤ (9223372036854775807 : Nat) by (first | omega | (simp only [lenS]; omega)), ?_⟩ | refine ⟨show _ ≠ (0 : Int) by (first | omega | (simp only [lenS]; omega)), ?_⟩ | refine ⟨_, rfl, _, rfl, ?_⟩ | refine ⟨_, by assumption, Nat.le_of_ble_eq_true rfl, ?_⟩ | refine ⟨_, by assumption, _, rfl, ?_⟩ | refine ⟨_, rfl, ?_⟩ | fail)
        refine ⟨seenR_keys _, ?_⟩
        repeat' (first | refine PureC.use hc1 ?_ | refine PureC.use hc2 ?_ |                      refine ⟨fun _ => ?_, fun h => absurd h (by decide)⟩ | refine ⟨fun h => absurd h (by decide), fun _ => ?_⟩ | (refine ⟨fun h => ?_, fun h => ?_⟩ <;> (try simp only [decide_eq_true_eq, decide_eq_false_iff_not, Bool.not_eq_true', Bool.not_eq_false', Bool.not_eq_true, Bool.not_eq_false, not_true_eq_false, beq_iff_eq, beq_eq_false_iff_ne, ne_eq, decide_eq_decide, true_iff, false_iff, iff_true, iff_false, true_and, and_true, false_or, or_false, Bool.and_true, Bool.and_eq_true, Bool.and_eq_false_iff, Bool.or_eq_true, Bool.or_eq_false_iff, List.length_cons, List.length_nil] at h) <;> (try (exfalso; first | omega | exact h rfl | (cases h; done) | exact absurd h (by assumption) | exact h (by assumption) | (simp at h; done)))) | refine ⟨⟨by (first | omega | (simp only [lenS]; omega)), by (first | omega | (simp only [lenS]; omega))⟩, _, by assumption, by rfl, ?_⟩ | refine .inl ⟨⟨by (first | omega | (simp only [lenS]; omega)), by (first | omega | (simp only [lenS]; omega))⟩, ?_⟩ | refine ⟨⟨by (first | omega | (simp only [lenS]; omega)), by (first | omega | (simp only [lenS]; omega))⟩, ?_⟩ | refine ⟨⟨by (first | omega | (simp only [lenS]; omega)), by (first | omega | (simp only [lenS]; omega)), by (first | omega | (simp only [lenS]; omega))⟩, ?_⟩ | refine ⟨.inl rfl, ?_⟩ | refine ⟨.inr (.inl (by (first | omega | (simp only [lenS]; omega)))), ?_⟩ | refine ⟨_, rfl, rfl, by (first | exact Nat.le_refl _ | exact Nat.le_of_ble_eq_true rfl | decide), ?_⟩ | refine ⟨_, rfl, by (first | exact Nat.le_refl _ | exact Nat.le_of_ble_eq_true rfl | decide), ?_⟩ | refine ⟨by (first | exact Nat.le_refl _ | exact Nat.le_of_ble_eq_true rfl | decide | exact rfl), ?_⟩ | refine ⟨show _ ≤ (9223372036854775807 : Nat) by (first | omega | (simp only [lenS]; omega)), ?_⟩ | refine ⟨show _ ≠ (0 : Int) by (first | omega | (simp only [lenS]; omega)), ?_⟩ | refine ⟨_, rfl, _, rfl, ?_⟩ | refine ⟨_, by assumption, Nat.le_of_ble_eq_true rfl, ?_⟩ | refine ⟨_, by assumption, _, rfl, ?_⟩ | refine ⟨_, rfl, ?_⟩ | fail)
        exact ⟨_, _, _, ⟨k + 1, p :: q, rfl, hlt, hI, rfl, rfl⟩, by omega, Mv.of [.old 0] rfl rfl rfl ⟨.inl ⟨rfl, seenR_pure _⟩, trivial⟩ ⟨rfl, rfl, rfl, rfl, rfl, trivial⟩⟩
      · rw [decide_eq_false hin2] at hI hc2
        repeat' (first | refine PureC.use hc1 ?_ | refine PureC.use hc2 ?_ |                      refine ⟨fun _ => ?_, fun h => absurd h (by decide)⟩ | refine ⟨fun h => absurd h (by decide), fun _ => ?_⟩ | (refine ⟨fun h => ?_, fun h => ?_⟩ <;> (try simp only [decide_eq_true_eq, decide_eq_false_iff_not, Bool.not_eq_true', Bool.not_eq_false', Bool.not_eq_true, Bool.not_eq_false, not_true_eq_false, beq_iff_eq, beq_eq_false_iff_ne, ne_eq, decide_eq_decide, true_iff, false_iff, iff_true, iff_false, true_and, and_true, false_or, or_false, Bool.and_true, Bool.and_eq_true, Bool.and_eq_false_iff, Bool.or_eq_true, Bool.or_eq_false_iff, List.length_cons, List.length_nil] at h) <;> (try (exfalso; first | omega | exact h rfl | (cases h; done) | exact absurd h (by assumption) | exact h (by assumption) | (simp at h; done)))) | refine ⟨⟨by (first | omega | (simp only [lenS]; omega)), by (first | omega | (simp only [lenS]; omega))⟩, _, by assumption, by rfl, ?_⟩ | refine .inl ⟨⟨by (first | omega | (simp only [lenS]; omega)), by (first | omega | (simp only [lenS]; omega))⟩, ?_⟩ | refine ⟨⟨by (first | omega | (simp only [lenS]; omega)), by (first | omega | (simp only [lenS]; omega))⟩, ?_⟩ | refine ⟨⟨by (first | omega | (simp only [lenS]; omega)), by (first | omega | (simp only [lenS]; omega)), by (first | omega | (simp only [lenS]; omega))⟩, ?_⟩ | refine ⟨.inl rfl, ?_⟩ | refine ⟨.inr (.inl (by (first | omega | (simp only [lenS]; omega)))), ?_⟩ | refine ⟨_, rfl, rfl, by (first | exact Nat.le_refl _ | exact Nat.le_of_ble_eq_true rfl | decide), ?_⟩ | refine ⟨_, rfl, by (first | exact Nat.le_refl _ | exact Nat.le_of_ble_eq_true rfl | decide), ?_⟩ | refine ⟨by (first | exact Nat.le_refl _ | exact Nat.le_of_ble_eq_true rfl | decide | exact rfl), ?_⟩ | refine ⟨show _ ≤ (9223372036854775807 : Nat) by (first | omega | (simp only [lenS]; omega)), ?_⟩ | refine ⟨show _ ≠ (0 : Int) by (first | omega | (simp only [lenS]; omega)), ?_⟩ | refine ⟨_, rfl, _, rfl, ?_⟩ | refine ⟨_, by assumption, Nat.le_of_ble_eq_true rfl, ?_⟩ | refine ⟨_, by assumption, _, rfl, ?_⟩ | refine ⟨_, rfl, ?_⟩ | fail)
        exact ⟨_, _, fin_out rfl, congrArg (fun b => AV.d (.bool b)) hI.symm⟩
  · have hk' : k = ps.length := by omega
    subst hk'
    rw [List.drop_length] at hI
    rw [hI]
    repeat' (first | refine PureC.use hc1 ?_ | refine PureC.use hc2 ?_ |                      refine ⟨fun _ => ?_, fun h => absurd h (by decide)⟩ | refine ⟨fun h => absurd h (by decide), fun _ => ?_⟩ | (refine ⟨fun h => ?_, fun h => ?_⟩ <;> (try simp only [decide_eq_true_eq, decide_eq_false_iff_not, Bool.not_eq_true', Bool.not_eq_false', Bool.not_eq_true, Bool.not_eq_false, not_true_eq_false, beq_iff_eq, beq_eq_false_iff_ne, ne_eq, decide_eq_decide, true_iff, false_iff, iff_true, iff_false, true_and, and_true, false_or, or_false, Bool.and_true, Bool.and_eq_true, Bool.and_eq_false_iff, Bool.or_eq_true, Bool.or_eq_false_iff, List.length_cons, List.length_nil] at h) <;> (try (exfalso; first | omega | exact h rfl | (cases h; done) | exact absurd h (by assumption) | exact h (by assumption) | (simp at h; done)))) | refine ⟨⟨by (first | omega | (simp only [lenS]; omega)), by (first | omega | (simp only [lenS]; omega))⟩, _, by assumption, by rfl, ?_⟩ | refine .inl ⟨⟨by (first | omega | (simp only [lenS]; omega)), by (first | omega | (simp only [lenS]; omega))⟩, ?_⟩ | refine ⟨⟨by (first | omega | (simp only [lenS]; omega)), by (first | omega | (simp only [lenS]; omega))⟩, ?_⟩ | refine ⟨⟨by (first | omega | (simp only [lenS]; omega)), by (first | omega | (simp only [lenS]; omega)), by (first | omega | (simp only [lenS]; omega))⟩, ?_⟩ | refine ⟨.inl rfl, ?_⟩ | refine ⟨.inr (.inl (by (first | omega | (simp only [lenS]; omega)))), ?_⟩ | refine ⟨_, rfl, rfl, by (first | exact Nat.le_refl _ | exact Nat.le_of_ble_eq_true rfl | decide), ?_⟩ | refine ⟨_, rfl, by (first | exact Nat.le_refl _ | exact Nat.le_of_ble_eq_true rfl | decide), ?_⟩ | refine ⟨by (first | exact Nat.le_refl _ | exact Nat.le_of_ble_eq_true rfl | decide | exact rfl), ?_⟩ | refine ⟨show _ ≤ (9223372036854775807 : Nat) by (first | omega | (simp only [lenS]; omega)), ?_⟩ | refine ⟨show _ ≠ (0 : Int) by (first | omega | (simp only [lenS]; omega)), ?_⟩ | refine ⟨_, rfl, _, rfl, ?_⟩ | refine ⟨_, by assumption, Nat.le_of_ble_eq_true rfl, ?_⟩ | refine ⟨_, by assumption, _, rfl, ?_⟩ | refine ⟨_, rfl, ?_⟩ | fail)
    exact ⟨_, _, fin_out rfl, rfl⟩
end Go.Proofs.YtfchacihhljfhaaDoor

namespace Go.Proofs.YtfchacihhljfhaaDoor
open Go.Aw
set_option maxHeartbeats 1600000
set_option linter.unusedSimpArgs false
set_option linter.unusedVariables false
/-- A node as a value. -/
def nodeA (n : Node) : AV := .agg [.d (.str n.name), .d (.sl (attrsD n.attrs)), .d (.str n.text), .d (.sl (nodesD n.kids))]
theorem mlook_mput (x k : List UInt8) (v : AV) : ∀ es, strKeys es → mlook x (mput k v es) = if x = k then some v else mlook x es := by
  intro es
  induction es with
  | nil => intro _; simp [mput, mlook]
  | cons e r ih =>
    intro hk
    obtain ⟨s, hs⟩ := hk e (by simp)
    obtain ⟨a, u⟩ := e
    simp only at hs
    subst hs
    have ih' := ih (fun y hy => hk y (by simp [hy]))
    simp only [mput]
    by_cases h1 : k = s
    · subst h1
      rw [if_pos rfl]
      simp only [mlook]
      by_cases h2 : x = k <;> simp [h2]
    · rw [if_neg h1]
      simp only [mlook]
      by_cases h2 : x = s
      · subst h2; rw [if_pos rfl, if_pos rfl, if_neg (fun e => h1 e.symm)]
      · rw [if_neg h2, if_neg h2, ih']
theorem strKeys_mput (k : List UInt8) (v : AV) : ∀ es, strKeys es → strKeys (mput k v es) := by
  intro es
  induction es with
  | nil => intro _ e he; simp [mput] at he; subst he; exact ⟨k, rfl⟩
  | cons e r ih =>
    intro hk
    obtain ⟨s, hs⟩ := hk e (by simp)
    obtain ⟨a, u⟩ := e
    simp only at hs
    subst hs
    have ih' := ih (fun y hy => hk y (by simp [hy]))
    simp only [mput]
    by_cases h1 : k = s
    · rw [if_pos h1]
      intro y hy
      rcases List.mem_cons.1 hy with rfl | hy
      · exact ⟨k, rfl⟩
      · exact hk y (by simp [hy])
    · rw [if_neg h1]
      intro y hy
      rcases List.mem_cons.1 hy with rfl | hy
      · exact ⟨s, rfl⟩
      · exact ih' y hy
theorem pure_mput (k : List UInt8) (v : AV) (hv : v.pure = true) : ∀ es : List (AV × AV), (∀ e ∈ es, e.1.pure = true ∧ e.2.pure = true) → ∀ e ∈ mput k v es, e.1.pure = true ∧ e.2.pure = true := by
  intro es
  induction es with
  | nil => intro _ e he; simp [mput] at he; subst he; exact ⟨rfl, hv⟩
  | cons e r ih =>
    intro hk
    have ih' := ih (fun y hy => hk y (by simp [hy]))
    have h0 := hk e (by simp)
    have h1 : ∀ y ∈ r, y.1.pure = true ∧ y.2.pure = true := fun y hy => hk y (by simp [hy])
    have other : ∀ y ∈ e :: mput k v r, y.1.pure = true ∧ y.2.pure = true := fun y hy => by
      rcases List.mem_cons.1 hy with rfl | hy
      · exact h0
      · exact ih' y hy
    unfold mput
    split
    · rename_i heq; simp at heq
    · rename_i s u r' heq
      obtain ⟨rfl, rfl⟩ := List.cons.inj heq
      split
      · intro y hy
        rcases List.mem_cons.1 hy with rfl | hy
        · exact ⟨rfl, hv⟩
        · exact h1 y hy
      · exact other
    · rename_i x r' hne heq
      obtain ⟨rfl, rfl⟩ := List.cons.inj heq
      exact other
def nodeO (n : Node) : Ob := .rows (4, 36) [[.d (.str n.name), .d (.sl (attrsD n.attrs)), .d (.str n.text), .d (.sl (nodesD n.kids))]]
set_option maxRecDepth 100000 in
theorem own_ok (n : Node) (hn : n.name.length ≤ 1000000000) (hl : Short n.attrs) : PureC Tryd.prog 75 [nodeA n] (.d (.bool (ownB n))) := by
  refine PureC.of rfl rfl (fn_okTE Tryd.wf Tryd.tab_ok Tryd.func75 (by decide +kernel) rfl rfl ?_)
  have ha := attrsD_len n.attrs
  have hk := nodesD_len n.kids
  have c1 := tRaw_ok n.name
  rw [rawV_fst] at c1
  have c2 := small_ok n.name [45] (by omega) (by decide)
  have c3 := Void_ok n.name
  have hO : ownB n = (!(rawB n.name || !small n.name [45] || !decide (n.text = []) || decide (n.name ∈ voids) && !decide (n.kids = [])) && attrsFrom [] n.attrs) := rfl
  have hkz : decide ((0 : Int) < ((nodesD n.kids).length : Nat)) = !decide (n.kids = []) := by
    rw [hk]; cases n.kids <;> simp
  have no : ∀ σ : Store, ownB n = false → ∃ r2 σ2, FinMove ⟨0, []⟩ (AV.d (.bool false)) σ r2 σ2 ∧ r2 = AV.d (.bool (ownB n)) ∧ σ2.n = 0 := fun σ h => ⟨_, _, fin_out rfl, by rw [h], rfl⟩
  refine E.seq (E.of Tryd.wf Tryd.tab_ok ?_)
  rw [hO] at no ⊢
  refine midT Tryd.wf Tryd.tab_ok (fun s' σ => (!(rawB n.name || !small n.name [45] || !decide (n.text = []) || decide (n.name ∈ voids) && !decide (n.kids = []))) = true ∧ s' = [(1, .ref 0 0 0)] ∧ σ = ⟨1, [(0, nodeO n)]⟩) ?_ ?_
  · have hz0 : n.kids = [] → decide (n.kids = []) = true := fun h => decide_eq_true h
    refine ⟨_, rfl, _, rfl, ?_⟩
    refine PureC.use c1 ?_
    generalize rawB n.name = b1 at *
    cases b1 with
    | true =>
      repeat (first | refine ⟨fun _ => ?_, fun h => absurd h (by decide)⟩ | refine ⟨fun h => absurd h (by decide), fun _ => ?_⟩)
      exact no _ rfl
    | false =>
      repeat (first | refine ⟨fun _ => ?_, fun h => absurd h (by decide)⟩ | refine ⟨fun h => absurd h (by decide), fun _ => ?_⟩)
      refine ⟨_, rfl, _, rfl, ?_⟩
      refine PureC.use c2 ?_
      generalize small n.name [45] = b2 at *
      cases b2 with
      | false =>
        repeat (first | refine ⟨fun _ => ?_, fun h => absurd h (by decide)⟩ | refine ⟨fun h => absurd h (by decide), fun _ => ?_⟩)
        exact no _ rfl
      | true =>
        repeat (first | refine ⟨fun _ => ?_, fun h => absurd h (by decide)⟩ | refine ⟨fun h => absurd h (by decide), fun _ => ?_⟩)
        refine ⟨_, rfl, _, rfl, ?_⟩
        by_cases ht : n.text = []
        · rw [decide_eq_true ht] at no ⊢
          refine ⟨fun _ => ?_, fun h => absurd h (by rw [ht]; decide)⟩
          refine ⟨_, rfl, _, rfl, ?_⟩
          refine PureC.use c3 ?_
          generalize decide (n.name ∈ voids) = b3 at *
          cases b3 with
          | true =>
            repeat (first | refine ⟨fun _ => ?_, fun h => absurd h (by decide)⟩ | refine ⟨fun h => absurd h (by decide), fun _ => ?_⟩)
            refine ⟨_, rfl, _, rfl, ?_⟩
            by_cases hz : n.kids = []
            · rw [decide_eq_true hz] at hkz ⊢
              refine ⟨fun h => absurd (h.symm.trans hkz) (by decide), fun _ => ?_⟩
              exact ⟨_, _, ⟨rfl, rfl, rfl⟩, Mv.of [.old 0] rfl rfl rfl ⟨⟨rfl, .inl ⟨rfl, fun row h => by rw [List.mem_singleton.1 h]; rfl⟩⟩, trivial⟩ ⟨⟨rfl, rfl, rfl⟩, trivial⟩⟩
            · rw [decide_eq_false hz] at no hkz ⊢
              refine ⟨fun _ => no _ rfl, fun h => absurd (h.symm.trans hkz) (by decide)⟩
          | false =>
            repeat (first | refine ⟨fun _ => ?_, fun h => absurd h (by decide)⟩ | refine ⟨fun h => absurd h (by decide), fun _ => ?_⟩)
            exact ⟨_, _, ⟨rfl, rfl, rfl⟩, Mv.of [.old 0] rfl rfl rfl ⟨⟨rfl, .inl ⟨rfl, fun row h => by rw [List.mem_singleton.1 h]; rfl⟩⟩, trivial⟩ ⟨⟨rfl, rfl, rfl⟩, trivial⟩⟩
        · rw [decide_eq_false ht] at no ⊢
          refine ⟨fun h => absurd h (by show ¬ (!decide (n.text = [])) = false; rw [decide_eq_false ht]; decide), fun _ => ?_⟩
          exact no _ rfl
  · rintro _ _ ⟨hQ, rfl, rfl⟩
    rw [hQ] at no ⊢
    rw [Bool.true_and] at no ⊢
    unfold nodeO
    generalize n.attrs = l at *
    generalize n.name = na at *
    generalize n.text = nt at *
    generalize nodesD n.kids = nk at *
    refine E.seq (E.of Tryd.wf Tryd.tab_ok ?_)
    refine E.seq (E.of Tryd.wf Tryd.tab_ok ?_)
    refine ⟨_, rfl, _, rfl, ?_⟩
    refine loopT Tryd.wf Tryd.tab_ok (fun m s' σ => ∃ (k : Nat) (es : List (AV × AV)), m = l.length - k ∧ k ≤ l.length ∧ attrsFrom ((l.take k).map Prod.fst) (l.drop k) = attrsFrom [] l ∧ strKeys es ∧ (∀ e ∈ es, e.1.pure = true ∧ e.2.pure = true) ∧ (∀ x, mlook x es = if x ∈ (l.take k).map Prod.fst then some (.d (.bool true)) else none) ∧ s' = [(5, .mp 0), (39, .d (.sl (attrsD l))), (40, .d (.int .i64 l.length)), (41, .d (.int .i64 k))] ∧ σ = ⟨1, [(0, .map es)]⟩)
      ⟨0, [], rfl, Nat.zero_le _, rfl, fun e he => by simp at he, fun e he => by simp at he, fun x => by simp [mlook], rfl, rfl⟩ (Mv.of [.old 1] rfl rfl rfl ⟨.inl ⟨rfl, fun e he => by simp at he⟩, trivial⟩ ⟨rfl, rfl, by rw [← ha]; rfl, rfl, trivial⟩) ?_
    rintro _ _ _ ⟨k, es, rfl, hk', hI, hes, hpu, hml, rfl, rfl⟩
    have hl1 := hl.1
    refine ⟨fun h => ?_, fun h => ?_⟩
    · have hlt : k < l.length := by have := of_decide_eq_true h; omega
      clear h
      rw [List.drop_eq_getElem_cons hlt, attrsFrom] at hI
      have hsm : attrsFrom ((l.take (k + 1)).map Prod.fst) (l.drop (k + 1)) = attrsFrom ((l.take k).map Prod.fst ++ [l[k].1]) (l.drop (k + 1)) := by rw [List.take_succ_eq_append_getElem hlt, List.map_append]; rfl
      have htk : (l.take (k + 1)).map Prod.fst = (l.take k).map Prod.fst ++ [l[k].1] := by rw [List.take_succ_eq_append_getElem hlt, List.map_append]; rfl
      have c5 := small_ok l[k].1 [45, 95, 58] (by have := (hl.2 _ (List.getElem_mem hlt)).1; omega) (by decide)
      refine ⟨⟨by omega, by rw [ha]; omega⟩, _, attrsD_get l k hlt, rfl, ?_⟩
      refine ⟨Nat.le_refl _, _, rfl, rfl, Nat.le_refl _, ?_⟩
      refine ⟨_, rfl, _, rfl, ?_⟩
      refine PureC.use c5 ?_
      generalize small l[k].1 [45, 95, 58] = b1 at *
      have no2 : ∀ σ : Store, attrsFrom [] l = false → ∃ r2 σ2, FinMove ⟨0, []⟩ (AV.d (.bool false)) σ r2 σ2 ∧ r2 = AV.d (.bool (attrsFrom [] l)) ∧ σ2.n = 0 := fun σ h => ⟨_, _, fin_out rfl, by rw [h], rfl⟩
      cases b1 with
      | false =>
        repeat (first | refine ⟨fun _ => ?_, fun h => absurd h (by decide)⟩ | refine ⟨fun h => absurd h (by decide), fun _ => ?_⟩)
        exact no2 _ hI.symm
      | true =>
        repeat (first | refine ⟨fun _ => ?_, fun h => absurd h (by decide)⟩ | refine ⟨fun h => absurd h (by decide), fun _ => ?_⟩)
        refine ⟨_, rfl, _, rfl, ?_⟩
        have hm := hml l[k].1
        refine ⟨rfl, es, _, rfl, hes, rfl, rfl, ?_⟩
        by_cases hin : l[k].1 ∈ (l.take k).map Prod.fst
        · rw [if_pos hin] at hm
          rw [decide_eq_true hin] at hI
          rw [hm]
          repeat (first | refine ⟨fun _ => ?_, fun h => absurd h (by decide)⟩ | refine ⟨fun h => absurd h (by decide), fun _ => ?_⟩)
          exact no2 _ hI.symm
        · rw [if_neg hin] at hm
          rw [decide_eq_false hin] at hI
          rw [hm]
          repeat (first | refine ⟨fun _ => ?_, fun h => absurd h (by decide)⟩ | refine ⟨fun h => absurd h (by decide), fun _ => ?_⟩)
          refine ⟨_, rfl, _, rfl, ?_⟩
          refine ⟨rfl, es, rfl, hes, ?_⟩
          repeat (first | refine ⟨fun _ => ?_, fun h => absurd (of_decide_eq_false h) (by omega)⟩ | refine ⟨fun h => absurd (of_decide_eq_true h) (by omega), fun _ => ?_⟩ | refine ⟨fun _ => ?_, fun h => absurd (of_decide_eq_true h) (by omega)⟩ | refine ⟨fun h => absurd (of_decide_eq_false h) (by omega), fun _ => ?_⟩ | refine .inl ⟨⟨by omega, by omega⟩, ?_⟩ | refine ⟨⟨by omega, by omega⟩, ?_⟩)
          refine ⟨_, _, _, ⟨k + 1, _, rfl, hlt, hsm.trans hI, strKeys_mput _ _ _ hes, pure_mput _ _ rfl _ hpu, fun x => ?_, rfl, rfl⟩, by omega, Mv.of [.old 0] rfl rfl rfl ⟨.inl ⟨rfl, pure_mput _ _ rfl _ hpu⟩, trivial⟩ ⟨rfl, rfl, rfl, rfl, trivial⟩⟩
          rw [mlook_mput _ _ _ _ hes, htk]
          simp only [List.mem_append, List.mem_singleton]
          by_cases hx : x = l[k].1
          · rw [if_pos hx, if_pos (Or.inr hx)]; rfl
          · rw [if_neg hx, hml x]
            by_cases hx2 : x ∈ (l.take k).map Prod.fst
            · rw [if_pos hx2, if_pos (Or.inl hx2)]
            · rw [if_neg hx2, if_neg (fun h => h.elim hx2 hx)]
    · refine E.of Tryd.wf Tryd.tab_ok ?_
      have hk2 : k = l.length := by have := of_decide_eq_false h; omega
      subst hk2
      refine ⟨_, _, fin_out rfl, congrArg (fun b => AV.d (.bool b)) ?_, rfl⟩
      rw [← hI, List.drop_length]; rfl
end Go.Proofs.YtfchacihhljfhaaDoor

namespace Go.Proofs.YtfchacihhljfhaaDoor
open Go.Aw
set_option maxHeartbeats 1600000
set_option linter.unusedSimpArgs false
set_option linter.unusedVariables false
mutual
def dpN : Node → Nat
  | .mk nm _ _ k => if nm = [] then 0 else dpL k + 1
def dpL : List Node → Nat
  | [] => 0
  | n :: r => max (dpN n) (dpL r)
end
theorem dpN_eq (n : Node) : dpN n = if n.name = [] then 0 else dpL n.kids + 1 := by cases n; unfold dpN; rfl
theorem dpL_cons (n : Node) (r : List Node) : dpL (n :: r) = max (dpN n) (dpL r) := by rw [dpL]
mutual
theorem dp_sz : ∀ n : Node, dpN n ≤ szN n
  | .mk nm a t k => by
    have := dp_szL k
    unfold dpN szN
    split <;> omega
theorem dp_szL : ∀ l : List Node, dpL l ≤ szL l
  | [] => by simp [dpL]
  | n :: r => by
    have h1 := dp_sz n
    have h2 := dp_szL r
    unfold dpL szL
    omega
end
theorem szN_pos (n : Node) : 1 ≤ szN n := by rw [szN_eq]; omega
theorem sz_len : ∀ l : List Node, l.length ≤ szL l
  | [] => by simp
  | n :: r => by have := sz_len r; have := szN_pos n; rw [szL_cons]; simp only [List.length_cons]; omega
def sizeV (l : List Node) : AV := .tup [.d (.int .i64 (szL l)), .d (.int .i64 (dpL l))]
theorem max_is (a b : Nat) : (if ((b : Nat) : Int) > ((a : Nat) : Int) then ((b : Nat) : Int) else ((a : Nat) : Int)) = ((max a b : Nat) : Int) := by
  rw [Nat.max_def]
  by_cases h : b > a
  · rw [if_pos (by omega), if_pos (by omega)]
  · rw [if_neg (by omega)]
    by_cases h2 : a ≤ b
    · rw [if_pos h2]; omega
    · rw [if_neg h2]
theorem max_is1 (a b : Nat) : ((max a (b + 1) : Nat) : Int) = (if (1 + ((b : Nat) : Int)) > ((a : Nat) : Int) then (1 + ((b : Nat) : Int)) else ((a : Nat) : Int)) := by
  rw [← max_is a (b + 1), show (1 + ((b : Nat) : Int)) = ((b + 1 : Nat) : Int) by omega]
set_option maxRecDepth 100000 in
theorem Size_ok (N : Nat) : ∀ (l : List Node), szL l ≤ N → N ≤ 1000000000 → PureC Tryd.prog 30 [.d (.sl (nodesD l))] (sizeV l) := by
  induction N using Nat.strongRecOn with
  | ind N ih =>
  intro l hN hB
  refine pure_okT Tryd.wf Tryd.tab_ok Tryd.func30 (by decide +kernel) rfl rfl rfl rfl ?_
  have hn := nodesD_len l
  have hdp := dp_szL l
  have hsl := sz_len l
  refine loopT Tryd.wf Tryd.tab_ok (fun m s' σ => ∃ (k a b : Nat), m = l.length - k ∧ k ≤ l.length ∧ a + szL (l.drop k) = szL l ∧ max b (dpL (l.drop k)) = dpL l ∧ s' = [(4, .d (.int .i64 a)), (5, .d (.int .i64 b)), (10, .d (.sl (nodesD l))), (11, .d (.int .i64 l.length)), (12, .d (.int .i64 k))] ∧ σ = ⟨0, []⟩)
    ⟨0, 0, 0, rfl, Nat.zero_le _, by simp, by simp, rfl, rfl⟩ (Mv.of [] rfl rfl rfl trivial ⟨rfl, rfl, rfl, by rw [← hn]; rfl, rfl, trivial⟩) ?_
  rintro _ _ _ ⟨k, a, b, rfl, hk, hA, hB2, rfl, rfl⟩
  refine ⟨fun h => ?_, fun h => ?_⟩
  · have hlt : k < l.length := by have := of_decide_eq_true h; omega
    clear h
    rw [List.drop_eq_getElem_cons hlt] at hA hB2
    rw [szL_cons, szN_eq] at hA
    rw [dpL_cons, dpN_eq] at hB2
    refine ⟨⟨by omega, by rw [hn]; omega⟩, _, nodesD_get l k hlt, rfl, ?_⟩
    refine ⟨Nat.le_refl _, _, rfl, rfl, Nat.le_refl _, ?_⟩
    refine ⟨_, rfl, _, rfl, ?_⟩
    have hks := kids_lt (List.getElem_mem hlt)
    have c1 := ih (szL l[k].kids) (by omega) l[k].kids (Nat.le_refl _) (by omega)
    have hdk := dp_szL l[k].kids
    refine PureC.use c1 ?_
    repeat (first | refine ⟨fun _ => ?_, fun h => absurd (of_decide_eq_false h) (by omega)⟩ | refine ⟨fun h => absurd (of_decide_eq_true h) (by omega), fun _ => ?_⟩ | refine ⟨fun _ => ?_, fun h => absurd (of_decide_eq_true h) (by omega)⟩ | refine ⟨fun h => absurd (of_decide_eq_false h) (by omega), fun _ => ?_⟩ | refine .inl ⟨⟨by omega, by omega⟩, ?_⟩ | refine ⟨⟨by omega, by omega⟩, ?_⟩)
    refine ⟨_, rfl, _, rfl, ?_⟩
    have hA' : (a + 1 + szL l[k].kids) + szL (l.drop (k + 1)) = szL l := by omega
    refine ⟨fun h => ?_, fun h => ?_⟩
    · have hne : ¬ l[k].name = [] := of_decide_eq_false (by simpa using h)
      rw [if_neg hne] at hB2
      repeat (first | refine ⟨fun _ => ?_, fun h => absurd (of_decide_eq_false h) (by omega)⟩ | refine ⟨fun h => absurd (of_decide_eq_true h) (by omega), fun _ => ?_⟩ | refine ⟨fun _ => ?_, fun h => absurd (of_decide_eq_true h) (by omega)⟩ | refine ⟨fun h => absurd (of_decide_eq_false h) (by omega), fun _ => ?_⟩ | refine .inl ⟨⟨by omega, by omega⟩, ?_⟩ | refine ⟨⟨by omega, by omega⟩, ?_⟩)
      refine ⟨_, _, _, ⟨k + 1, a + 1 + szL l[k].kids, max b (dpL l[k].kids + 1), rfl, hlt, hA', ?_, rfl, rfl⟩, by omega, Mv.of [] rfl rfl rfl trivial ⟨congrArg (D.int .i64) (show ((a + 1 + szL l[k].kids : Nat) : Int) = _ by omega), congrArg (D.int .i64) (max_is1 _ _), rfl, rfl, rfl, trivial⟩⟩
      rw [Nat.max_assoc]; exact hB2
    · have hne : l[k].name = [] := of_decide_eq_true (by simpa using h)
      rw [if_pos hne] at hB2
      repeat (first | refine ⟨fun _ => ?_, fun h => absurd (of_decide_eq_false h) (by omega)⟩ | refine ⟨fun h => absurd (of_decide_eq_true h) (by omega), fun _ => ?_⟩ | refine ⟨fun _ => ?_, fun h => absurd (of_decide_eq_true h) (by omega)⟩ | refine ⟨fun h => absurd (of_decide_eq_false h) (by omega), fun _ => ?_⟩ | refine .inl ⟨⟨by omega, by omega⟩, ?_⟩ | refine ⟨⟨by omega, by omega⟩, ?_⟩)
      refine ⟨_, _, _, ⟨k + 1, a + 1 + szL l[k].kids, b, rfl, hlt, hA', ?_, rfl, rfl⟩, by omega, Mv.of [] rfl rfl rfl trivial ⟨congrArg (D.int .i64) (show ((a + 1 + szL l[k].kids : Nat) : Int) = _ by omega), rfl, rfl, rfl, rfl, trivial⟩⟩
      rw [← hB2, Nat.zero_max]
  · have hk' : k = l.length := by have := of_decide_eq_false h; omega
    subst hk'
    rw [List.drop_length] at hA hB2
    have e1 : a = szL l := by rw [← hA]; rfl
    have e2 : b = dpL l := by rw [← hB2]; simp [dpL]
    subst e1
    subst e2
    exact ⟨_, _, fin_out rfl, rfl⟩
def inLi (li : Bool) (nm : List UInt8) : Bool := if nm = [108, 105] then true else if nm = [117, 108] ∨ nm = [111, 108] then false else li
mutual
/-- A named node within; a node of text. -/
def stN (p li : Bool) : Node → Bool
  | .mk nm a t k => ownB (.mk nm a t k) && !(p && decide (nm ∈ blocks)) && !(li && decide (nm = [108, 105])) && stL false (p || decide (nm = [112])) (inLi li nm) k
def stL (tx p li : Bool) : List Node → Bool
  | [] => true
  | n :: r => if n.name = [] then (!tx && !decide (n.text = []) && decide (n.attrs = []) && decide (n.kids = [])) && stL true p li r else stN p li n && stL false p li r
end
theorem stN_eq (p li : Bool) (n : Node) : stN p li n = (ownB n && !(p && decide (n.name ∈ blocks)) && !(li && decide (n.name = [108, 105])) && stL false (p || decide (n.name = [112])) (inLi li n.name) n.kids) := by
  cases n; unfold stN; rfl
theorem stL_cons (tx p li : Bool) (n : Node) (r : List Node) : stL tx p li (n :: r) = if n.name = [] then (!tx && !decide (n.text = []) && decide (n.attrs = []) && decide (n.kids = [])) && stL true p li r else stN p li n && stL false p li r := by rw [stL]
mutual
/-- All texts are short. -/
def ShN : Node → Prop
  | .mk nm a t k => nm.length ≤ 1000000000 ∧ Short a ∧ t.length ≤ 1000000000 ∧ ShL k
def ShL : List Node → Prop
  | [] => True
  | n :: r => ShN n ∧ ShL r
end
theorem ShN_eq (n : Node) : ShN n ↔ (n.name.length ≤ 1000000000 ∧ Short n.attrs ∧ n.text.length ≤ 1000000000 ∧ ShL n.kids) := by cases n; unfold ShN; rfl
theorem ShL_mem : ∀ {l : List Node}, ShL l → ∀ n ∈ l, ShN n
  | [], _, n, h => by simp at h
  | m :: r, hs, n, h => by
    unfold ShL at hs
    rcases List.mem_cons.1 h with rfl | h
    · exact hs.1
    · exact ShL_mem hs.2 n h
set_option maxRecDepth 100000 in
theorem stable_ok (N : Nat) : ∀ (l : List Node) (p li : Bool), szL l ≤ N → N ≤ 1000000000 → ShL l → PureC Tryd.prog 61 [.d (.sl (nodesD l)), .d (.bool p), .d (.bool li)] (.d (.bool (stL false p li l))) := by
  induction N using Nat.strongRecOn with
  | ind N ih =>
  intro l p li hN hB hS
  refine PureC.of rfl rfl (fn_okTE Tryd.wf Tryd.tab_ok Tryd.func61 (by decide +kernel) rfl rfl ?_)
  have hn := nodesD_len l
  have hsl := sz_len l
  refine E.seq (E.of Tryd.wf Tryd.tab_ok ?_)
  refine E.seq (E.of Tryd.wf Tryd.tab_ok ?_)
  refine E.seq (E.of Tryd.wf Tryd.tab_ok ?_)
  refine loopE (fun m s' σ => ∃ (k : Nat) (tx : Bool), m = l.length - k ∧ k ≤ l.length ∧ stL tx p li (l.drop k) = stL false p li l ∧ s' = [(1, .d (.bool p)), (2, .d (.bool li)), (7, .d (.bool tx)), (11, .d (.sl (nodesD l))), (12, .d (.int .i64 l.length)), (13, .d (.int .i64 k))] ∧ σ = ⟨0, []⟩)
    ⟨0, false, rfl, Nat.zero_le _, rfl, rfl, rfl⟩ (Mv.of [] rfl rfl rfl trivial ⟨rfl, rfl, rfl, rfl, by rw [← hn]; rfl, rfl, trivial⟩) ?_
  rintro _ _ _ ⟨k, tx, rfl, hk, hI, rfl, rfl⟩
  have no : ∀ σ : Store, stL false p li l = false → ∃ r2 σ2, FinMove ⟨0, []⟩ (AV.d (.bool false)) σ r2 σ2 ∧ r2 = AV.d (.bool (stL false p li l)) ∧ σ2.n = 0 := fun σ h => ⟨_, _, fin_out rfl, by rw [h], rfl⟩
  refine E.seq (E.of Tryd.wf Tryd.tab_ok ?_)
  refine E.seq (E.of Tryd.wf Tryd.tab_ok ?_)
  refine ⟨fun h => ?_, fun h => ?_⟩
  · have hlt : k < l.length := by have := of_decide_eq_true h; omega
    clear h
    rw [List.drop_eq_getElem_cons hlt, stL_cons] at hI
    have hks := kids_lt (List.getElem_mem hlt)
    have hsn := (ShN_eq _).1 (ShL_mem hS _ (List.getElem_mem hlt))
    have hget := nodesD_get l k hlt
    have hkl := nodesD_len l[k].kids
    have hal := attrsD_len l[k].attrs
    have c1 := own_ok l[k] hsn.1 hsn.2.1
    have c2 := Block_ok l[k].name
    have c3 := ih (szL l[k].kids) (by omega) l[k].kids (p || decide (l[k].name = [112])) (inLi li l[k].name) (Nat.le_refl _) (by omega) hsn.2.2.2
    refine E.seq (blockE ?_)
    refine E.seq (E.of Tryd.wf Tryd.tab_ok ?_)
    refine ⟨⟨by omega, by rw [hn]; omega⟩, _, hget, rfl, ?_⟩
    refine ⟨Nat.le_refl _, _, rfl, rfl, Nat.le_refl _, ?_⟩
    refine midT Tryd.wf Tryd.tab_ok (fun s' σ => l[k].name ≠ [] ∧ s' = [(1, .d (.bool p)), (2, .d (.bool li)), (9, .ref 0 0 0), (11, .d (.sl (nodesD l))), (12, .d (.int .i64 l.length)), (13, .d (.int .i64 k))] ∧ σ = ⟨1, [(0, nodeO l[k])]⟩) ?_ ?_
    · refine ⟨_, rfl, _, rfl, ?_⟩
      have haz : decide ((0 : Int) < ((attrsD l[k].attrs).length : Nat)) = !decide (l[k].attrs = []) := by
        rw [hal]; cases l[k].attrs <;> simp
      have hkz : decide ((0 : Int) < ((nodesD l[k].kids).length : Nat)) = !decide (l[k].kids = []) := by
        rw [hkl]; cases l[k].kids <;> simp
      by_cases hne : l[k].name = []
      · rw [if_pos hne] at hI
        refine ⟨fun _ => ?_, fun h => absurd (of_decide_eq_false h) (fun h => h hne)⟩
        cases tx with
        | true =>
          repeat (first | refine ⟨fun _ => ?_, fun h => absurd h (by decide)⟩ | refine ⟨fun h => absurd h (by decide), fun _ => ?_⟩)
          exact no _ hI.symm
        | false =>
          repeat (first | refine ⟨fun _ => ?_, fun h => absurd h (by decide)⟩ | refine ⟨fun h => absurd h (by decide), fun _ => ?_⟩)
          refine ⟨_, rfl, _, rfl, ?_⟩
          by_cases ht : l[k].text = []
          · rw [decide_eq_true ht] at hI
            refine ⟨fun h => absurd (of_decide_eq_false h) (fun h => h ht), fun _ => ?_⟩
            repeat (first | refine ⟨fun _ => ?_, fun h => absurd h (by decide)⟩ | refine ⟨fun h => absurd h (by decide), fun _ => ?_⟩)
            exact no _ hI.symm
          · rw [decide_eq_false ht] at hI
            refine ⟨fun _ => ?_, fun h => absurd (of_decide_eq_true h) ht⟩
            refine ⟨_, rfl, _, rfl, ?_⟩
            by_cases hza : l[k].attrs = []
            · rw [decide_eq_true hza] at hI haz
              refine ⟨fun _ => ?_, fun h => absurd (h.symm.trans haz) (by decide)⟩
              refine ⟨_, rfl, _, rfl, ?_⟩
              by_cases hzk : l[k].kids = []
              · rw [decide_eq_true hzk] at hI hkz
                refine ⟨fun h => absurd (h.symm.trans hkz) (by decide), fun _ => ?_⟩
                refine E.of Tryd.wf Tryd.tab_ok ?_
                repeat (first | refine ⟨fun _ => ?_, fun h => absurd (of_decide_eq_false h) (by omega)⟩ | refine ⟨fun h => absurd (of_decide_eq_true h) (by omega), fun _ => ?_⟩ | refine ⟨fun _ => ?_, fun h => absurd (of_decide_eq_true h) (by omega)⟩ | refine ⟨fun h => absurd (of_decide_eq_false h) (by omega), fun _ => ?_⟩ | refine .inl ⟨⟨by omega, by omega⟩, ?_⟩ | refine ⟨⟨by omega, by omega⟩, ?_⟩)
                refine ⟨_, _, _, ⟨k + 1, true, rfl, hlt, hI, rfl, rfl⟩, by omega, Mv.of [] rfl rfl rfl trivial ⟨rfl, rfl, rfl, rfl, rfl, rfl, trivial⟩⟩
              · rw [decide_eq_false hzk] at hI hkz
                refine ⟨fun _ => ?_, fun h => absurd (h.symm.trans hkz) (by decide)⟩
                exact no _ hI.symm
            · rw [decide_eq_false hza] at hI haz
              refine ⟨fun h => absurd (h.symm.trans haz) (by decide), fun _ => ?_⟩
              repeat (first | refine ⟨fun _ => ?_, fun h => absurd h (by decide)⟩ | refine ⟨fun h => absurd h (by decide), fun _ => ?_⟩)
              exact no _ hI.symm
      · refine ⟨fun h => absurd (of_decide_eq_true h) hne, fun _ => ?_⟩
        exact ⟨_, _, ⟨hne, rfl, rfl⟩, Mv.of [.old 0] rfl rfl rfl ⟨⟨rfl, .inl ⟨rfl, fun row h => by rw [List.mem_singleton.1 h]; rfl⟩⟩, trivial⟩ ⟨rfl, rfl, ⟨rfl, rfl, rfl⟩, rfl, rfl, rfl, trivial⟩⟩
    rintro _ _ ⟨hne, rfl, rfl⟩
    rw [if_neg hne, stN_eq] at hI
    refine E.seq (E.of Tryd.wf Tryd.tab_ok ?_)
    refine midT Tryd.wf Tryd.tab_ok (fun s' σ => (ownB l[k] && !(p && decide (l[k].name ∈ blocks)) && !(li && decide (l[k].name = [108, 105]))) = true ∧ s' = [(1, .d (.bool p)), (2, .d (.bool li)), (7, .d (.bool false)), (9, .ref 0 0 0), (11, .d (.sl (nodesD l))), (12, .d (.int .i64 l.length)), (13, .d (.int .i64 k))] ∧ σ = ⟨1, [(0, nodeO l[k])]⟩) ?_ ?_
    · have hnm : nodeA l[k] = .agg [.d (.str l[k].name), .d (.sl (attrsD l[k].attrs)), .d (.str l[k].text), .d (.sl (nodesD l[k].kids))] := rfl
      refine ⟨_, rfl, Nat.le_refl _, ?_⟩
      refine PureC.use c1 ?_
      generalize ownB l[k] = o at *
      cases o with
      | false =>
        repeat (first | refine ⟨fun _ => ?_, fun h => absurd h (by decide)⟩ | refine ⟨fun h => absurd h (by decide), fun _ => ?_⟩)
        exact no _ hI.symm
      | true =>
        repeat (first | refine ⟨fun _ => ?_, fun h => absurd h (by decide)⟩ | refine ⟨fun h => absurd h (by decide), fun _ => ?_⟩)
        cases p with
        | true =>
          repeat (first | refine ⟨fun _ => ?_, fun h => absurd h (by decide)⟩ | refine ⟨fun h => absurd h (by decide), fun _ => ?_⟩)
          refine ⟨_, rfl, _, rfl, ?_⟩
          refine PureC.use c2 ?_
          generalize decide (l[k].name ∈ blocks) = bl at *
          cases bl with
          | true =>
            repeat (first | refine ⟨fun _ => ?_, fun h => absurd h (by decide)⟩ | refine ⟨fun h => absurd h (by decide), fun _ => ?_⟩)
            exact no _ hI.symm
          | false =>
            repeat (first | refine ⟨fun _ => ?_, fun h => absurd h (by decide)⟩ | refine ⟨fun h => absurd h (by decide), fun _ => ?_⟩)
            cases li with
            | true =>
              repeat (first | refine ⟨fun _ => ?_, fun h => absurd h (by decide)⟩ | refine ⟨fun h => absurd h (by decide), fun _ => ?_⟩)
              refine ⟨_, rfl, _, rfl, ?_⟩
              by_cases hli : l[k].name = [108, 105]
              · rw [decide_eq_true hli] at hI
                refine ⟨fun _ => ?_, fun h => absurd (of_decide_eq_false h) (fun h => h hli)⟩
                exact no _ hI.symm
              · rw [decide_eq_false hli]
                refine ⟨fun h => absurd (of_decide_eq_true h) hli, fun _ => ?_⟩
                exact ⟨_, _, ⟨rfl, rfl, rfl⟩, Mv.of [.old 0] rfl rfl rfl ⟨⟨rfl, .inl ⟨rfl, fun row h => by rw [List.mem_singleton.1 h]; rfl⟩⟩, trivial⟩ ⟨rfl, rfl, rfl, ⟨rfl, rfl, rfl⟩, rfl, rfl, rfl, trivial⟩⟩
            | false =>
              repeat (first | refine ⟨fun _ => ?_, fun h => absurd h (by decide)⟩ | refine ⟨fun h => absurd h (by decide), fun _ => ?_⟩)
              exact ⟨_, _, ⟨rfl, rfl, rfl⟩, Mv.of [.old 0] rfl rfl rfl ⟨⟨rfl, .inl ⟨rfl, fun row h => by rw [List.mem_singleton.1 h]; rfl⟩⟩, trivial⟩ ⟨rfl, rfl, rfl, ⟨rfl, rfl, rfl⟩, rfl, rfl, rfl, trivial⟩⟩
        | false =>
          repeat (first | refine ⟨fun _ => ?_, fun h => absurd h (by decide)⟩ | refine ⟨fun h => absurd h (by decide), fun _ => ?_⟩)
          cases li with
          | true =>
            repeat (first | refine ⟨fun _ => ?_, fun h => absurd h (by decide)⟩ | refine ⟨fun h => absurd h (by decide), fun _ => ?_⟩)
            refine ⟨_, rfl, _, rfl, ?_⟩
            by_cases hli : l[k].name = [108, 105]
            · rw [decide_eq_true hli] at hI
              refine ⟨fun _ => ?_, fun h => absurd (of_decide_eq_false h) (fun h => h hli)⟩
              exact no _ hI.symm
            · rw [decide_eq_false hli]
              refine ⟨fun h => absurd (of_decide_eq_true h) hli, fun _ => ?_⟩
              exact ⟨_, _, ⟨rfl, rfl, rfl⟩, Mv.of [.old 0] rfl rfl rfl ⟨⟨rfl, .inl ⟨rfl, fun row h => by rw [List.mem_singleton.1 h]; rfl⟩⟩, trivial⟩ ⟨rfl, rfl, rfl, ⟨rfl, rfl, rfl⟩, rfl, rfl, rfl, trivial⟩⟩
          | false =>
            repeat (first | refine ⟨fun _ => ?_, fun h => absurd h (by decide)⟩ | refine ⟨fun h => absurd h (by decide), fun _ => ?_⟩)
            exact ⟨_, _, ⟨rfl, rfl, rfl⟩, Mv.of [.old 0] rfl rfl rfl ⟨⟨rfl, .inl ⟨rfl, fun row h => by rw [List.mem_singleton.1 h]; rfl⟩⟩, trivial⟩ ⟨rfl, rfl, rfl, ⟨rfl, rfl, rfl⟩, rfl, rfl, rfl, trivial⟩⟩
    rintro _ _ ⟨hQ, rfl, rfl⟩
    rw [hQ, Bool.true_and] at hI
    refine E.seq (E.of Tryd.wf Tryd.tab_ok ?_)
    refine midT Tryd.wf Tryd.tab_ok (fun s' σ => s' = [(1, .d (.bool p)), (2, .d (.bool li)), (7, .d (.bool false)), (9, .ref 0 0 0), (10, .d (.bool (inLi li l[k].name))), (11, .d (.sl (nodesD l))), (12, .d (.int .i64 l.length)), (13, .d (.int .i64 k))] ∧ σ = ⟨1, [(0, nodeO l[k])]⟩) ?_ ?_
    · refine ⟨_, rfl, _, rfl, ?_⟩
      have go : ∀ b : Bool, inLi li l[k].name = b → vrelS (phi 0 [.old 0]) [(1, .d (.bool p)), (2, .d (.bool li)), (7, .d (.bool false)), (9, .ref 0 0 0), (10, .d (.bool b)), (11, .d (.sl (nodesD l))), (12, .d (.int .i64 l.length)), (13, .d (.int .i64 k))] [(1, .d (.bool p)), (2, .d (.bool li)), (7, .d (.bool false)), (9, .ref 0 0 0), (10, .d (.bool (inLi li l[k].name))), (11, .d (.sl (nodesD l))), (12, .d (.int .i64 l.length)), (13, .d (.int .i64 k))] := fun b h => by
        rw [h]; exact ⟨rfl, rfl, rfl, ⟨rfl, rfl, rfl⟩, rfl, rfl, rfl, rfl, trivial⟩
      by_cases h1 : l[k].name = [108, 105]
      · refine ⟨fun _ => ?_, fun h => absurd (of_decide_eq_false h) (fun h => h h1)⟩
        exact ⟨_, _, ⟨rfl, rfl⟩, Mv.of [.old 0] rfl rfl rfl ⟨⟨rfl, .inl ⟨rfl, fun row h => by rw [List.mem_singleton.1 h]; rfl⟩⟩, trivial⟩ (go true (by unfold inLi; rw [if_pos h1]))⟩
      · refine ⟨fun h => absurd (of_decide_eq_true h) h1, fun _ => ?_⟩
        by_cases h2 : l[k].name = [117, 108]
        · refine ⟨fun _ => ?_, fun h => absurd (of_decide_eq_false h) (fun h => h h2)⟩
          exact ⟨_, _, ⟨rfl, rfl⟩, Mv.of [.old 0] rfl rfl rfl ⟨⟨rfl, .inl ⟨rfl, fun row h => by rw [List.mem_singleton.1 h]; rfl⟩⟩, trivial⟩ (go false (by unfold inLi; rw [if_neg h1, if_pos (.inl h2)]))⟩
        · refine ⟨fun h => absurd (of_decide_eq_true h) h2, fun _ => ?_⟩
          by_cases h3 : l[k].name = [111, 108]
          · refine ⟨fun _ => ?_, fun h => absurd (of_decide_eq_false h) (fun h => h h3)⟩
            exact ⟨_, _, ⟨rfl, rfl⟩, Mv.of [.old 0] rfl rfl rfl ⟨⟨rfl, .inl ⟨rfl, fun row h => by rw [List.mem_singleton.1 h]; rfl⟩⟩, trivial⟩ (go false (by unfold inLi; rw [if_neg h1, if_pos (.inr h3)]))⟩
          · refine ⟨fun h => absurd (of_decide_eq_true h) h3, fun _ => ?_⟩
            exact ⟨_, _, ⟨rfl, rfl⟩, Mv.of [.old 0] rfl rfl rfl ⟨⟨rfl, .inl ⟨rfl, fun row h => by rw [List.mem_singleton.1 h]; rfl⟩⟩, trivial⟩ (go li (by unfold inLi; rw [if_neg h1, if_neg (fun h => h.elim h2 h3)]))⟩
    rintro _ _ ⟨rfl, rfl⟩
    refine E.of Tryd.wf Tryd.tab_ok ?_
    refine ⟨_, rfl, _, rfl, ?_⟩
    cases p with
    | true =>
      repeat (first | refine ⟨fun _ => ?_, fun h => absurd h (by decide)⟩ | refine ⟨fun h => absurd h (by decide), fun _ => ?_⟩)
      refine PureC.use c3 ?_
      rw [Bool.true_or] at hI
      rw [Bool.true_or]
      generalize stL false true (inLi li l[k].name) l[k].kids = b at *
      cases b with
      | false =>
        repeat (first | refine ⟨fun _ => ?_, fun h => absurd h (by decide)⟩ | refine ⟨fun h => absurd h (by decide), fun _ => ?_⟩)
        exact no _ hI.symm
      | true =>
        repeat (first | refine ⟨fun _ => ?_, fun h => absurd h (by decide)⟩ | refine ⟨fun h => absurd h (by decide), fun _ => ?_⟩)
        refine E.of Tryd.wf Tryd.tab_ok ?_
        repeat (first | refine ⟨fun _ => ?_, fun h => absurd (of_decide_eq_false h) (by omega)⟩ | refine ⟨fun h => absurd (of_decide_eq_true h) (by omega), fun _ => ?_⟩ | refine ⟨fun _ => ?_, fun h => absurd (of_decide_eq_true h) (by omega)⟩ | refine ⟨fun h => absurd (of_decide_eq_false h) (by omega), fun _ => ?_⟩ | refine .inl ⟨⟨by omega, by omega⟩, ?_⟩ | refine ⟨⟨by omega, by omega⟩, ?_⟩)
        exact ⟨_, _, _, ⟨k + 1, false, rfl, hlt, hI, rfl, rfl⟩, by omega, Mv.of [] rfl rfl rfl trivial ⟨rfl, rfl, rfl, rfl, rfl, rfl, trivial⟩⟩
    | false =>
      repeat (first | refine ⟨fun _ => ?_, fun h => absurd h (by decide)⟩ | refine ⟨fun h => absurd h (by decide), fun _ => ?_⟩)
      refine ⟨_, rfl, _, rfl, ?_⟩
      rw [Bool.false_or] at hI c3
      refine PureC.use c3 ?_
      generalize stL false (decide (l[k].name = [112])) (inLi li l[k].name) l[k].kids = b at *
      cases b with
      | false =>
        repeat (first | refine ⟨fun _ => ?_, fun h => absurd h (by decide)⟩ | refine ⟨fun h => absurd h (by decide), fun _ => ?_⟩)
        exact no _ hI.symm
      | true =>
        repeat (first | refine ⟨fun _ => ?_, fun h => absurd h (by decide)⟩ | refine ⟨fun h => absurd h (by decide), fun _ => ?_⟩)
        refine E.of Tryd.wf Tryd.tab_ok ?_
        repeat (first | refine ⟨fun _ => ?_, fun h => absurd (of_decide_eq_false h) (by omega)⟩ | refine ⟨fun h => absurd (of_decide_eq_true h) (by omega), fun _ => ?_⟩ | refine ⟨fun _ => ?_, fun h => absurd (of_decide_eq_true h) (by omega)⟩ | refine ⟨fun h => absurd (of_decide_eq_false h) (by omega), fun _ => ?_⟩ | refine .inl ⟨⟨by omega, by omega⟩, ?_⟩ | refine ⟨⟨by omega, by omega⟩, ?_⟩)
        exact ⟨_, _, _, ⟨k + 1, false, rfl, hlt, hI, rfl, rfl⟩, by omega, Mv.of [] rfl rfl rfl trivial ⟨rfl, rfl, rfl, rfl, rfl, rfl, trivial⟩⟩
  · refine E.of Tryd.wf Tryd.tab_ok ?_
    have hk' : k = l.length := by have := of_decide_eq_false h; omega
    subst hk'
    rw [List.drop_length] at hI
    exact ⟨_, _, fin_out rfl, congrArg (fun b => AV.d (.bool b)) (show true = stL false p li l from hI), rfl⟩
def stableB (l : List Node) : Bool := decide (szL l ≤ 2000) && decide (dpL l ≤ 64) && stL false false false l
set_option maxRecDepth 100000 in
theorem Stable_ok (l : List Node) (hl : szL l ≤ 1000000000) (hS : ShL l) : PureC Tryd.prog 31 [.d (.sl (nodesD l))] (.d (.bool (stableB l))) := by
  refine pure_okT Tryd.wf Tryd.tab_ok Tryd.func31 (by decide +kernel) rfl rfl rfl rfl ?_
  have c1 := Size_ok (szL l) l (Nat.le_refl _) hl
  have c2 := stable_ok (szL l) l false false (Nat.le_refl _) hl hS
  unfold sizeV at c1
  unfold stableB
  generalize szL l = a at *
  generalize dpL l = b at *
  generalize stL false false false l = c at *
  refine PureC.use c1 ?_
  by_cases h1 : a ≤ 2000
  · rw [decide_eq_true h1]
    by_cases h2 : b ≤ 64
    · rw [decide_eq_true h2]
      repeat (first | refine ⟨fun _ => ?_, fun h => absurd (of_decide_eq_false h) (by omega)⟩ | refine ⟨fun h => absurd (of_decide_eq_true h) (by omega), fun _ => ?_⟩ | refine ⟨fun _ => ?_, fun h => absurd (of_decide_eq_true h) (by omega)⟩ | refine ⟨fun h => absurd (of_decide_eq_false h) (by omega), fun _ => ?_⟩ | refine .inl ⟨⟨by omega, by omega⟩, ?_⟩ | refine ⟨⟨by omega, by omega⟩, ?_⟩)
      exact PureC.use c2 ⟨_, _, fin_out rfl, rfl⟩
    · rw [decide_eq_false h2]
      repeat (first | refine ⟨fun _ => ?_, fun h => absurd (of_decide_eq_false h) (by omega)⟩ | refine ⟨fun h => absurd (of_decide_eq_true h) (by omega), fun _ => ?_⟩ | refine ⟨fun _ => ?_, fun h => absurd (of_decide_eq_true h) (by omega)⟩ | refine ⟨fun h => absurd (of_decide_eq_false h) (by omega), fun _ => ?_⟩ | refine .inl ⟨⟨by omega, by omega⟩, ?_⟩ | refine ⟨⟨by omega, by omega⟩, ?_⟩)
      exact ⟨_, _, fin_out rfl, rfl⟩
  · rw [decide_eq_false h1]
    repeat (first | refine ⟨fun _ => ?_, fun h => absurd (of_decide_eq_false h) (by omega)⟩ | refine ⟨fun h => absurd (of_decide_eq_true h) (by omega), fun _ => ?_⟩ | refine ⟨fun _ => ?_, fun h => absurd (of_decide_eq_true h) (by omega)⟩ | refine ⟨fun h => absurd (of_decide_eq_false h) (by omega), fun _ => ?_⟩ | refine .inl ⟨⟨by omega, by omega⟩, ?_⟩ | refine ⟨⟨by omega, by omega⟩, ?_⟩)
    exact ⟨_, _, fin_out rfl, rfl⟩
end Go.Proofs.YtfchacihhljfhaaDoor

namespace Go.Proofs.YtfchacihhljfhaaDoor
open Go.Aw
set_option maxHeartbeats 1600000
set_option linter.unusedSimpArgs false
set_option linter.unusedVariables false
abbrev At := List UInt8 × List UInt8
def relN : List UInt8 := [114, 101, 108]
def hrefN : List UInt8 := [104, 114, 101, 102]
def styN : List UInt8 := [115, 116, 121, 108, 101]
def clsN : List UInt8 := [99, 108, 97, 115, 115]
def aN : List UInt8 := [97]
def forcedB : List UInt8 := [110, 111, 102, 111, 108, 108, 111, 119, 32, 110, 111, 111, 112, 101, 110, 101, 114]
def places : List (List UInt8) := [hrefN, [115, 114, 99], [99, 105, 116, 101], [97, 99, 116, 105, 111, 110], [98, 97, 99, 107, 103, 114, 111, 117, 110, 100], [108, 111, 110, 103, 100, 101, 115, 99], [112, 105, 110, 103], [112, 111, 115, 116, 101, 114], [115, 114, 99, 115, 101, 116], [117, 115, 101, 109, 97, 112]]
/-- May an attribute of an element stay with its value? -/
def valueP (p : Pol) (el : List UInt8) (a : At) : Bool :=
  decide (el ∈ p.el) && (if a.1 = relN then decide (el = aN) && decide (a.2 = forcedB)
    else if a.1 = styN then !decide (a.2 = []) && decide (filterB p.pr a.2 = a.2)
    else if a.1 = clsN then attrP p el a.1 && (!decide (a.2 = []) && clsB p.cl [] (splitB 32 a.2))
    else attrP p el a.1 && (!decide (a.1 ∈ places) || allowed a.2 p.sc))
def hasA (nm : List UInt8) (l : List At) : Bool := decide (nm ∈ l.map Prod.fst)
/-- Has a link its rel behind? -/
def linkB (l : List At) : Bool := if hasA hrefN l = true then decide ((l.map Prod.fst).getLast? = some relN) else !hasA relN l
def elemP (p : Pol) (n : Node) : Bool := n.attrs.all (valueP p n.name) && ((!decide (n.name = aN) || linkB n.attrs) && decide (n.name ∈ p.el))
mutual
def innN (p : Pol) : Node → Bool
  | .mk nm a t k => decide (nm = []) || (elemP p (.mk nm a t k) && innL p k)
def innL (p : Pol) : List Node → Bool
  | [] => true
  | n :: r => innN p n && innL p r
end
theorem innN_eq (p : Pol) (n : Node) : innN p n = (decide (n.name = []) || (elemP p n && innL p n.kids)) := by cases n; unfold innN; rfl
theorem innL_cons (p : Pol) (n : Node) (r : List Node) : innL p (n :: r) = (innN p n && innL p r) := by rw [innL]
theorem innL_all (p : Pol) : ∀ l : List Node, innL p l = l.all (innN p)
  | [] => by rw [innL]; rfl
  | n :: r => by rw [innL_cons, innL_all p r]; rfl
def safeB (p : Pol) (l : List Node) : Bool := decide ((szL l : Int) ≤ p.nd) && (decide ((dpL l : Int) ≤ p.dp) && (stableB l && innL p l))
end Go.Proofs.YtfchacihhljfhaaDoor

namespace Go.Proofs.YtfchacihhljfhaaDoor
open Go.Aw
set_option maxHeartbeats 1600000
set_option linter.unusedSimpArgs false
set_option linter.unusedVariables false
set_option maxRecDepth 100000 in
theorem Place_ok (s : List UInt8) : PureC Tryd.prog 12 [.d (.str s)] (.d (.bool (decide (s ∈ places)))) := by
  have hc1 := Contains_ok places s (by decide)
  refine pure_okT Tryd.wf Tryd.tab_ok Tryd.func12 (by decide +kernel) rfl rfl rfl rfl ?_
  repeat' (first | refine PureC.use hc1 ?_ |                       refine ⟨fun _ => ?_, fun h => absurd h (by decide)⟩ | refine ⟨fun h => absurd h (by decide), fun _ => ?_⟩ | (refine ⟨fun h => ?_, fun h => ?_⟩ <;> (try simp only [decide_eq_true_eq, decide_eq_false_iff_not, Bool.not_eq_true', Bool.not_eq_false', Bool.not_eq_true, Bool.not_eq_false, not_true_eq_false, beq_iff_eq, beq_eq_false_iff_ne, ne_eq, decide_eq_decide, true_iff, false_iff, iff_true, iff_false, true_and, and_true, false_or, or_false, Bool.and_true, Bool.and_eq_true, Bool.and_eq_false_iff, Bool.or_eq_true, Bool.or_eq_false_iff, List.length_cons, List.length_nil] at h) <;> (try (exfalso; first | omega | exact h rfl | (cases h; done) | exact absurd h (by assumption) | exact h (by assumption) | (simp at h; done)))) | refine ⟨⟨by (first | omega | (simp only [lenS]; omega)), by (first | omega | (simp only [lenS]; omega))⟩, _, by assumption, by rfl, ?_⟩ | refine .inl ⟨⟨by (first | omega | (simp only [lenS]; omega)), by (first | omega | (simp only [lenS]; omega))⟩, ?_⟩ | refine ⟨⟨by (first | omega | (simp only [lenS]; omega)), by (first | omega | (simp only [lenS]; omega))⟩, ?_⟩ | refine ⟨⟨by (first | omega | (simp only [lenS]; omega)), by (first | omega | (simp only [lenS]; omega)), by (first | omega | (simp only [lenS]; omega))⟩, ?_⟩ | refine ⟨.inl rfl, ?_⟩ | refine ⟨.inr (.inl (by (first | omega | (simp only [lenS]; omega)))), ?_⟩ | refine ⟨_, rfl, rfl, by (first | exact Nat.le_refl _ | exact Nat.le_of_ble_eq_true rfl | decide), ?_⟩ | refine ⟨_, rfl, by (first | exact Nat.le_refl _ | exact Nat.le_of_ble_eq_true rfl | decide), ?_⟩ | refine ⟨by (first | exact Nat.le_refl _ | exact Nat.le_of_ble_eq_true rfl | decide | exact rfl), ?_⟩ | refine ⟨show _ ≤ (9223372036854775807 : Nat) by (first | omega | (simp only [lenS]; omega)), ?_⟩ | refine ⟨show _ ≠ (0 : Int) by (first | omega | (simp only [lenS]; omega)), ?_⟩ | refine ⟨_, rfl, _, rfl, ?_⟩ | refine ⟨_, by assumption, Nat.le_of_ble_eq_true rfl, ?_⟩ | refine ⟨_, by assumption, _, rfl, ?_⟩ | refine ⟨_, rfl, ?_⟩ | fail)
  refine ⟨_, _, _, rfl, rfl, by decide, rfl, ?_⟩
  repeat' (first | refine PureC.use hc1 ?_ |                       refine ⟨fun _ => ?_, fun h => absurd h (by decide)⟩ | refine ⟨fun h => absurd h (by decide), fun _ => ?_⟩ | (refine ⟨fun h => ?_, fun h => ?_⟩ <;> (try simp only [decide_eq_true_eq, decide_eq_false_iff_not, Bool.not_eq_true', Bool.not_eq_false', Bool.not_eq_true, Bool.not_eq_false, not_true_eq_false, beq_iff_eq, beq_eq_false_iff_ne, ne_eq, decide_eq_decide, true_iff, false_iff, iff_true, iff_false, true_and, and_true, false_or, or_false, Bool.and_true, Bool.and_eq_true, Bool.and_eq_false_iff, Bool.or_eq_true, Bool.or_eq_false_iff, List.length_cons, List.length_nil] at h) <;> (try (exfalso; first | omega | exact h rfl | (cases h; done) | exact absurd h (by assumption) | exact h (by assumption) | (simp at h; done)))) | refine ⟨⟨by (first | omega | (simp only [lenS]; omega)), by (first | omega | (simp only [lenS]; omega))⟩, _, by assumption, by rfl, ?_⟩ | refine .inl ⟨⟨by (first | omega | (simp only [lenS]; omega)), by (first | omega | (simp only [lenS]; omega))⟩, ?_⟩ | refine ⟨⟨by (first | omega | (simp only [lenS]; omega)), by (first | omega | (simp only [lenS]; omega))⟩, ?_⟩ | refine ⟨⟨by (first | omega | (simp only [lenS]; omega)), by (first | omega | (simp only [lenS]; omega)), by (first | omega | (simp only [lenS]; omega))⟩, ?_⟩ | refine ⟨.inl rfl, ?_⟩ | refine ⟨.inr (.inl (by (first | omega | (simp only [lenS]; omega)))), ?_⟩ | refine ⟨_, rfl, rfl, by (first | exact Nat.le_refl _ | exact Nat.le_of_ble_eq_true rfl | decide), ?_⟩ | refine ⟨_, rfl, by (first | exact Nat.le_refl _ | exact Nat.le_of_ble_eq_true rfl | decide), ?_⟩ | refine ⟨by (first | exact Nat.le_refl _ | exact Nat.le_of_ble_eq_true rfl | decide | exact rfl), ?_⟩ | refine ⟨show _ ≤ (9223372036854775807 : Nat) by (first | omega | (simp only [lenS]; omega)), ?_⟩ | refine ⟨show _ ≠ (0 : Int) by (first | omega | (simp only [lenS]; omega)), ?_⟩ | refine ⟨_, rfl, _, rfl, ?_⟩ | refine ⟨_, by assumption, Nat.le_of_ble_eq_true rfl, ?_⟩ | refine ⟨_, by assumption, _, rfl, ?_⟩ | refine ⟨_, rfl, ?_⟩ | fail)
  exact ⟨_, _, fin_out rfl, rfl⟩
set_option maxRecDepth 100000 in
set_option maxHeartbeats 1000000 in
theorem Value2_ok (p : Pol) (el nm v : List UInt8) (hp : Fits p) (he : el.length ≤ 1000000) (h1 : nm.length ≤ 1000000) (h2 : v.length ≤ 100000) : PureC Tryd.prog 10 [polA p, .d (.str el), .agg [.d (.str nm), .d (.str v)]] (.d (.bool (valueP p el (nm, v)))) := by
  have hc1 := Elem_ok p el hp
  unfold valueP
  dsimp only
  by_cases hE : el ∈ p.el
  · rw [decide_eq_true hE, Bool.true_and]
    rw [decide_eq_true hE] at hc1
    by_cases hr : nm = relN
    · subst hr
      rw [if_pos rfl]
      refine pure_okT Tryd.wf Tryd.tab_ok Tryd.func10 (by decide +kernel) rfl rfl rfl rfl ?_
      repeat' (first | refine PureC.use hc1 ?_ | refine PureC.use hc2 ?_ | refine PureC.use hc3 ?_ | refine PureC.use hc4 ?_ |                    refine ⟨fun _ => ?_, fun h => absurd h (by decide)⟩ | refine ⟨fun h => absurd h (by decide), fun _ => ?_⟩ | (refine ⟨fun h => ?_, fun h => ?_⟩ <;> (try simp only [decide_eq_true_eq, decide_eq_false_iff_not, Bool.not_eq_true', Bool.not_eq_false', Bool.not_eq_true, Bool.not_eq_false, not_true_eq_false, beq_iff_eq, beq_eq_false_iff_ne, ne_eq, decide_eq_decide, true_iff, false_iff, iff_true, iff_false, true_and, and_true, false_or, or_false, Bool.and_true, Bool.and_eq_true, Bool.and_eq_false_iff, Bool.or_eq_true, Bool.or_eq_false_iff, List.length_cons, List.length_nil] at h) <;> (try (exfalso; first | omega | exact h rfl | (cases h; done) | exact absurd h (by assumption) | exact h (by assumption) | (simp at h; done)))) | refine ⟨⟨by (first | omega | (simp only [lenS]; omega)), by (first | omega | (simp only [lenS]; omega))⟩, _, by assumption, by rfl, ?_⟩ | refine .inl ⟨⟨by (first | omega | (simp only [lenS]; omega)), by (first | omega | (simp only [lenS]; omega))⟩, ?_⟩ | refine ⟨⟨by (first | omega | (simp only [lenS]; omega)), by (first | omega | (simp only [lenS]; omega))⟩, ?_⟩ | refine ⟨⟨by (first | omega | (simp only [lenS]; omega)), by (first | omega | (simp only [lenS]; omega)), by (first | omega | (simp only [lenS]; omega))⟩, ?_⟩ | refine ⟨.inl rfl, ?_⟩ | refine ⟨.inr (.inl (by (first | omega | (simp only [lenS]; omega)))), ?_⟩ | refine ⟨_, rfl, rfl, by (first | exact Nat.le_refl _ | exact Nat.le_of_ble_eq_true rfl | decide), ?_⟩ | refine ⟨_, rfl, by (first | exact Nat.le_refl _ | exact Nat.le_of_ble_eq_true rfl | decide), ?_⟩ | refine ⟨by (first | exact Nat.le_refl _ | exact Nat.le_of_ble_eq_true rfl | decide | exact rfl), ?_⟩ | refine ⟨show _ ≤ (9223372036854775807 : Nat) by (first | omega | (simp only [lenS]; omega)), ?_⟩ | refine ⟨show _ ≠ (0 : Int) by (first | omega | (simp only [lenS]; omega)), ?_⟩ | refine ⟨_, rfl, _, rfl, ?_⟩ | refine ⟨_, by assumption, Nat.le_of_ble_eq_true rfl, ?_⟩ | refine ⟨_, by assumption, _, rfl, ?_⟩ | refine ⟨_, rfl, ?_⟩ | fail)
      all_goals first | exact ⟨_, _, fin_out rfl, rfl⟩ | exact ⟨_, _, fin_out rfl, congrArg (fun b => AV.d (.bool b)) (by first | (simp_all [aN, forcedB]; done) | (simp_all [aN, forcedB]; exact decide_eq_decide.2 Iff.rfl))⟩
    · rw [if_neg hr]
      have hr' : ¬ nm = [114, 101, 108] := hr
      clear hr
      by_cases hs : nm = styN
      · subst hs
        rw [if_pos rfl]
        have hc2 := Filter_ok p.pr v (by have := hp.pr.1; omega) (by omega)
        by_cases hv : v = []
        · subst hv
          refine pure_okT Tryd.wf Tryd.tab_ok Tryd.func10 (by decide +kernel) rfl rfl rfl rfl ?_
          repeat' (first | refine PureC.use hc1 ?_ | refine PureC.use hc2 ?_ | refine PureC.use hc3 ?_ | refine PureC.use hc4 ?_ |                    refine ⟨fun _ => ?_, fun h => absurd h (by decide)⟩ | refine ⟨fun h => absurd h (by decide), fun _ => ?_⟩ | (refine ⟨fun h => ?_, fun h => ?_⟩ <;> (try simp only [decide_eq_true_eq, decide_eq_false_iff_not, Bool.not_eq_true', Bool.not_eq_false', Bool.not_eq_true, Bool.not_eq_false, not_true_eq_false, beq_iff_eq, beq_eq_false_iff_ne, ne_eq, decide_eq_decide, true_iff, false_iff, iff_true, iff_false, true_and, and_true, false_or, or_false, Bool.and_true, Bool.and_eq_true, Bool.and_eq_false_iff, Bool.or_eq_true, Bool.or_eq_false_iff, List.length_cons, List.length_nil] at h) <;> (try (exfalso; first | omega | exact h rfl | (cases h; done) | exact absurd h (by assumption) | exact h (by assumption) | (simp at h; done)))) | refine ⟨⟨by (first | omega | (simp only [lenS]; omega)), by (first | omega | (simp only [lenS]; omega))⟩, _, by assumption, by rfl, ?_⟩ | refine .inl ⟨⟨by (first | omega | (simp only [lenS]; omega)), by (first | omega | (simp only [lenS]; omega))⟩, ?_⟩ | refine ⟨⟨by (first | omega | (simp only [lenS]; omega)), by (first | omega | (simp only [lenS]; omega))⟩, ?_⟩ | refine ⟨⟨by (first | omega | (simp only [lenS]; omega)), by (first | omega | (simp only [lenS]; omega)), by (first | omega | (simp only [lenS]; omega))⟩, ?_⟩ | refine ⟨.inl rfl, ?_⟩ | refine ⟨.inr (.inl (by (first | omega | (simp only [lenS]; omega)))), ?_⟩ | refine ⟨_, rfl, rfl, by (first | exact Nat.le_refl _ | exact Nat.le_of_ble_eq_true rfl | decide), ?_⟩ | refine ⟨_, rfl, by (first | exact Nat.le_refl _ | exact Nat.le_of_ble_eq_true rfl | decide), ?_⟩ | refine ⟨by (first | exact Nat.le_refl _ | exact Nat.le_of_ble_eq_true rfl | decide | exact rfl), ?_⟩ | refine ⟨show _ ≤ (9223372036854775807 : Nat) by (first | omega | (simp only [lenS]; omega)), ?_⟩ | refine ⟨show _ ≠ (0 : Int) by (first | omega | (simp only [lenS]; omega)), ?_⟩ | refine ⟨_, rfl, _, rfl, ?_⟩ | refine ⟨_, by assumption, Nat.le_of_ble_eq_true rfl, ?_⟩ | refine ⟨_, by assumption, _, rfl, ?_⟩ | refine ⟨_, rfl, ?_⟩ | fail)
          refine drawnT Tryd.wf Tryd.tab_ok Tryd.mixed (by decide +kernel) ?_; repeat' (first | refine qstep rfl rfl (fin_eq (congrArg (fun b => AV.d (.bool b)) hq1)) ?_ |      refine qskip rfl rfl ?_ | refine qstep (r := .d (.bool true)) rfl rfl (fin_eq (congrArg (fun b => AV.d (.bool b)) (decide_eq_true (by omega)))) ?_ | refine qstep (r := .d (.bool false)) rfl rfl (fin_eq (congrArg (fun b => AV.d (.bool b)) (decide_eq_false (by omega)))) ?_ | refine qstep rfl rfl ⟨fun _ => FinMove.refl _ _ _, fun h => absurd h (by decide)⟩ ?_ | refine qstep rfl rfl ⟨fun h => absurd h (by decide), fun _ => FinMove.refl _ _ _⟩ ?_ | refine qstep rfl rfl (FinMove.refl _ _ _) ?_ |     refine qstep rfl rfl (PureC.use hc1 (FinMove.refl _ _ _)) ?_ | refine qstep rfl rfl (PureC.use hc2 (FinMove.refl _ _ _)) ?_ | refine qstep rfl rfl (PureC.use hc3 (FinMove.refl _ _ _)) ?_ | refine qstep rfl rfl (PureC.use hc4 (FinMove.refl _ _ _)) ?_ |     refine qstep rfl rfl ⟨⟨by (first | omega | (simp only [lenS]; omega)), by (first | omega | (simp only [lenS]; omega))⟩, _, by assumption, by rfl, FinMove.refl _ _ _⟩ ?_ | refine qstep rfl rfl (.inl ⟨⟨by (first | omega | (simp only [lenS]; omega)), by (first | omega | (simp only [lenS]; omega))⟩, FinMove.refl _ _ _⟩) ?_ | refine qstep rfl rfl ⟨⟨by (first | omega | (simp only [lenS]; omega)), by (first | omega | (simp only [lenS]; omega))⟩, FinMove.refl _ _ _⟩ ?_ | refine qstep rfl rfl ⟨⟨by (first | omega | (simp only [lenS]; omega)), by (first | omega | (simp only [lenS]; omega)), by (first | omega | (simp only [lenS]; omega))⟩, FinMove.refl _ _ _⟩ ?_ | refine qstep rfl rfl ⟨⟨by (first | omega | (simp only [lenS]; omega)), by (first | omega | (simp only [lenS]; omega)), by (first | omega | (simp only [lenS]; omega))⟩, .inl rfl, FinMove.refl _ _ _⟩ ?_ | refine qstep rfl rfl ⟨_, rfl, _, rfl, FinMove.refl _ _ _⟩ ?_ | refine qstep rfl rfl ⟨_, rfl, FinMove.refl _ _ _⟩ ?_ | refine qstep rfl rfl ⟨_, rfl, Nat.le_refl _, FinMove.refl _ _ _⟩ ?_ | refine qstep rfl rfl ⟨Nat.le_refl _, FinMove.refl _ _ _⟩ ?_ | refine qstep rfl rfl ⟨by decide, FinMove.refl _ _ _⟩ ?_ | refine qstep rfl rfl ⟨show _ ≤ (9223372036854775807 : Nat) by (first | omega | (simp only [lenS]; omega)), FinMove.refl _ _ _⟩ ?_ | fail)
          repeat' (first | refine PureC.use hc1 ?_ | refine PureC.use hc2 ?_ | refine PureC.use hc3 ?_ | refine PureC.use hc4 ?_ |                    refine ⟨fun _ => ?_, fun h => absurd h (by decide)⟩ | refine ⟨fun h => absurd h (by decide), fun _ => ?_⟩ | (refine ⟨fun h => ?_, fun h => ?_⟩ <;> (try simp only [decide_eq_true_eq, decide_eq_false_iff_not, Bool.not_eq_true', Bool.not_eq_false', Bool.not_eq_true, Bool.not_eq_false, not_true_eq_false, beq_iff_eq, beq_eq_false_iff_ne, ne_eq, decide_eq_decide, true_iff, false_iff, iff_true, iff_false, true_and, and_true, false_or, or_false, Bool.and_true, Bool.and_eq_true, Bool.and_eq_false_iff, Bool.or_eq_true, Bool.or_eq_false_iff, List.length_cons, List.length_nil] at h) <;> (try (exfalso; first | omega | exact h rfl | (cases h; done) | exact absurd h (by assumption) | exact h (by assumption) | (simp at h; done)))) | refine ⟨⟨by (first | omega | (simp only [lenS]; omega)), by (first | omega | (simp only [lenS]; omega))⟩, _, by assumption, by rfl, ?_⟩ | refine .inl ⟨⟨by (first | omega | (simp only [lenS]; omega)), by (first | omega | (simp only [lenS]; omega))⟩, ?_⟩ | refine ⟨⟨by (first | omega | (simp only [lenS]; omega)), by (first | omega | (simp only [lenS]; omega))⟩, ?_⟩ | refine ⟨⟨by (first | omega | (simp only [lenS]; omega)), by (first | omega | (simp only [lenS]; omega)), by (first | omega | (simp only [lenS]; omega))⟩, ?_⟩ | refine ⟨.inl rfl, ?_⟩ | refine ⟨.inr (.inl (by (first | omega | (simp only [lenS]; omega)))), ?_⟩ | refine ⟨_, rfl, rfl, by (first | exact Nat.le_refl _ | exact Nat.le_of_ble_eq_true rfl | decide), ?_⟩ | refine ⟨_, rfl, by (first | exact Nat.le_refl _ | exact Nat.le_of_ble_eq_true rfl | decide), ?_⟩ | refine ⟨by (first | exact Nat.le_refl _ | exact Nat.le_of_ble_eq_true rfl | decide | exact rfl), ?_⟩ | refine ⟨show _ ≤ (9223372036854775807 : Nat) by (first | omega | (simp only [lenS]; omega)), ?_⟩ | refine ⟨show _ ≠ (0 : Int) by (first | omega | (simp only [lenS]; omega)), ?_⟩ | refine ⟨_, rfl, _, rfl, ?_⟩ | refine ⟨_, by assumption, Nat.le_of_ble_eq_true rfl, ?_⟩ | refine ⟨_, by assumption, _, rfl, ?_⟩ | refine ⟨_, rfl, ?_⟩ | fail)
          all_goals first | exact ⟨_, _, fin_out rfl, rfl⟩ | exact ⟨_, _, fin_out rfl, congrArg (fun b => AV.d (.bool b)) (by first | (simp_all [aN, forcedB]; done) | (simp_all [aN, forcedB]; exact decide_eq_decide.2 Iff.rfl))⟩
        · have hq1 : (!decide (v = [])) = true := by rw [decide_eq_false hv]; rfl
          refine pure_okT Tryd.wf Tryd.tab_ok Tryd.func10 (by decide +kernel) rfl rfl rfl rfl ?_
          repeat' (first | refine PureC.use hc1 ?_ | refine PureC.use hc2 ?_ | refine PureC.use hc3 ?_ | refine PureC.use hc4 ?_ |                    refine ⟨fun _ => ?_, fun h => absurd h (by decide)⟩ | refine ⟨fun h => absurd h (by decide), fun _ => ?_⟩ | (refine ⟨fun h => ?_, fun h => ?_⟩ <;> (try simp only [decide_eq_true_eq, decide_eq_false_iff_not, Bool.not_eq_true', Bool.not_eq_false', Bool.not_eq_true, Bool.not_eq_false, not_true_eq_false, beq_iff_eq, beq_eq_false_iff_ne, ne_eq, decide_eq_decide, true_iff, false_iff, iff_true, iff_false, true_and, and_true, false_or, or_false, Bool.and_true, Bool.and_eq_true, Bool.and_eq_false_iff, Bool.or_eq_true, Bool.or_eq_false_iff, List.length_cons, List.length_nil] at h) <;> (try (exfalso; first | omega | exact h rfl | (cases h; done) | exact absurd h (by assumption) | exact h (by assumption) | (simp at h; done)))) | refine ⟨⟨by (first | omega | (simp only [lenS]; omega)), by (first | omega | (simp only [lenS]; omega))⟩, _, by assumption, by rfl, ?_⟩ | refine .inl ⟨⟨by (first | omega | (simp only [lenS]; omega)), by (first | omega | (simp only [lenS]; omega))⟩, ?_⟩ | refine ⟨⟨by (first | omega | (simp only [lenS]; omega)), by (first | omega | (simp only [lenS]; omega))⟩, ?_⟩ | refine ⟨⟨by (first | omega | (simp only [lenS]; omega)), by (first | omega | (simp only [lenS]; omega)), by (first | omega | (simp only [lenS]; omega))⟩, ?_⟩ | refine ⟨.inl rfl, ?_⟩ | refine ⟨.inr (.inl (by (first | omega | (simp only [lenS]; omega)))), ?_⟩ | refine ⟨_, rfl, rfl, by (first | exact Nat.le_refl _ | exact Nat.le_of_ble_eq_true rfl | decide), ?_⟩ | refine ⟨_, rfl, by (first | exact Nat.le_refl _ | exact Nat.le_of_ble_eq_true rfl | decide), ?_⟩ | refine ⟨by (first | exact Nat.le_refl _ | exact Nat.le_of_ble_eq_true rfl | decide | exact rfl), ?_⟩ | refine ⟨show _ ≤ (9223372036854775807 : Nat) by (first | omega | (simp only [lenS]; omega)), ?_⟩ | refine ⟨show _ ≠ (0 : Int) by (first | omega | (simp only [lenS]; omega)), ?_⟩ | refine ⟨_, rfl, _, rfl, ?_⟩ | refine ⟨_, by assumption, Nat.le_of_ble_eq_true rfl, ?_⟩ | refine ⟨_, by assumption, _, rfl, ?_⟩ | refine ⟨_, rfl, ?_⟩ | fail)
          refine drawnT Tryd.wf Tryd.tab_ok Tryd.mixed (by decide +kernel) ?_; repeat' (first | refine qstep rfl rfl (fin_eq (congrArg (fun b => AV.d (.bool b)) hq1)) ?_ |      refine qskip rfl rfl ?_ | refine qstep (r := .d (.bool true)) rfl rfl (fin_eq (congrArg (fun b => AV.d (.bool b)) (decide_eq_true (by omega)))) ?_ | refine qstep (r := .d (.bool false)) rfl rfl (fin_eq (congrArg (fun b => AV.d (.bool b)) (decide_eq_false (by omega)))) ?_ | refine qstep rfl rfl ⟨fun _ => FinMove.refl _ _ _, fun h => absurd h (by decide)⟩ ?_ | refine qstep rfl rfl ⟨fun h => absurd h (by decide), fun _ => FinMove.refl _ _ _⟩ ?_ | refine qstep rfl rfl (FinMove.refl _ _ _) ?_ |     refine qstep rfl rfl (PureC.use hc1 (FinMove.refl _ _ _)) ?_ | refine qstep rfl rfl (PureC.use hc2 (FinMove.refl _ _ _)) ?_ | refine qstep rfl rfl (PureC.use hc3 (FinMove.refl _ _ _)) ?_ | refine qstep rfl rfl (PureC.use hc4 (FinMove.refl _ _ _)) ?_ |     refine qstep rfl rfl ⟨⟨by (first | omega | (simp only [lenS]; omega)), by (first | omega | (simp only [lenS]; omega))⟩, _, by assumption, by rfl, FinMove.refl _ _ _⟩ ?_ | refine qstep rfl rfl (.inl ⟨⟨by (first | omega | (simp only [lenS]; omega)), by (first | omega | (simp only [lenS]; omega))⟩, FinMove.refl _ _ _⟩) ?_ | refine qstep rfl rfl ⟨⟨by (first | omega | (simp only [lenS]; omega)), by (first | omega | (simp only [lenS]; omega))⟩, FinMove.refl _ _ _⟩ ?_ | refine qstep rfl rfl ⟨⟨by (first | omega | (simp only [lenS]; omega)), by (first | omega | (simp only [lenS]; omega)), by (first | omega | (simp only [lenS]; omega))⟩, FinMove.refl _ _ _⟩ ?_ | refine qstep rfl rfl ⟨⟨by (first | omega | (simp only [lenS]; omega)), by (first | omega | (simp only [lenS]; omega)), by (first | omega | (simp only [lenS]; omega))⟩, .inl rfl, FinMove.refl _ _ _⟩ ?_ | refine qstep rfl rfl ⟨_, rfl, _, rfl, FinMove.refl _ _ _⟩ ?_ | refine qstep rfl rfl ⟨_, rfl, FinMove.refl _ _ _⟩ ?_ | refine qstep rfl rfl ⟨_, rfl, Nat.le_refl _, FinMove.refl _ _ _⟩ ?_ | refine qstep rfl rfl ⟨Nat.le_refl _, FinMove.refl _ _ _⟩ ?_ | refine qstep rfl rfl ⟨by decide, FinMove.refl _ _ _⟩ ?_ | refine qstep rfl rfl ⟨show _ ≤ (9223372036854775807 : Nat) by (first | omega | (simp only [lenS]; omega)), FinMove.refl _ _ _⟩ ?_ | fail)
          repeat' (first | refine PureC.use hc1 ?_ | refine PureC.use hc2 ?_ | refine PureC.use hc3 ?_ | refine PureC.use hc4 ?_ |                    refine ⟨fun _ => ?_, fun h => absurd h (by decide)⟩ | refine ⟨fun h => absurd h (by decide), fun _ => ?_⟩ | (refine ⟨fun h => ?_, fun h => ?_⟩ <;> (try simp only [decide_eq_true_eq, decide_eq_false_iff_not, Bool.not_eq_true', Bool.not_eq_false', Bool.not_eq_true, Bool.not_eq_false, not_true_eq_false, beq_iff_eq, beq_eq_false_iff_ne, ne_eq, decide_eq_decide, true_iff, false_iff, iff_true, iff_false, true_and, and_true, false_or, or_false, Bool.and_true, Bool.and_eq_true, Bool.and_eq_false_iff, Bool.or_eq_true, Bool.or_eq_false_iff, List.length_cons, List.length_nil] at h) <;> (try (exfalso; first | omega | exact h rfl | (cases h; done) | exact absurd h (by assumption) | exact h (by assumption) | (simp at h; done)))) | refine ⟨⟨by (first | omega | (simp only [lenS]; omega)), by (first | omega | (simp only [lenS]; omega))⟩, _, by assumption, by rfl, ?_⟩ | refine .inl ⟨⟨by (first | omega | (simp only [lenS]; omega)), by (first | omega | (simp only [lenS]; omega))⟩, ?_⟩ | refine ⟨⟨by (first | omega | (simp only [lenS]; omega)), by (first | omega | (simp only [lenS]; omega))⟩, ?_⟩ | refine ⟨⟨by (first | omega | (simp only [lenS]; omega)), by (first | omega | (simp only [lenS]; omega)), by (first | omega | (simp only [lenS]; omega))⟩, ?_⟩ | refine ⟨.inl rfl, ?_⟩ | refine ⟨.inr (.inl (by (first | omega | (simp only [lenS]; omega)))), ?_⟩ | refine ⟨_, rfl, rfl, by (first | exact Nat.le_refl _ | exact Nat.le_of_ble_eq_true rfl | decide), ?_⟩ | refine ⟨_, rfl, by (first | exact Nat.le_refl _ | exact Nat.le_of_ble_eq_true rfl | decide), ?_⟩ | refine ⟨by (first | exact Nat.le_refl _ | exact Nat.le_of_ble_eq_true rfl | decide | exact rfl), ?_⟩ | refine ⟨show _ ≤ (9223372036854775807 : Nat) by (first | omega | (simp only [lenS]; omega)), ?_⟩ | refine ⟨show _ ≠ (0 : Int) by (first | omega | (simp only [lenS]; omega)), ?_⟩ | refine ⟨_, rfl, _, rfl, ?_⟩ | refine ⟨_, by assumption, Nat.le_of_ble_eq_true rfl, ?_⟩ | refine ⟨_, by assumption, _, rfl, ?_⟩ | refine ⟨_, rfl, ?_⟩ | fail)
          all_goals first | exact ⟨_, _, fin_out rfl, rfl⟩ | exact ⟨_, _, fin_out rfl, congrArg (fun b => AV.d (.bool b)) (by first | (simp_all [aN, forcedB]; done) | (simp_all [aN, forcedB]; exact decide_eq_decide.2 Iff.rfl))⟩
      · rw [if_neg hs]
        have hs' : ¬ nm = [115, 116, 121, 108, 101] := hs
        clear hs
        have hc2 := Attr_ok p el nm hp he h1
        by_cases hk : nm = clsN
        · subst hk
          rw [if_pos rfl]
          have hc3 := classes_ok v p.cl (by omega) (by have := hp.cl.1; omega)
          refine pure_okT Tryd.wf Tryd.tab_ok Tryd.func10 (by decide +kernel) rfl rfl rfl rfl ?_
          cases hA : attrP p el clsN with
          | false =>
            rw [hA] at hc2
            repeat' (first | refine PureC.use hc1 ?_ | refine PureC.use hc2 ?_ | refine PureC.use hc3 ?_ | refine PureC.use hc4 ?_ |                    refine ⟨fun _ => ?_, fun h => absurd h (by decide)⟩ | refine ⟨fun h => absurd h (by decide), fun _ => ?_⟩ | (refine ⟨fun h => ?_, fun h => ?_⟩ <;> (try simp only [decide_eq_true_eq, decide_eq_false_iff_not, Bool.not_eq_true', Bool.not_eq_false', Bool.not_eq_true, Bool.not_eq_false, not_true_eq_false, beq_iff_eq, beq_eq_false_iff_ne, ne_eq, decide_eq_decide, true_iff, false_iff, iff_true, iff_false, true_and, and_true, false_or, or_false, Bool.and_true, Bool.and_eq_true, Bool.and_eq_false_iff, Bool.or_eq_true, Bool.or_eq_false_iff, List.length_cons, List.length_nil] at h) <;> (try (exfalso; first | omega | exact h rfl | (cases h; done) | exact absurd h (by assumption) | exact h (by assumption) | (simp at h; done)))) | refine ⟨⟨by (first | omega | (simp only [lenS]; omega)), by (first | omega | (simp only [lenS]; omega))⟩, _, by assumption, by rfl, ?_⟩ | refine .inl ⟨⟨by (first | omega | (simp only [lenS]; omega)), by (first | omega | (simp only [lenS]; omega))⟩, ?_⟩ | refine ⟨⟨by (first | omega | (simp only [lenS]; omega)), by (first | omega | (simp only [lenS]; omega))⟩, ?_⟩ | refine ⟨⟨by (first | omega | (simp only [lenS]; omega)), by (first | omega | (simp only [lenS]; omega)), by (first | omega | (simp only [lenS]; omega))⟩, ?_⟩ | refine ⟨.inl rfl, ?_⟩ | refine ⟨.inr (.inl (by (first | omega | (simp only [lenS]; omega)))), ?_⟩ | refine ⟨_, rfl, rfl, by (first | exact Nat.le_refl _ | exact Nat.le_of_ble_eq_true rfl | decide), ?_⟩ | refine ⟨_, rfl, by (first | exact Nat.le_refl _ | exact Nat.le_of_ble_eq_true rfl | decide), ?_⟩ | refine ⟨by (first | exact Nat.le_refl _ | exact Nat.le_of_ble_eq_true rfl | decide | exact rfl), ?_⟩ | refine ⟨show _ ≤ (9223372036854775807 : Nat) by (first | omega | (simp only [lenS]; omega)), ?_⟩ | refine ⟨show _ ≠ (0 : Int) by (first | omega | (simp only [lenS]; omega)), ?_⟩ | refine ⟨_, rfl, _, rfl, ?_⟩ | refine ⟨_, by assumption, Nat.le_of_ble_eq_true rfl, ?_⟩ | refine ⟨_, by assumption, _, rfl, ?_⟩ | refine ⟨_, rfl, ?_⟩ | fail)
            all_goals first | exact ⟨_, _, fin_out rfl, rfl⟩ | exact ⟨_, _, fin_out rfl, congrArg (fun b => AV.d (.bool b)) (by first | (simp_all [aN, forcedB]; done) | (simp_all [aN, forcedB]; exact decide_eq_decide.2 Iff.rfl))⟩
          | true =>
            rw [hA] at hc2
            repeat' (first | refine PureC.use hc1 ?_ | refine PureC.use hc2 ?_ | refine PureC.use hc3 ?_ | refine PureC.use hc4 ?_ |                    refine ⟨fun _ => ?_, fun h => absurd h (by decide)⟩ | refine ⟨fun h => absurd h (by decide), fun _ => ?_⟩ | (refine ⟨fun h => ?_, fun h => ?_⟩ <;> (try simp only [decide_eq_true_eq, decide_eq_false_iff_not, Bool.not_eq_true', Bool.not_eq_false', Bool.not_eq_true, Bool.not_eq_false, not_true_eq_false, beq_iff_eq, beq_eq_false_iff_ne, ne_eq, decide_eq_decide, true_iff, false_iff, iff_true, iff_false, true_and, and_true, false_or, or_false, Bool.and_true, Bool.and_eq_true, Bool.and_eq_false_iff, Bool.or_eq_true, Bool.or_eq_false_iff, List.length_cons, List.length_nil] at h) <;> (try (exfalso; first | omega | exact h rfl | (cases h; done) | exact absurd h (by assumption) | exact h (by assumption) | (simp at h; done)))) | refine ⟨⟨by (first | omega | (simp only [lenS]; omega)), by (first | omega | (simp only [lenS]; omega))⟩, _, by assumption, by rfl, ?_⟩ | refine .inl ⟨⟨by (first | omega | (simp only [lenS]; omega)), by (first | omega | (simp only [lenS]; omega))⟩, ?_⟩ | refine ⟨⟨by (first | omega | (simp only [lenS]; omega)), by (first | omega | (simp only [lenS]; omega))⟩, ?_⟩ | refine ⟨⟨by (first | omega | (simp only [lenS]; omega)), by (first | omega | (simp only [lenS]; omega)), by (first | omega | (simp only [lenS]; omega))⟩, ?_⟩ | refine ⟨.inl rfl, ?_⟩ | refine ⟨.inr (.inl (by (first | omega | (simp only [lenS]; omega)))), ?_⟩ | refine ⟨_, rfl, rfl, by (first | exact Nat.le_refl _ | exact Nat.le_of_ble_eq_true rfl | decide), ?_⟩ | refine ⟨_, rfl, by (first | exact Nat.le_refl _ | exact Nat.le_of_ble_eq_true rfl | decide), ?_⟩ | refine ⟨by (first | exact Nat.le_refl _ | exact Nat.le_of_ble_eq_true rfl | decide | exact rfl), ?_⟩ | refine ⟨show _ ≤ (9223372036854775807 : Nat) by (first | omega | (simp only [lenS]; omega)), ?_⟩ | refine ⟨show _ ≠ (0 : Int) by (first | omega | (simp only [lenS]; omega)), ?_⟩ | refine ⟨_, rfl, _, rfl, ?_⟩ | refine ⟨_, by assumption, Nat.le_of_ble_eq_true rfl, ?_⟩ | refine ⟨_, by assumption, _, rfl, ?_⟩ | refine ⟨_, rfl, ?_⟩ | fail)
            all_goals first | exact ⟨_, _, fin_out rfl, rfl⟩ | exact ⟨_, _, fin_out rfl, congrArg (fun b => AV.d (.bool b)) (by first | (simp_all [aN, forcedB]; done) | (simp_all [aN, forcedB]; exact decide_eq_decide.2 Iff.rfl))⟩
        · rw [if_neg hk]
          have hk' : ¬ nm = [99, 108, 97, 115, 115] := hk
          clear hk
          have hc3 := Place_ok nm
          have hc4 := Allowed_ok v p.sc (by omega) (by have := hp.sc.1; omega)
          refine pure_okT Tryd.wf Tryd.tab_ok Tryd.func10 (by decide +kernel) rfl rfl rfl rfl ?_
          cases hA : attrP p el nm with
          | false =>
            rw [hA] at hc2
            repeat' (first | refine PureC.use hc1 ?_ | refine PureC.use hc2 ?_ | refine PureC.use hc3 ?_ | refine PureC.use hc4 ?_ |                    refine ⟨fun _ => ?_, fun h => absurd h (by decide)⟩ | refine ⟨fun h => absurd h (by decide), fun _ => ?_⟩ | (refine ⟨fun h => ?_, fun h => ?_⟩ <;> (try simp only [decide_eq_true_eq, decide_eq_false_iff_not, Bool.not_eq_true', Bool.not_eq_false', Bool.not_eq_true, Bool.not_eq_false, not_true_eq_false, beq_iff_eq, beq_eq_false_iff_ne, ne_eq, decide_eq_decide, true_iff, false_iff, iff_true, iff_false, true_and, and_true, false_or, or_false, Bool.and_true, Bool.and_eq_true, Bool.and_eq_false_iff, Bool.or_eq_true, Bool.or_eq_false_iff, List.length_cons, List.length_nil] at h) <;> (try (exfalso; first | omega | exact h rfl | (cases h; done) | exact absurd h (by assumption) | exact h (by assumption) | (simp at h; done)))) | refine ⟨⟨by (first | omega | (simp only [lenS]; omega)), by (first | omega | (simp only [lenS]; omega))⟩, _, by assumption, by rfl, ?_⟩ | refine .inl ⟨⟨by (first | omega | (simp only [lenS]; omega)), by (first | omega | (simp only [lenS]; omega))⟩, ?_⟩ | refine ⟨⟨by (first | omega | (simp only [lenS]; omega)), by (first | omega | (simp only [lenS]; omega))⟩, ?_⟩ | refine ⟨⟨by (first | omega | (simp only [lenS]; omega)), by (first | omega | (simp only [lenS]; omega)), by (first | omega | (simp only [lenS]; omega))⟩, ?_⟩ | refine ⟨.inl rfl, ?_⟩ | refine ⟨.inr (.inl (by (first | omega | (simp only [lenS]; omega)))), ?_⟩ | refine ⟨_, rfl, rfl, by (first | exact Nat.le_refl _ | exact Nat.le_of_ble_eq_true rfl | decide), ?_⟩ | refine ⟨_, rfl, by (first | exact Nat.le_refl _ | exact Nat.le_of_ble_eq_true rfl | decide), ?_⟩ | refine ⟨by (first | exact Nat.le_refl _ | exact Nat.le_of_ble_eq_true rfl | decide | exact rfl), ?_⟩ | refine ⟨show _ ≤ (9223372036854775807 : Nat) by (first | omega | (simp only [lenS]; omega)), ?_⟩ | refine ⟨show _ ≠ (0 : Int) by (first | omega | (simp only [lenS]; omega)), ?_⟩ | refine ⟨_, rfl, _, rfl, ?_⟩ | refine ⟨_, by assumption, Nat.le_of_ble_eq_true rfl, ?_⟩ | refine ⟨_, by assumption, _, rfl, ?_⟩ | refine ⟨_, rfl, ?_⟩ | fail)
            all_goals first | exact ⟨_, _, fin_out rfl, rfl⟩ | exact ⟨_, _, fin_out rfl, congrArg (fun b => AV.d (.bool b)) (by first | (simp_all [aN, forcedB]; done) | (simp_all [aN, forcedB]; exact decide_eq_decide.2 Iff.rfl))⟩
          | true =>
            rw [hA] at hc2
            by_cases hpl : nm ∈ places
            · rw [decide_eq_true hpl] at hc3 ⊢
              repeat' (first | refine PureC.use hc1 ?_ | refine PureC.use hc2 ?_ | refine PureC.use hc3 ?_ | refine PureC.use hc4 ?_ |                    refine ⟨fun _ => ?_, fun h => absurd h (by decide)⟩ | refine ⟨fun h => absurd h (by decide), fun _ => ?_⟩ | (refine ⟨fun h => ?_, fun h => ?_⟩ <;> (try simp only [decide_eq_true_eq, decide_eq_false_iff_not, Bool.not_eq_true', Bool.not_eq_false', Bool.not_eq_true, Bool.not_eq_false, not_true_eq_false, beq_iff_eq, beq_eq_false_iff_ne, ne_eq, decide_eq_decide, true_iff, false_iff, iff_true, iff_false, true_and, and_true, false_or, or_false, Bool.and_true, Bool.and_eq_true, Bool.and_eq_false_iff, Bool.or_eq_true, Bool.or_eq_false_iff, List.length_cons, List.length_nil] at h) <;> (try (exfalso; first | omega | exact h rfl | (cases h; done) | exact absurd h (by assumption) | exact h (by assumption) | (simp at h; done)))) | refine ⟨⟨by (first | omega | (simp only [lenS]; omega)), by (first | omega | (simp only [lenS]; omega))⟩, _, by assumption, by rfl, ?_⟩ | refine .inl ⟨⟨by (first | omega | (simp only [lenS]; omega)), by (first | omega | (simp only [lenS]; omega))⟩, ?_⟩ | refine ⟨⟨by (first | omega | (simp only [lenS]; omega)), by (first | omega | (simp only [lenS]; omega))⟩, ?_⟩ | refine ⟨⟨by (first | omega | (simp only [lenS]; omega)), by (first | omega | (simp only [lenS]; omega)), by (first | omega | (simp only [lenS]; omega))⟩, ?_⟩ | refine ⟨.inl rfl, ?_⟩ | refine ⟨.inr (.inl (by (first | omega | (simp only [lenS]; omega)))), ?_⟩ | refine ⟨_, rfl, rfl, by (first | exact Nat.le_refl _ | exact Nat.le_of_ble_eq_true rfl | decide), ?_⟩ | refine ⟨_, rfl, by (first | exact Nat.le_refl _ | exact Nat.le_of_ble_eq_true rfl | decide), ?_⟩ | refine ⟨by (first | exact Nat.le_refl _ | exact Nat.le_of_ble_eq_true rfl | decide | exact rfl), ?_⟩ | refine ⟨show _ ≤ (9223372036854775807 : Nat) by (first | omega | (simp only [lenS]; omega)), ?_⟩ | refine ⟨show _ ≠ (0 : Int) by (first | omega | (simp only [lenS]; omega)), ?_⟩ | refine ⟨_, rfl, _, rfl, ?_⟩ | refine ⟨_, by assumption, Nat.le_of_ble_eq_true rfl, ?_⟩ | refine ⟨_, by assumption, _, rfl, ?_⟩ | refine ⟨_, rfl, ?_⟩ | fail)
              all_goals first | exact ⟨_, _, fin_out rfl, rfl⟩ | exact ⟨_, _, fin_out rfl, congrArg (fun b => AV.d (.bool b)) (by first | (simp_all [aN, forcedB]; done) | (simp_all [aN, forcedB]; exact decide_eq_decide.2 Iff.rfl))⟩
            · rw [decide_eq_false hpl] at hc3 ⊢
              repeat' (first | refine PureC.use hc1 ?_ | refine PureC.use hc2 ?_ | refine PureC.use hc3 ?_ | refine PureC.use hc4 ?_ |                    refine ⟨fun _ => ?_, fun h => absurd h (by decide)⟩ | refine ⟨fun h => absurd h (by decide), fun _ => ?_⟩ | (refine ⟨fun h => ?_, fun h => ?_⟩ <;> (try simp only [decide_eq_true_eq, decide_eq_false_iff_not, Bool.not_eq_true', Bool.not_eq_false', Bool.not_eq_true, Bool.not_eq_false, not_true_eq_false, beq_iff_eq, beq_eq_false_iff_ne, ne_eq, decide_eq_decide, true_iff, false_iff, iff_true, iff_false, true_and, and_true, false_or, or_false, Bool.and_true, Bool.and_eq_true, Bool.and_eq_false_iff, Bool.or_eq_true, Bool.or_eq_false_iff, List.length_cons, List.length_nil] at h) <;> (try (exfalso; first | omega | exact h rfl | (cases h; done) | exact absurd h (by assumption) | exact h (by assumption) | (simp at h; done)))) | refine ⟨⟨by (first | omega | (simp only [lenS]; omega)), by (first | omega | (simp only [lenS]; omega))⟩, _, by assumption, by rfl, ?_⟩ | refine .inl ⟨⟨by (first | omega | (simp only [lenS]; omega)), by (first | omega | (simp only [lenS]; omega))⟩, ?_⟩ | refine ⟨⟨by (first | omega | (simp only [lenS]; omega)), by (first | omega | (simp only [lenS]; omega))⟩, ?_⟩ | refine ⟨⟨by (first | omega | (simp only [lenS]; omega)), by (first | omega | (simp only [lenS]; omega)), by (first | omega | (simp only [lenS]; omega))⟩, ?_⟩ | refine ⟨.inl rfl, ?_⟩ | refine ⟨.inr (.inl (by (first | omega | (simp only [lenS]; omega)))), ?_⟩ | refine ⟨_, rfl, rfl, by (first | exact Nat.le_refl _ | exact Nat.le_of_ble_eq_true rfl | decide), ?_⟩ | refine ⟨_, rfl, by (first | exact Nat.le_refl _ | exact Nat.le_of_ble_eq_true rfl | decide), ?_⟩ | refine ⟨by (first | exact Nat.le_refl _ | exact Nat.le_of_ble_eq_true rfl | decide | exact rfl), ?_⟩ | refine ⟨show _ ≤ (9223372036854775807 : Nat) by (first | omega | (simp only [lenS]; omega)), ?_⟩ | refine ⟨show _ ≠ (0 : Int) by (first | omega | (simp only [lenS]; omega)), ?_⟩ | refine ⟨_, rfl, _, rfl, ?_⟩ | refine ⟨_, by assumption, Nat.le_of_ble_eq_true rfl, ?_⟩ | refine ⟨_, by assumption, _, rfl, ?_⟩ | refine ⟨_, rfl, ?_⟩ | fail)
              all_goals first | exact ⟨_, _, fin_out rfl, rfl⟩ | exact ⟨_, _, fin_out rfl, congrArg (fun b => AV.d (.bool b)) (by first | (simp_all [aN, forcedB]; done) | (simp_all [aN, forcedB]; exact decide_eq_decide.2 Iff.rfl))⟩
  · rw [decide_eq_false hE] at hc1 ⊢
    refine pure_okT Tryd.wf Tryd.tab_ok Tryd.func10 (by decide +kernel) rfl rfl rfl rfl ?_
    repeat' (first | refine PureC.use hc1 ?_ | refine PureC.use hc2 ?_ | refine PureC.use hc3 ?_ | refine PureC.use hc4 ?_ |                    refine ⟨fun _ => ?_, fun h => absurd h (by decide)⟩ | refine ⟨fun h => absurd h (by decide), fun _ => ?_⟩ | (refine ⟨fun h => ?_, fun h => ?_⟩ <;> (try simp only [decide_eq_true_eq, decide_eq_false_iff_not, Bool.not_eq_true', Bool.not_eq_false', Bool.not_eq_true, Bool.not_eq_false, not_true_eq_false, beq_iff_eq, beq_eq_false_iff_ne, ne_eq, decide_eq_decide, true_iff, false_iff, iff_true, iff_false, true_and, and_true, false_or, or_false, Bool.and_true, Bool.and_eq_true, Bool.and_eq_false_iff, Bool.or_eq_true, Bool.or_eq_false_iff, List.length_cons, List.length_nil] at h) <;> (try (exfalso; first | omega | exact h rfl | (cases h; done) | exact absurd h (by assumption) | exact h (by assumption) | (simp at h; done)))) | refine ⟨⟨by (first | omega | (simp only [lenS]; omega)), by (first | omega | (simp only [lenS]; omega))⟩, _, by assumption, by rfl, ?_⟩ | refine .inl ⟨⟨by (first | omega | (simp only [lenS]; omega)), by (first | omega | (simp only [lenS]; omega))⟩, ?_⟩ | refine ⟨⟨by (first | omega | (simp only [lenS]; omega)), by (first | omega | (simp only [lenS]; omega))⟩, ?_⟩ | refine ⟨⟨by (first | omega | (simp only [lenS]; omega)), by (first | omega | (simp only [lenS]; omega)), by (first | omega | (simp only [lenS]; omega))⟩, ?_⟩ | refine ⟨.inl rfl, ?_⟩ | refine ⟨.inr (.inl (by (first | omega | (simp only [lenS]; omega)))), ?_⟩ | refine ⟨_, rfl, rfl, by (first | exact Nat.le_refl _ | exact Nat.le_of_ble_eq_true rfl | decide), ?_⟩ | refine ⟨_, rfl, by (first | exact Nat.le_refl _ | exact Nat.le_of_ble_eq_true rfl | decide), ?_⟩ | refine ⟨by (first | exact Nat.le_refl _ | exact Nat.le_of_ble_eq_true rfl | decide | exact rfl), ?_⟩ | refine ⟨show _ ≤ (9223372036854775807 : Nat) by (first | omega | (simp only [lenS]; omega)), ?_⟩ | refine ⟨show _ ≠ (0 : Int) by (first | omega | (simp only [lenS]; omega)), ?_⟩ | refine ⟨_, rfl, _, rfl, ?_⟩ | refine ⟨_, by assumption, Nat.le_of_ble_eq_true rfl, ?_⟩ | refine ⟨_, by assumption, _, rfl, ?_⟩ | refine ⟨_, rfl, ?_⟩ | fail)
    exact ⟨_, _, fin_out rfl, rfl⟩
end Go.Proofs.YtfchacihhljfhaaDoor

namespace Go.Proofs.YtfchacihhljfhaaDoor
open Go.Aw
set_option maxHeartbeats 1600000
set_option linter.unusedSimpArgs false
set_option linter.unusedVariables false
theorem safe_parts {p : Pol} {l : List Node} : safeB p l = true ↔ (szL l : Int) ≤ p.nd ∧ (dpL l : Int) ≤ p.dp ∧ (szL l ≤ 2000 ∧ dpL l ≤ 64 ∧ stL false false false l = true) ∧ innL p l = true := by
  unfold safeB stableB
  simp only [Bool.and_eq_true, decide_eq_true_eq]
  exact ⟨fun ⟨a, b, ⟨⟨c, d⟩, e⟩, f⟩ => ⟨a, b, ⟨c, d, e⟩, f⟩, fun ⟨a, b, ⟨c, d, e⟩, f⟩ => ⟨a, b, ⟨⟨c, d⟩, e⟩, f⟩⟩
theorem right_sizes {p : Pol} (h : rightB p = true) : 1 ≤ p.dp ∧ 1 ≤ p.nd := by
  unfold rightB sizesB at h
  rw [Bool.and_eq_true, decide_eq_true_eq] at h
  omega
theorem safe_nil {p : Pol} (h : rightB p = true) : safeB p [] = true := by
  have := right_sizes h
  rw [safe_parts]
  refine ⟨by rw [szL]; omega, by rw [dpL]; omega, ⟨by rw [szL]; omega, by rw [dpL]; omega, by rw [stL]⟩, by rw [innL]⟩
theorem safe_text {p : Pol} (h : rightB p = true) (s : List UInt8) : safeB p [.mk [] [] s []] = !decide (s = []) := by
  have := right_sizes h
  have hnm : (Node.mk [] [] s []).name = [] := rfl
  by_cases hs : s = []
  · rw [decide_eq_true hs]
    cases hc : safeB p [.mk [] [] s []] with
    | false => rfl
    | true =>
      rw [safe_parts] at hc
      have h5 := hc.2.2.1.2.2
      rw [stL_cons, if_pos hnm] at h5
      simp only [Bool.and_eq_true, Bool.not_eq_true', decide_eq_false_iff_not] at h5
      exact absurd hs h5.1.1.1.2
  · rw [decide_eq_false hs]
    refine safe_parts.2 ⟨?_, ?_, ⟨?_, ?_, ?_⟩, ?_⟩
    · rw [szL_cons, szN_eq]; show ((1 + szL [] + szL [] : Nat) : Int) ≤ _; rw [szL]; omega
    · rw [dpL_cons, dpN_eq, if_pos hnm, dpL]; show ((0 : Nat) : Int) ≤ _; omega
    · rw [szL_cons, szN_eq]; show 1 + szL [] + szL [] ≤ _; rw [szL]; omega
    · rw [dpL_cons, dpN_eq, if_pos hnm, dpL]; show 0 ≤ 64; omega
    · rw [stL_cons, if_pos hnm, stL]
      simp only [Bool.and_true, Bool.and_eq_true, decide_eq_true_eq, Bool.not_eq_true', decide_eq_false_iff_not]
      refine ⟨⟨⟨?_, hs⟩, ?_⟩, ?_⟩ <;> first | rfl | trivial
    · rw [innL_cons, innN_eq, innL]; rfl
end Go.Proofs.YtfchacihhljfhaaDoor

namespace Go.Proofs.YtfchacihhljfhaaDoor
open Go.Aw
set_option maxHeartbeats 1600000
set_option linter.unusedSimpArgs false
set_option linter.unusedVariables false
def relTo (l : List At) : Nat → Int
  | 0 => -1
  | k + 1 => if (l.getD k ([], [])).1 = relN then (k : Int) else relTo l k
theorem relTo_lt (l : List At) : ∀ k : Nat, relTo l k < (k : Int) ∧ -1 ≤ relTo l k
  | 0 => by rw [relTo]; omega
  | k + 1 => by
    have := relTo_lt l k
    rw [relTo]; split <;> omega
theorem getD_of {α : Type} (l : List α) (k : Nat) (d : α) (h : k < l.length) : l.getD k d = l[k] := by
  rw [List.getD_eq_getElem?_getD, List.getElem?_eq_getElem h, Option.getD_some]
theorem hasA_take (nm : List UInt8) (l : List At) (k : Nat) (h : k < l.length) : hasA nm (l.take (k + 1)) = (hasA nm (l.take k) || decide (l[k].1 = nm)) := by
  unfold hasA
  rw [List.take_succ_eq_append_getElem h, List.map_append, Bool.eq_iff_iff]
  simp only [decide_eq_true_eq, Bool.or_eq_true, List.mem_append, List.map_cons, List.map_nil, List.mem_singleton]
  exact ⟨fun h => h.imp id Eq.symm, fun h => h.imp id Eq.symm⟩
theorem relTo_has (l : List At) : ∀ k : Nat, k ≤ l.length → decide (0 ≤ relTo l k) = hasA relN (l.take k)
  | 0, _ => rfl
  | k + 1, h => by
    have ih := relTo_has l k (by omega)
    rw [hasA_take relN l k h, ← ih, relTo, getD_of l k _ h]
    by_cases hx : l[k].1 = relN
    · rw [if_pos hx, decide_eq_true hx, decide_eq_true (by omega), Bool.or_true]
    · rw [if_neg hx, decide_eq_false hx, Bool.or_false]
theorem link_eq (l : List At) : linkB l = (decide (hasA hrefN l = decide (0 ≤ relTo l l.length)) && (!hasA hrefN l || decide (relTo l l.length = (l.length : Int) - 1))) := by
  have hr := relTo_has l l.length (Nat.le_refl _)
  rw [List.take_length] at hr
  unfold linkB
  cases hh : hasA hrefN l with
  | false =>
    rw [if_neg Bool.false_ne_true, hr]
    cases hasA relN l <;> rfl
  | true =>
    rw [if_pos rfl]
    rcases List.eq_nil_or_concat l with rfl | ⟨r, x, rfl⟩
    · exact absurd hh (by decide)
    · rw [List.concat_eq_append] at *
      have hx : relTo (r ++ [x]) (r ++ [x]).length = if x.1 = relN then (r.length : Int) else relTo (r ++ [x]) r.length := by
        rw [show (r ++ [x]).length = r.length + 1 from by simp, relTo, List.getD_eq_getElem?_getD]; simp
      have hlt := relTo_lt (r ++ [x]) r.length
      rw [hx]
      have hl : ((r ++ [x]).length : Int) - 1 = r.length := by simp
      rw [hl, List.map_append]
      by_cases h : x.1 = relN
      · rw [if_pos h]
        simp [h]
      · rw [if_neg h]
        have h1 : ¬ relTo (r ++ [x]) r.length = (r.length : Int) := by omega
        simp [h, h1]
theorem all_take {α : Type} (f : α → Bool) (l : List α) (k : Nat) (h : k < l.length) : (l.take (k + 1)).all f = ((l.take k).all f && f l[k]) := by
  rw [List.take_succ_eq_append_getElem h, List.all_append]; simp
theorem all_no {α : Type} (f : α → Bool) (l : List α) (k : Nat) (h : k < l.length) (hf : f l[k] = false) : l.all f = false := by
  rw [List.all_eq_false]; exact ⟨_, List.getElem_mem h, by simp [hf]⟩
def FitsN (n : Node) : Prop := n.name.length ≤ 1000000 ∧ n.attrs.length ≤ 1000000 ∧ ∀ a ∈ n.attrs, a.1.length ≤ 1000000 ∧ a.2.length ≤ 100000
set_option maxRecDepth 100000 in
set_option maxHeartbeats 2000000 in
theorem element_ok (p : Pol) (n : Node) (hp : Fits p) (hf : FitsN n) : PureC Tryd.prog 33 [polA p, nodeA n] (.d (.bool (elemP p n))) := by
  obtain ⟨h1, h2, h3⟩ := hf
  have hE := Elem_ok p n.name hp
  unfold elemP
  rw [link_eq]
  unfold nodeA
  generalize n.name = nm at *
  generalize n.attrs = l at *
  generalize n.text = tx
  generalize nodesD n.kids = kd
  have hn := attrsD_len l
  refine pure_okT Tryd.wf Tryd.tab_ok Tryd.func33 (by decide +kernel) rfl rfl rfl rfl ?_
  repeat' (first | refine PureC.use hc1 ?_ |                       refine ⟨fun _ => ?_, fun h => absurd h (by decide)⟩ | refine ⟨fun h => absurd h (by decide), fun _ => ?_⟩ | (refine ⟨fun h => ?_, fun h => ?_⟩ <;> (try simp only [decide_eq_true_eq, decide_eq_false_iff_not, Bool.not_eq_true', Bool.not_eq_false', Bool.not_eq_true, Bool.not_eq_false, not_true_eq_false, beq_iff_eq, beq_eq_false_iff_ne, ne_eq, decide_eq_decide, true_iff, false_iff, iff_true, iff_false, true_and, and_true, false_or, or_false, Bool.and_true, Bool.and_eq_true, Bool.and_eq_false_iff, Bool.or_eq_true, Bool.or_eq_false_iff, List.length_cons, List.length_nil] at h) <;> (try (exfalso; first | omega | exact h rfl | (cases h; done) | exact absurd h (by assumption) | exact h (by assumption) | (simp at h; done)))) | refine ⟨⟨by (first | omega | (simp only [lenS]; omega)), by (first | omega | (simp only [lenS]; omega))⟩, _, by assumption, by rfl, ?_⟩ | refine .inl ⟨⟨by (first | omega | (simp only [lenS]; omega)), by (first | omega | (simp only [lenS]; omega))⟩, ?_⟩ | refine ⟨⟨by (first | omega | (simp only [lenS]; omega)), by (first | omega | (simp only [lenS]; omega))⟩, ?_⟩ | refine ⟨⟨by (first | omega | (simp only [lenS]; omega)), by (first | omega | (simp only [lenS]; omega)), by (first | omega | (simp only [lenS]; omega))⟩, ?_⟩ | refine ⟨.inl rfl, ?_⟩ | refine ⟨.inr (.inl (by (first | omega | (simp only [lenS]; omega)))), ?_⟩ | refine ⟨_, rfl, rfl, by (first | exact Nat.le_refl _ | exact Nat.le_of_ble_eq_true rfl | decide), ?_⟩ | refine ⟨_, rfl, by (first | exact Nat.le_refl _ | exact Nat.le_of_ble_eq_true rfl | decide), ?_⟩ | refine ⟨by (first | exact Nat.le_refl _ | exact Nat.le_of_ble_eq_true rfl | decide | exact rfl), ?_⟩ | refine ⟨show _ ≤ (9223372036854775807 : Nat) by (first | omega | (simp only [lenS]; omega)), ?_⟩ | refine ⟨show _ ≠ (0 : Int) by (first | omega | (simp only [lenS]; omega)), ?_⟩ | refine ⟨_, rfl, _, rfl, ?_⟩ | refine ⟨_, by assumption, Nat.le_of_ble_eq_true rfl, ?_⟩ | refine ⟨_, by assumption, _, rfl, ?_⟩ | refine ⟨_, rfl, ?_⟩ | fail)
  refine loopT Tryd.wf Tryd.tab_ok (fun m s' σ => ∃ k : Nat, m = l.length - k ∧ k ≤ l.length ∧ (l.take k).all (valueP p nm) = true ∧ s' = [(2, .ref 0 0 0), (3, .ref 1 0 0), (5, .d (.bool (hasA hrefN (l.take k)))), (6, .d (.int .i64 (relTo l k))), (10, .d (.sl (attrsD l))), (11, .d (.int .i64 l.length)), (12, .d (.int .i64 k))] ∧ σ = ⟨2, [(1, .rows (4, 36) [[.d (.str nm), .d (.sl (attrsD l)), .d (.str tx), .d (.sl kd)]]), (0, .rows (9, 24) [(polD p).map .d])]⟩)
    ⟨0, rfl, Nat.zero_le _, rfl, rfl, rfl⟩ (Mv.of [.old 0, .old 1] rfl rfl rfl ⟨⟨rfl, .inl ⟨rfl, fun row h => by rw [List.mem_singleton.1 h]; rfl⟩⟩, ⟨rfl, .inl ⟨rfl, fun row h => by rw [List.mem_singleton.1 h]; rfl⟩⟩, trivial⟩ ⟨⟨rfl, rfl, rfl⟩, ⟨rfl, rfl, rfl⟩, rfl, rfl, rfl, congrArg (fun n : Nat => D.int .i64 n) hn.symm, rfl, trivial⟩) ?_
  rintro _ _ _ ⟨k, rfl, hk, hI, rfl, rfl⟩
  by_cases hlt : k < l.length
  · have hg := attrsD_get l k hlt
    have hlk := h3 _ (List.getElem_mem hlt)
    have hc1 := Value2_ok p nm l[k].1 l[k].2 hp h1 hlk.1 hlk.2
    have hal := all_take (valueP p nm) l k hlt
    have hno := all_no (valueP p nm) l k hlt
    have hre : relTo l (k + 1) = if l[k].1 = relN then (k : Int) else relTo l k := by rw [relTo, getD_of l k _ hlt]
    have hha := hasA_take hrefN l k hlt
    rw [hI, Bool.true_and] at hal
    rw [show (l[k].1, l[k].2) = l[k] from rfl] at hc1
    generalize l[k] = a at *
    obtain ⟨an, av⟩ := a
    dsimp only at *
    cases hv : valueP p nm (an, av) with
    | false =>
      rw [hv] at hc1
      repeat' (first | refine PureC.use hc1 ?_ |                       refine ⟨fun _ => ?_, fun h => absurd h (by decide)⟩ | refine ⟨fun h => absurd h (by decide), fun _ => ?_⟩ | (refine ⟨fun h => ?_, fun h => ?_⟩ <;> (try simp only [decide_eq_true_eq, decide_eq_false_iff_not, Bool.not_eq_true', Bool.not_eq_false', Bool.not_eq_true, Bool.not_eq_false, not_true_eq_false, beq_iff_eq, beq_eq_false_iff_ne, ne_eq, decide_eq_decide, true_iff, false_iff, iff_true, iff_false, true_and, and_true, false_or, or_false, Bool.and_true, Bool.and_eq_true, Bool.and_eq_false_iff, Bool.or_eq_true, Bool.or_eq_false_iff, List.length_cons, List.length_nil] at h) <;> (try (exfalso; first | omega | exact h rfl | (cases h; done) | exact absurd h (by assumption) | exact h (by assumption) | (simp at h; done)))) | refine ⟨⟨by (first | omega | (simp only [lenS]; omega)), by (first | omega | (simp only [lenS]; omega))⟩, _, by assumption, by rfl, ?_⟩ | refine .inl ⟨⟨by (first | omega | (simp only [lenS]; omega)), by (first | omega | (simp only [lenS]; omega))⟩, ?_⟩ | refine ⟨⟨by (first | omega | (simp only [lenS]; omega)), by (first | omega | (simp only [lenS]; omega))⟩, ?_⟩ | refine ⟨⟨by (first | omega | (simp only [lenS]; omega)), by (first | omega | (simp only [lenS]; omega)), by (first | omega | (simp only [lenS]; omega))⟩, ?_⟩ | refine ⟨.inl rfl, ?_⟩ | refine ⟨.inr (.inl (by (first | omega | (simp only [lenS]; omega)))), ?_⟩ | refine ⟨_, rfl, rfl, by (first | exact Nat.le_refl _ | exact Nat.le_of_ble_eq_true rfl | decide), ?_⟩ | refine ⟨_, rfl, by (first | exact Nat.le_refl _ | exact Nat.le_of_ble_eq_true rfl | decide), ?_⟩ | refine ⟨by (first | exact Nat.le_refl _ | exact Nat.le_of_ble_eq_true rfl | decide | exact rfl), ?_⟩ | refine ⟨show _ ≤ (9223372036854775807 : Nat) by (first | omega | (simp only [lenS]; omega)), ?_⟩ | refine ⟨show _ ≠ (0 : Int) by (first | omega | (simp only [lenS]; omega)), ?_⟩ | refine ⟨_, rfl, _, rfl, ?_⟩ | refine ⟨_, by assumption, Nat.le_of_ble_eq_true rfl, ?_⟩ | refine ⟨_, by assumption, _, rfl, ?_⟩ | refine ⟨_, rfl, ?_⟩ | fail)
      exact ⟨_, _, fin_out rfl, congrArg (fun b => AV.d (.bool b)) (by rw [hno hv]; rfl)⟩
    | true =>
      rw [hv] at hc1 hal
      by_cases hnr : an = relN
      · rw [if_pos hnr] at hre
        cases hq : hasA hrefN (l.take k) with
        | false =>
          rw [hq, Bool.false_or] at hha
          repeat' (first | refine PureC.use hc1 ?_ |                       refine ⟨fun _ => ?_, fun h => absurd h (by decide)⟩ | refine ⟨fun h => absurd h (by decide), fun _ => ?_⟩ | (refine ⟨fun h => ?_, fun h => ?_⟩ <;> (try simp only [decide_eq_true_eq, decide_eq_false_iff_not, Bool.not_eq_true', Bool.not_eq_false', Bool.not_eq_true, Bool.not_eq_false, not_true_eq_false, beq_iff_eq, beq_eq_false_iff_ne, ne_eq, decide_eq_decide, true_iff, false_iff, iff_true, iff_false, true_and, and_true, false_or, or_false, Bool.and_true, Bool.and_eq_true, Bool.and_eq_false_iff, Bool.or_eq_true, Bool.or_eq_false_iff, List.length_cons, List.length_nil] at h) <;> (try (exfalso; first | omega | exact h rfl | (cases h; done) | exact absurd h (by assumption) | exact h (by assumption) | (simp at h; done)))) | refine ⟨⟨by (first | omega | (simp only [lenS]; omega)), by (first | omega | (simp only [lenS]; omega))⟩, _, by assumption, by rfl, ?_⟩ | refine .inl ⟨⟨by (first | omega | (simp only [lenS]; omega)), by (first | omega | (simp only [lenS]; omega))⟩, ?_⟩ | refine ⟨⟨by (first | omega | (simp only [lenS]; omega)), by (first | omega | (simp only [lenS]; omega))⟩, ?_⟩ | refine ⟨⟨by (first | omega | (simp only [lenS]; omega)), by (first | omega | (simp only [lenS]; omega)), by (first | omega | (simp only [lenS]; omega))⟩, ?_⟩ | refine ⟨.inl rfl, ?_⟩ | refine ⟨.inr (.inl (by (first | omega | (simp only [lenS]; omega)))), ?_⟩ | refine ⟨_, rfl, rfl, by (first | exact Nat.le_refl _ | exact Nat.le_of_ble_eq_true rfl | decide), ?_⟩ | refine ⟨_, rfl, by (first | exact Nat.le_refl _ | exact Nat.le_of_ble_eq_true rfl | decide), ?_⟩ | refine ⟨by (first | exact Nat.le_refl _ | exact Nat.le_of_ble_eq_true rfl | decide | exact rfl), ?_⟩ | refine ⟨show _ ≤ (9223372036854775807 : Nat) by (first | omega | (simp only [lenS]; omega)), ?_⟩ | refine ⟨show _ ≠ (0 : Int) by (first | omega | (simp only [lenS]; omega)), ?_⟩ | refine ⟨_, rfl, _, rfl, ?_⟩ | refine ⟨_, by assumption, Nat.le_of_ble_eq_true rfl, ?_⟩ | refine ⟨_, by assumption, _, rfl, ?_⟩ | refine ⟨_, rfl, ?_⟩ | fail)
          exact ⟨_, _, _, ⟨k + 1, rfl, hlt, hal, rfl, rfl⟩, by omega, Mv.of [.old 0, .old 1] rfl rfl rfl ⟨⟨rfl, .inl ⟨rfl, fun row h => by rw [List.mem_singleton.1 h]; rfl⟩⟩, ⟨rfl, .inl ⟨rfl, fun row h => by rw [List.mem_singleton.1 h]; rfl⟩⟩, trivial⟩ ⟨⟨rfl, rfl, rfl⟩, ⟨rfl, rfl, rfl⟩, congrArg D.bool hha, congrArg (fun n : Int => D.int .i64 n) hre, rfl, rfl, rfl, trivial⟩⟩
        | true =>
          rw [hq, Bool.true_or] at hha
          repeat' (first | refine PureC.use hc1 ?_ |                       refine ⟨fun _ => ?_, fun h => absurd h (by decide)⟩ | refine ⟨fun h => absurd h (by decide), fun _ => ?_⟩ | (refine ⟨fun h => ?_, fun h => ?_⟩ <;> (try simp only [decide_eq_true_eq, decide_eq_false_iff_not, Bool.not_eq_true', Bool.not_eq_false', Bool.not_eq_true, Bool.not_eq_false, not_true_eq_false, beq_iff_eq, beq_eq_false_iff_ne, ne_eq, decide_eq_decide, true_iff, false_iff, iff_true, iff_false, true_and, and_true, false_or, or_false, Bool.and_true, Bool.and_eq_true, Bool.and_eq_false_iff, Bool.or_eq_true, Bool.or_eq_false_iff, List.length_cons, List.length_nil] at h) <;> (try (exfalso; first | omega | exact h rfl | (cases h; done) | exact absurd h (by assumption) | exact h (by assumption) | (simp at h; done)))) | refine ⟨⟨by (first | omega | (simp only [lenS]; omega)), by (first | omega | (simp only [lenS]; omega))⟩, _, by assumption, by rfl, ?_⟩ | refine .inl ⟨⟨by (first | omega | (simp only [lenS]; omega)), by (first | omega | (simp only [lenS]; omega))⟩, ?_⟩ | refine ⟨⟨by (first | omega | (simp only [lenS]; omega)), by (first | omega | (simp only [lenS]; omega))⟩, ?_⟩ | refine ⟨⟨by (first | omega | (simp only [lenS]; omega)), by (first | omega | (simp only [lenS]; omega)), by (first | omega | (simp only [lenS]; omega))⟩, ?_⟩ | refine ⟨.inl rfl, ?_⟩ | refine ⟨.inr (.inl (by (first | omega | (simp only [lenS]; omega)))), ?_⟩ | refine ⟨_, rfl, rfl, by (first | exact Nat.le_refl _ | exact Nat.le_of_ble_eq_true rfl | decide), ?_⟩ | refine ⟨_, rfl, by (first | exact Nat.le_refl _ | exact Nat.le_of_ble_eq_true rfl | decide), ?_⟩ | refine ⟨by (first | exact Nat.le_refl _ | exact Nat.le_of_ble_eq_true rfl | decide | exact rfl), ?_⟩ | refine ⟨show _ ≤ (9223372036854775807 : Nat) by (first | omega | (simp only [lenS]; omega)), ?_⟩ | refine ⟨show _ ≠ (0 : Int) by (first | omega | (simp only [lenS]; omega)), ?_⟩ | refine ⟨_, rfl, _, rfl, ?_⟩ | refine ⟨_, by assumption, Nat.le_of_ble_eq_true rfl, ?_⟩ | refine ⟨_, by assumption, _, rfl, ?_⟩ | refine ⟨_, rfl, ?_⟩ | fail)
          exact ⟨_, _, _, ⟨k + 1, rfl, hlt, hal, rfl, rfl⟩, by omega, Mv.of [.old 0, .old 1] rfl rfl rfl ⟨⟨rfl, .inl ⟨rfl, fun row h => by rw [List.mem_singleton.1 h]; rfl⟩⟩, ⟨rfl, .inl ⟨rfl, fun row h => by rw [List.mem_singleton.1 h]; rfl⟩⟩, trivial⟩ ⟨⟨rfl, rfl, rfl⟩, ⟨rfl, rfl, rfl⟩, congrArg D.bool hha, congrArg (fun n : Int => D.int .i64 n) hre, rfl, rfl, rfl, trivial⟩⟩
      · rw [if_neg hnr] at hre
        cases hq : hasA hrefN (l.take k) with
        | false =>
          rw [hq, Bool.false_or] at hha
          repeat' (first | refine PureC.use hc1 ?_ |                       refine ⟨fun _ => ?_, fun h => absurd h (by decide)⟩ | refine ⟨fun h => absurd h (by decide), fun _ => ?_⟩ | (refine ⟨fun h => ?_, fun h => ?_⟩ <;> (try simp only [decide_eq_true_eq, decide_eq_false_iff_not, Bool.not_eq_true', Bool.not_eq_false', Bool.not_eq_true, Bool.not_eq_false, not_true_eq_false, beq_iff_eq, beq_eq_false_iff_ne, ne_eq, decide_eq_decide, true_iff, false_iff, iff_true, iff_false, true_and, and_true, false_or, or_false, Bool.and_true, Bool.and_eq_true, Bool.and_eq_false_iff, Bool.or_eq_true, Bool.or_eq_false_iff, List.length_cons, List.length_nil] at h) <;> (try (exfalso; first | omega | exact h rfl | (cases h; done) | exact absurd h (by assumption) | exact h (by assumption) | (simp at h; done)))) | refine ⟨⟨by (first | omega | (simp only [lenS]; omega)), by (first | omega | (simp only [lenS]; omega))⟩, _, by assumption, by rfl, ?_⟩ | refine .inl ⟨⟨by (first | omega | (simp only [lenS]; omega)), by (first | omega | (simp only [lenS]; omega))⟩, ?_⟩ | refine ⟨⟨by (first | omega | (simp only [lenS]; omega)), by (first | omega | (simp only [lenS]; omega))⟩, ?_⟩ | refine ⟨⟨by (first | omega | (simp only [lenS]; omega)), by (first | omega | (simp only [lenS]; omega)), by (first | omega | (simp only [lenS]; omega))⟩, ?_⟩ | refine ⟨.inl rfl, ?_⟩ | refine ⟨.inr (.inl (by (first | omega | (simp only [lenS]; omega)))), ?_⟩ | refine ⟨_, rfl, rfl, by (first | exact Nat.le_refl _ | exact Nat.le_of_ble_eq_true rfl | decide), ?_⟩ | refine ⟨_, rfl, by (first | exact Nat.le_refl _ | exact Nat.le_of_ble_eq_true rfl | decide), ?_⟩ | refine ⟨by (first | exact Nat.le_refl _ | exact Nat.le_of_ble_eq_true rfl | decide | exact rfl), ?_⟩ | refine ⟨show _ ≤ (9223372036854775807 : Nat) by (first | omega | (simp only [lenS]; omega)), ?_⟩ | refine ⟨show _ ≠ (0 : Int) by (first | omega | (simp only [lenS]; omega)), ?_⟩ | refine ⟨_, rfl, _, rfl, ?_⟩ | refine ⟨_, by assumption, Nat.le_of_ble_eq_true rfl, ?_⟩ | refine ⟨_, by assumption, _, rfl, ?_⟩ | refine ⟨_, rfl, ?_⟩ | fail)
          exact ⟨_, _, _, ⟨k + 1, rfl, hlt, hal, rfl, rfl⟩, by omega, Mv.of [.old 0, .old 1] rfl rfl rfl ⟨⟨rfl, .inl ⟨rfl, fun row h => by rw [List.mem_singleton.1 h]; rfl⟩⟩, ⟨rfl, .inl ⟨rfl, fun row h => by rw [List.mem_singleton.1 h]; rfl⟩⟩, trivial⟩ ⟨⟨rfl, rfl, rfl⟩, ⟨rfl, rfl, rfl⟩, congrArg D.bool hha, congrArg (fun n : Int => D.int .i64 n) hre, rfl, rfl, rfl, trivial⟩⟩
        | true =>
          rw [hq, Bool.true_or] at hha
          repeat' (first | refine PureC.use hc1 ?_ |                       refine ⟨fun _ => ?_, fun h => absurd h (by decide)⟩ | refine ⟨fun h => absurd h (by decide), fun _ => ?_⟩ | (refine ⟨fun h => ?_, fun h => ?_⟩ <;> (try simp only [decide_eq_true_eq, decide_eq_false_iff_not, Bool.not_eq_true', Bool.not_eq_false', Bool.not_eq_true, Bool.not_eq_false, not_true_eq_false, beq_iff_eq, beq_eq_false_iff_ne, ne_eq, decide_eq_decide, true_iff, false_iff, iff_true, iff_false, true_and, and_true, false_or, or_false, Bool.and_true, Bool.and_eq_true, Bool.and_eq_false_iff, Bool.or_eq_true, Bool.or_eq_false_iff, List.length_cons, List.length_nil] at h) <;> (try (exfalso; first | omega | exact h rfl | (cases h; done) | exact absurd h (by assumption) | exact h (by assumption) | (simp at h; done)))) | refine ⟨⟨by (first | omega | (simp only [lenS]; omega)), by (first | omega | (simp only [lenS]; omega))⟩, _, by assumption, by rfl, ?_⟩ | refine .inl ⟨⟨by (first | omega | (simp only [lenS]; omega)), by (first | omega | (simp only [lenS]; omega))⟩, ?_⟩ | refine ⟨⟨by (first | omega | (simp only [lenS]; omega)), by (first | omega | (simp only [lenS]; omega))⟩, ?_⟩ | refine ⟨⟨by (first | omega | (simp only [lenS]; omega)), by (first | omega | (simp only [lenS]; omega)), by (first | omega | (simp only [lenS]; omega))⟩, ?_⟩ | refine ⟨.inl rfl, ?_⟩ | refine ⟨.inr (.inl (by (first | omega | (simp only [lenS]; omega)))), ?_⟩ | refine ⟨_, rfl, rfl, by (first | exact Nat.le_refl _ | exact Nat.le_of_ble_eq_true rfl | decide), ?_⟩ | refine ⟨_, rfl, by (first | exact Nat.le_refl _ | exact Nat.le_of_ble_eq_true rfl | decide), ?_⟩ | refine ⟨by (first | exact Nat.le_refl _ | exact Nat.le_of_ble_eq_true rfl | decide | exact rfl), ?_⟩ | refine ⟨show _ ≤ (9223372036854775807 : Nat) by (first | omega | (simp only [lenS]; omega)), ?_⟩ | refine ⟨show _ ≠ (0 : Int) by (first | omega | (simp only [lenS]; omega)), ?_⟩ | refine ⟨_, rfl, _, rfl, ?_⟩ | refine ⟨_, by assumption, Nat.le_of_ble_eq_true rfl, ?_⟩ | refine ⟨_, by assumption, _, rfl, ?_⟩ | refine ⟨_, rfl, ?_⟩ | fail)
          exact ⟨_, _, _, ⟨k + 1, rfl, hlt, hal, rfl, rfl⟩, by omega, Mv.of [.old 0, .old 1] rfl rfl rfl ⟨⟨rfl, .inl ⟨rfl, fun row h => by rw [List.mem_singleton.1 h]; rfl⟩⟩, ⟨rfl, .inl ⟨rfl, fun row h => by rw [List.mem_singleton.1 h]; rfl⟩⟩, trivial⟩ ⟨⟨rfl, rfl, rfl⟩, ⟨rfl, rfl, rfl⟩, congrArg D.bool hha, congrArg (fun n : Int => D.int .i64 n) hre, rfl, rfl, rfl, trivial⟩⟩
  · have hk' : k = l.length := by omega
    subst hk'
    rw [List.take_length] at hI ⊢
    rw [hI]
    have hc1 := hE
    generalize hasA hrefN l = bh at *
    generalize relTo l l.length = rr at *
    repeat' (first | refine PureC.use hc1 ?_ |                       refine ⟨fun _ => ?_, fun h => absurd h (by decide)⟩ | refine ⟨fun h => absurd h (by decide), fun _ => ?_⟩ | (refine ⟨fun h => ?_, fun h => ?_⟩ <;> (try simp only [decide_eq_true_eq, decide_eq_false_iff_not, Bool.not_eq_true', Bool.not_eq_false', Bool.not_eq_true, Bool.not_eq_false, not_true_eq_false, beq_iff_eq, beq_eq_false_iff_ne, ne_eq, decide_eq_decide, true_iff, false_iff, iff_true, iff_false, true_and, and_true, false_or, or_false, Bool.and_true, Bool.and_eq_true, Bool.and_eq_false_iff, Bool.or_eq_true, Bool.or_eq_false_iff, List.length_cons, List.length_nil] at h) <;> (try (exfalso; first | omega | exact h rfl | (cases h; done) | exact absurd h (by assumption) | exact h (by assumption) | (simp at h; done)))) | refine ⟨⟨by (first | omega | (simp only [lenS]; omega)), by (first | omega | (simp only [lenS]; omega))⟩, _, by assumption, by rfl, ?_⟩ | refine .inl ⟨⟨by (first | omega | (simp only [lenS]; omega)), by (first | omega | (simp only [lenS]; omega))⟩, ?_⟩ | refine ⟨⟨by (first | omega | (simp only [lenS]; omega)), by (first | omega | (simp only [lenS]; omega))⟩, ?_⟩ | refine ⟨⟨by (first | omega | (simp only [lenS]; omega)), by (first | omega | (simp only [lenS]; omega)), by (first | omega | (simp only [lenS]; omega))⟩, ?_⟩ | refine ⟨.inl rfl, ?_⟩ | refine ⟨.inr (.inl (by (first | omega | (simp only [lenS]; omega)))), ?_⟩ | refine ⟨_, rfl, rfl, by (first | exact Nat.le_refl _ | exact Nat.le_of_ble_eq_true rfl | decide), ?_⟩ | refine ⟨_, rfl, by (first | exact Nat.le_refl _ | exact Nat.le_of_ble_eq_true rfl | decide), ?_⟩ | refine ⟨by (first | exact Nat.le_refl _ | exact Nat.le_of_ble_eq_true rfl | decide | exact rfl), ?_⟩ | refine ⟨show _ ≤ (9223372036854775807 : Nat) by (first | omega | (simp only [lenS]; omega)), ?_⟩ | refine ⟨show _ ≠ (0 : Int) by (first | omega | (simp only [lenS]; omega)), ?_⟩ | refine ⟨_, rfl, _, rfl, ?_⟩ | refine ⟨_, by assumption, Nat.le_of_ble_eq_true rfl, ?_⟩ | refine ⟨_, by assumption, _, rfl, ?_⟩ | refine ⟨_, rfl, ?_⟩ | fail)
    all_goals first
      | exact ⟨_, _, fin_out rfl, congrArg (fun b => AV.d (.bool b)) (by simp_all [aN]; done)⟩
      | exact ⟨_, _, fin_out rfl, congrArg (fun b => AV.d (.bool b)) (by simp_all [aN]; omega)⟩
end Go.Proofs.YtfchacihhljfhaaDoor
