/- What is proved here serves the claim: the walk over the code and the plain laws, part 14 of 14. -/
import Derived.Test.YtcmkiancbgmmhaaPkSerBuilt13
namespace Go.Proofs.Ytcmkiancbgmmhaa
open Go.Aw
set_option maxHeartbeats 1600000
set_option linter.unusedSimpArgs false
set_option linter.unusedVariables false
theorem nil_or_snoc {α : Type} (l : List α) : l = [] ∨ ∃ k z, l = k ++ [z] := by
  rcases List.eq_nil_or_concat l with h | ⟨k, z, h⟩
  · exact .inl h
  · exact .inr ⟨k, z, by rw [h, List.concat_eq_append]⟩
theorem openR_same (i : Nat) (vs : List OV) (a : List UInt8) (b : List Attr) (k k' : List Node) (r : List Op) (h : k'.length = k.length) : openR i vs (a, b, k') r = openR i vs (a, b, k) r := by
  unfold openR rowO; rw [h]
theorem kids_at (k : List Node) (z : Node) : ((nodesD (k ++ [z])).map fun r => r.map AV.d)[((((k ++ [z]).length : Nat) : Int) - 1).toNat + 0]? = some [.d (.str z.name), .d (.sl (attrsD z.attrs)), .d (.str z.text), .d (.sl (nodesD z.kids))] := by
  rw [show ((((k ++ [z]).length : Nat) : Int) - 1).toNat + 0 = k.length by simp only [List.length_append, List.length_cons, List.length_nil]; omega]
  exact kids_last k z
theorem kids_put (k : List Node) (z n : Node) : ((nodesD (k ++ [z])).map fun r => r.map AV.d).set (((((k ++ [z]).length : Nat) : Int) - 1).toNat + 0) [.d (.str n.name), .d (.sl (attrsD n.attrs)), .d (.str n.text), .d (.sl (nodesD n.kids))] = (nodesD (k ++ [n])).map fun r => r.map AV.d := by
  rw [show ((((k ++ [z]).length : Nat) : Int) - 1).toNat + 0 = k.length by simp only [List.length_append, List.length_cons, List.length_nil]; omega]
  exact kids_set k z n
set_option maxRecDepth 100000 in
theorem text_new (x : List UInt8) (s : Bs) (hs : totO s.ops ≤ 999999) (hc : s.cnt ≤ 1000000) (hx : x ≠ []) (ht : topText s.ops = false) : Meth Try.prog 38 [.ref 0 0 0, .d (.str x)] (.tup []) s (countS ⟨putO (.mk [] [] x []) s.ops, s.cnt, s.full⟩) := by
  intro o r vs ho hv
  rw [ho] at hs ht
  have hlen := totO_len (o :: r)
  rw [List.length_cons] at hlen
  have hp := put_ok (.mk [] [] x []) s (by rw [ho]; omega)
  have hm2 := count_ok ⟨putO (.mk [] [] x []) s.ops, s.cnt, s.full⟩ (by show (putO _ s.ops).length ≤ _; rw [putO_len, ho, List.length_cons]; omega) hc
  have hd1 := last_7 (kinO vs r) (kidsO o.2.2) (openR 5 vs o r) (r.length + 1) s.cnt s.full (by omega) (by omega)
  rw [Nat.add_sub_cancel] at hd1
  have hrow := openR_get 5 vs o r hv
  have hk : o.2.2.length ≤ 1000000 := by rw [totO] at hs; omega
  refine fn_okTE Try.wf Try.tab_ok Try.func38 (by decide +kernel) rfl rfl ?_
  refine E.fm (s' := [(0, .ref 0 0 0), (1, .d (.str x))]) (σ' := B3 vs o r s.cnt s.full) (B_up vs o r _ _ ⟨⟨rfl, rfl, rfl⟩, rfl, trivial⟩) ?_
  refine E.of Try.wf Try.tab_ok ?_
  obtain ⟨a, b, k⟩ := o
  rcases nil_or_snoc k with rfl | ⟨k0, z, rfl⟩
  · repeat' (first |            refine CallsAbs.use1 hd1 ?_ |            refine ⟨fun _ => ?_, fun h => absurd h (by decide)⟩ | refine ⟨fun h => absurd h (by decide), fun _ => ?_⟩ | (refine ⟨fun h => ?_, fun h => ?_⟩ <;> (try simp only [decide_eq_true_eq, decide_eq_false_iff_not, Bool.not_eq_true', Bool.not_eq_false', Bool.not_eq_true, Bool.not_eq_false, not_true_eq_false, beq_iff_eq, beq_eq_false_iff_ne, ne_eq, decide_eq_decide, true_iff, false_iff, iff_true, iff_false, true_and, and_true, false_or, or_false, Bool.and_true, Bool.and_eq_true, Bool.and_eq_false_iff, Bool.or_eq_true, Bool.or_eq_false_iff, List.length_cons, List.length_nil] at h) <;> (try (exfalso; first | omega | exact h rfl | (cases h; done) | exact absurd h (by assumption) | exact h (by assumption) | (simp at h; done)))) | refine ⟨⟨by (first | omega | (simp only [lenS]; omega)), by (first | omega | (simp only [lenS]; omega))⟩, _, by assumption, by rfl, ?_⟩ | refine .inl ⟨⟨by (first | omega | (simp only [lenS]; omega)), by (first | omega | (simp only [lenS]; omega))⟩, ?_⟩ | refine ⟨⟨by (first | omega | (simp only [lenS]; omega)), by (first | omega | (simp only [lenS]; omega))⟩, ?_⟩ | refine ⟨⟨by (first | omega | (simp only [lenS]; omega)), by (first | omega | (simp only [lenS]; omega)), by (first | omega | (simp only [lenS]; omega))⟩, ?_⟩ | refine ⟨.inl rfl, ?_⟩ | refine ⟨.inr (.inl (by (first | omega | (simp only [lenS]; omega)))), ?_⟩ | refine ⟨_, rfl, rfl, by (first | exact Nat.le_refl _ | exact Nat.le_of_ble_eq_true rfl | decide), ?_⟩ | refine ⟨_, rfl, by (first | exact Nat.le_refl _ | exact Nat.le_of_ble_eq_true rfl | decide), ?_⟩ | refine ⟨by (first | exact Nat.le_refl _ | exact Nat.le_of_ble_eq_true rfl | decide | exact rfl), ?_⟩ | refine ⟨show _ ≤ (9223372036854775807 : Nat) by (first | omega | (simp only [lenS]; omega)), ?_⟩ | refine ⟨show _ ≠ (0 : Int) by (first | omega | (simp only [lenS]; omega)), ?_⟩ | refine ⟨_, rfl, _, rfl, ?_⟩ | refine ⟨_, by assumption, Nat.le_of_ble_eq_true rfl, ?_⟩ | refine ⟨_, by assumption, _, rfl, ?_⟩ | refine ⟨_, rfl, ?_⟩ | fail)
    (refine hp.use (vs := vs) 4 5 6 7 8 9 10 ho hv rfl rfl rfl rfl rfl rfl rfl rfl rfl rfl ⟨⟨rfl, rfl, rfl⟩, ⟨rfl, rfl, rfl, rfl, trivial⟩, trivial⟩ fun o2 r2 vs2 q1 q2 => ?_; refine hm2.use (vs := vs2) 7 8 9 10 11 12 13 q1 q2 rfl rfl rfl rfl rfl rfl rfl rfl rfl rfl ⟨⟨rfl, rfl, rfl⟩, trivial⟩ fun o3 r3 vs3 q3 q4 => ?_; exact ⟨.tup [], B3 vs3 o3 r3 _ _, fin_mv [.old 10, .old 11, .old 12] rfl rfl rfl ⟨⟨rfl, rfl⟩, ⟨rfl, .inl ⟨rfl, dataA_pure _⟩⟩, ⟨rfl, .inr (openR_rel rfl _ _ _)⟩, ⟨rfl, .inr ⟨⟨⟨rfl, rfl, rfl⟩, rfl, rfl, trivial⟩, trivial⟩⟩, trivial⟩ trivial, rfl, _, _, vs3, q3, q4, rfl⟩)
  · have hz : z.name ≠ [] := by
      have : textB (k0 ++ [z]) = false := ht
      rw [textB_snoc] at this
      exact of_decide_eq_false this
    have hat := kids_at k0 z
    repeat' (first |            refine CallsAbs.use1 hd1 ?_ |            refine ⟨fun _ => ?_, fun h => absurd h (by decide)⟩ | refine ⟨fun h => absurd h (by decide), fun _ => ?_⟩ | (refine ⟨fun h => ?_, fun h => ?_⟩ <;> (try simp only [decide_eq_true_eq, decide_eq_false_iff_not, Bool.not_eq_true', Bool.not_eq_false', Bool.not_eq_true, Bool.not_eq_false, not_true_eq_false, beq_iff_eq, beq_eq_false_iff_ne, ne_eq, decide_eq_decide, true_iff, false_iff, iff_true, iff_false, true_and, and_true, false_or, or_false, Bool.and_true, Bool.and_eq_true, Bool.and_eq_false_iff, Bool.or_eq_true, Bool.or_eq_false_iff, List.length_cons, List.length_nil] at h) <;> (try (exfalso; first | omega | exact h rfl | (cases h; done) | exact absurd h (by assumption) | exact h (by assumption) | (simp at h; done)))) | refine ⟨⟨by (first | omega | (simp only [lenS]; omega)), by (first | omega | (simp only [lenS]; omega))⟩, _, by assumption, by rfl, ?_⟩ | refine .inl ⟨⟨by (first | omega | (simp only [lenS]; omega)), by (first | omega | (simp only [lenS]; omega))⟩, ?_⟩ | refine ⟨⟨by (first | omega | (simp only [lenS]; omega)), by (first | omega | (simp only [lenS]; omega))⟩, ?_⟩ | refine ⟨⟨by (first | omega | (simp only [lenS]; omega)), by (first | omega | (simp only [lenS]; omega)), by (first | omega | (simp only [lenS]; omega))⟩, ?_⟩ | refine ⟨.inl rfl, ?_⟩ | refine ⟨.inr (.inl (by (first | omega | (simp only [lenS]; omega)))), ?_⟩ | refine ⟨_, rfl, rfl, by (first | exact Nat.le_refl _ | exact Nat.le_of_ble_eq_true rfl | decide), ?_⟩ | refine ⟨_, rfl, by (first | exact Nat.le_refl _ | exact Nat.le_of_ble_eq_true rfl | decide), ?_⟩ | refine ⟨by (first | exact Nat.le_refl _ | exact Nat.le_of_ble_eq_true rfl | decide | exact rfl), ?_⟩ | refine ⟨show _ ≤ (9223372036854775807 : Nat) by (first | omega | (simp only [lenS]; omega)), ?_⟩ | refine ⟨show _ ≠ (0 : Int) by (first | omega | (simp only [lenS]; omega)), ?_⟩ | refine ⟨_, rfl, _, rfl, ?_⟩ | refine ⟨_, by assumption, Nat.le_of_ble_eq_true rfl, ?_⟩ | refine ⟨_, by assumption, _, rfl, ?_⟩ | refine ⟨_, rfl, ?_⟩ | fail)
    (refine hp.use (vs := vs) 4 5 6 7 8 9 10 ho hv rfl rfl rfl rfl rfl rfl rfl rfl rfl rfl ⟨⟨rfl, rfl, rfl⟩, ⟨rfl, rfl, rfl, rfl, trivial⟩, trivial⟩ fun o2 r2 vs2 q1 q2 => ?_; refine hm2.use (vs := vs2) 7 8 9 10 11 12 13 q1 q2 rfl rfl rfl rfl rfl rfl rfl rfl rfl rfl ⟨⟨rfl, rfl, rfl⟩, trivial⟩ fun o3 r3 vs3 q3 q4 => ?_; exact ⟨.tup [], B3 vs3 o3 r3 _ _, fin_mv [.old 10, .old 11, .old 12] rfl rfl rfl ⟨⟨rfl, rfl⟩, ⟨rfl, .inl ⟨rfl, dataA_pure _⟩⟩, ⟨rfl, .inr (openR_rel rfl _ _ _)⟩, ⟨rfl, .inr ⟨⟨⟨rfl, rfl, rfl⟩, rfl, rfl, trivial⟩, trivial⟩⟩, trivial⟩ trivial, rfl, _, _, vs3, q3, q4, rfl⟩)
set_option maxRecDepth 100000 in
theorem text_add (x : List UInt8) (s : Bs) (hs : totO s.ops ≤ 999999) (hx : x ≠ []) (ht : topText s.ops = true) (hl : ∀ o ∈ s.ops, ∀ n ∈ o.2.2, n.text.length + x.length ≤ 9223372036854775807) : Meth Try.prog 38 [.ref 0 0 0, .d (.str x)] (.tup []) s ⟨addText x s.ops, s.cnt, s.full⟩ := by
  intro o r vs ho hv
  rw [ho] at hs ht hl
  have hlen := totO_len (o :: r)
  rw [List.length_cons] at hlen
  have hd1 := last_7 (kinO vs r) (kidsO o.2.2) (openR 5 vs o r) (r.length + 1) s.cnt s.full (by omega) (by omega)
  rw [Nat.add_sub_cancel] at hd1
  have hrow := openR_get 5 vs o r hv
  have hk : o.2.2.length ≤ 1000000 := by rw [totO] at hs; omega
  obtain ⟨a, b, k⟩ := o
  obtain rfl | ⟨k0, z, rfl⟩ := nil_or_snoc k
  · cases ht
  have hz : z.name = [] := by
    have : textB (k0 ++ [z]) = true := ht
    rw [textB_snoc] at this
    exact of_decide_eq_true this
  have hzl := hl (a, b, k0 ++ [z]) (by simp) z (by simp)
  have hat := kids_at k0 z
  have hput := kids_put k0 z (.mk z.name z.attrs (z.text ++ x) z.kids)
  have hadd : addText x ((a, b, k0 ++ [z]) :: r) = (a, b, k0 ++ [.mk z.name z.attrs (z.text ++ x) z.kids]) :: r := by
    simp [addText]
  rw [ho, hadd]
  refine fn_okTE Try.wf Try.tab_ok Try.func38 (by decide +kernel) rfl rfl ?_
  refine E.fm (s' := [(0, .ref 0 0 0), (1, .d (.str x))]) (σ' := B3 vs (a, b, k0 ++ [z]) r s.cnt s.full) (B_up vs (a, b, k0 ++ [z]) r _ _ ⟨⟨rfl, rfl, rfl⟩, rfl, trivial⟩) ?_
  refine E.of Try.wf Try.tab_ok ?_
  repeat' (first |            refine CallsAbs.use1 hd1 ?_ |            refine ⟨fun _ => ?_, fun h => absurd h (by decide)⟩ | refine ⟨fun h => absurd h (by decide), fun _ => ?_⟩ | (refine ⟨fun h => ?_, fun h => ?_⟩ <;> (try simp only [decide_eq_true_eq, decide_eq_false_iff_not, Bool.not_eq_true', Bool.not_eq_false', Bool.not_eq_true, Bool.not_eq_false, not_true_eq_false, beq_iff_eq, beq_eq_false_iff_ne, ne_eq, decide_eq_decide, true_iff, false_iff, iff_true, iff_false, true_and, and_true, false_or, or_false, Bool.and_true, Bool.and_eq_true, Bool.and_eq_false_iff, Bool.or_eq_true, Bool.or_eq_false_iff, List.length_cons, List.length_nil] at h) <;> (try (exfalso; first | omega | exact h rfl | (cases h; done) | exact absurd h (by assumption) | exact h (by assumption) | (simp at h; done)))) | refine ⟨⟨by (first | omega | (simp only [lenS]; omega)), by (first | omega | (simp only [lenS]; omega))⟩, _, by assumption, by rfl, ?_⟩ | refine .inl ⟨⟨by (first | omega | (simp only [lenS]; omega)), by (first | omega | (simp only [lenS]; omega))⟩, ?_⟩ | refine ⟨⟨by (first | omega | (simp only [lenS]; omega)), by (first | omega | (simp only [lenS]; omega))⟩, ?_⟩ | refine ⟨⟨by (first | omega | (simp only [lenS]; omega)), by (first | omega | (simp only [lenS]; omega)), by (first | omega | (simp only [lenS]; omega))⟩, ?_⟩ | refine ⟨.inl rfl, ?_⟩ | refine ⟨.inr (.inl (by (first | omega | (simp only [lenS]; omega)))), ?_⟩ | refine ⟨_, rfl, rfl, by (first | exact Nat.le_refl _ | exact Nat.le_of_ble_eq_true rfl | decide), ?_⟩ | refine ⟨_, rfl, by (first | exact Nat.le_refl _ | exact Nat.le_of_ble_eq_true rfl | decide), ?_⟩ | refine ⟨by (first | exact Nat.le_refl _ | exact Nat.le_of_ble_eq_true rfl | decide | exact rfl), ?_⟩ | refine ⟨show _ ≤ (9223372036854775807 : Nat) by (first | omega | (simp only [lenS]; omega)), ?_⟩ | refine ⟨show _ ≠ (0 : Int) by (first | omega | (simp only [lenS]; omega)), ?_⟩ | refine ⟨_, rfl, _, rfl, ?_⟩ | refine ⟨_, by assumption, Nat.le_of_ble_eq_true rfl, ?_⟩ | refine ⟨_, by assumption, _, rfl, ?_⟩ | refine ⟨_, rfl, ?_⟩ | fail)
  have hsame := openR_same 5 vs a b (k0 ++ [z]) (k0 ++ [.mk z.name z.attrs (z.text ++ x) z.kids]) r (by simp)
  exact ⟨.tup [], B3 vs (a, b, k0 ++ [.mk z.name z.attrs (z.text ++ x) z.kids]) r s.cnt s.full,
    (fin_st (congrArg (fun l => Store.mk 7 ((5, Ob.rows (4, 29) l) :: (B3 vs (a, b, k0 ++ [z]) r s.cnt s.full).objs)) hput)).trans
      (fin_mv [.old 4, .old 5, .old 6] rfl rfl rfl ⟨⟨rfl, rfl⟩, ⟨rfl, .inl ⟨rfl, dataA_pure _⟩⟩, ⟨rfl, .inr (by rw [hsame]; exact openR_rel rfl _ _ _)⟩, ⟨rfl, .inr ⟨⟨⟨rfl, rfl, rfl⟩, rfl, rfl, trivial⟩, trivial⟩⟩, trivial⟩ trivial), rfl, _, r, vs, rfl, hv, rfl⟩
set_option maxRecDepth 100000 in
theorem text_none (s : Bs) : Meth Try.prog 38 [.ref 0 0 0, .d (.str [])] (.tup []) s s := by
  intro o r vs ho hv
  rw [ho]
  refine fn_okTE Try.wf Try.tab_ok Try.func38 (by decide +kernel) rfl rfl ?_
  refine E.fm (s' := [(0, .ref 0 0 0), (1, .d (.str []))]) (σ' := B3 vs o r s.cnt s.full) (B_up vs o r _ _ ⟨⟨rfl, rfl, rfl⟩, rfl, trivial⟩) ?_
  refine E.of Try.wf Try.tab_ok ?_
  refine ⟨fun _ => ?_, fun h => absurd h (by decide)⟩
  exact ⟨.tup [], B3 vs o r s.cnt s.full, FinMove.refl _ _ _, rfl, o, r, vs, rfl, hv, rfl⟩
theorem text_ok2 (x : List UInt8) (s : Bs) (hs : totO s.ops ≤ 999999) (hc : s.cnt ≤ 1000000) (hl : ∀ o ∈ s.ops, ∀ n ∈ o.2.2, n.text.length + x.length ≤ 9223372036854775807) : Meth Try.prog 38 [.ref 0 0 0, .d (.str x)] (.tup []) s (textS x s) := by
  unfold textS
  by_cases hx : x = []
  · subst hx; rw [if_pos rfl]; exact text_none s
  · rw [if_neg hx]
    by_cases ht : topText s.ops = true
    · rw [if_pos ht]; exact text_add x s hs hx ht hl
    · rw [if_neg ht]; exact text_new x s hs hc hx (by simpa using ht)
end Go.Proofs.Ytcmkiancbgmmhaa

namespace Go.Proofs.Ytcmkiancbgmmhaa
open Go.Aw
set_option maxHeartbeats 1600000
set_option linter.unusedSimpArgs false
set_option linter.unusedVariables false
theorem fin_own2 {σ : Store} {i len : Nat} {sz : Nat × Nat} {rs : List (List AV)} {ds : List (List D)} (ho : σ.get i = .rows sz rs) (hds : rowsD rs = some ds) (hl : len = ds.length) : FinMove ⟨0, []⟩ (.own i 0 len) σ (.d (.sl ds)) ⟨0, []⟩ := by
  have h1 := fin_freeze (σ0 := ⟨0, []⟩) (r := .own i 0 len) i ho hds (fun _ => by rw [Nat.zero_add, hl, (rowsD_get hds).1]; exact Nat.le_refl _)
  rw [frz_whole i ds len hl] at h1
  exact h1.trans (fin_mv [] (Nat.ble_eq_true_of_le (Nat.zero_le _)) rfl rfl trivial rfl)
set_option maxRecDepth 100000 in
theorem CloneA_ok (l : List Attr) (hl : l.length ≤ 1000000) : PureC Try.prog 62 [.d (.sl (attrsD l))] (.d (.sl (attrsD l))) := by
  have hn := attrsD_len l
  have hml : ((attrsD l).map fun r => r.map AV.d).length = l.length := by rw [List.length_map, hn]
  refine pure_okT Try.wf Try.tab_ok Try.func62 (by decide +kernel) rfl rfl rfl rfl ?_
  cases l with
  | nil =>
    refine ⟨?_, ?_⟩
    · repeat' (first |                        refine ⟨fun _ => ?_, fun h => absurd h (by decide)⟩ | refine ⟨fun h => absurd h (by decide), fun _ => ?_⟩ | (refine ⟨fun h => ?_, fun h => ?_⟩ <;> (try simp only [decide_eq_true_eq, decide_eq_false_iff_not, Bool.not_eq_true', Bool.not_eq_false', Bool.not_eq_true, Bool.not_eq_false, not_true_eq_false, beq_iff_eq, beq_eq_false_iff_ne, ne_eq, decide_eq_decide, true_iff, false_iff, iff_true, iff_false, true_and, and_true, false_or, or_false, Bool.and_true, Bool.and_eq_true, Bool.and_eq_false_iff, Bool.or_eq_true, Bool.or_eq_false_iff, List.length_cons, List.length_nil] at h) <;> (try (exfalso; first | omega | exact h rfl | (cases h; done) | exact absurd h (by assumption) | exact h (by assumption) | (simp at h; done)))) | refine ⟨⟨by (first | omega | (simp only [lenS]; omega)), by (first | omega | (simp only [lenS]; omega))⟩, _, by assumption, by rfl, ?_⟩ | refine .inl ⟨⟨by (first | omega | (simp only [lenS]; omega)), by (first | omega | (simp only [lenS]; omega))⟩, ?_⟩ | refine ⟨⟨by (first | omega | (simp only [lenS]; omega)), by (first | omega | (simp only [lenS]; omega))⟩, ?_⟩ | refine ⟨⟨by (first | omega | (simp only [lenS]; omega)), by (first | omega | (simp only [lenS]; omega)), by (first | omega | (simp only [lenS]; omega))⟩, ?_⟩ | refine ⟨.inl rfl, ?_⟩ | refine ⟨.inr (.inl (by (first | omega | (simp only [lenS]; omega)))), ?_⟩ | refine ⟨_, rfl, rfl, by (first | exact Nat.le_refl _ | exact Nat.le_of_ble_eq_true rfl | decide), ?_⟩ | refine ⟨_, rfl, by (first | exact Nat.le_refl _ | exact Nat.le_of_ble_eq_true rfl | decide), ?_⟩ | refine ⟨by (first | exact Nat.le_refl _ | exact Nat.le_of_ble_eq_true rfl | decide | exact rfl), ?_⟩ | refine ⟨show _ ≤ (9223372036854775807 : Nat) by (first | omega | (simp only [lenS]; omega)), ?_⟩ | refine ⟨show _ ≠ (0 : Int) by (first | omega | (simp only [lenS]; omega)), ?_⟩ | refine ⟨_, rfl, _, rfl, ?_⟩ | refine ⟨_, by assumption, Nat.le_of_ble_eq_true rfl, ?_⟩ | refine ⟨_, by assumption, _, rfl, ?_⟩ | refine ⟨_, rfl, ?_⟩ | fail)
      exact ⟨.d (.sl []), ⟨0, []⟩, fin_mv [] rfl rfl rfl trivial rfl, rfl⟩
    · repeat' (first |                        refine ⟨fun _ => ?_, fun h => absurd h (by decide)⟩ | refine ⟨fun h => absurd h (by decide), fun _ => ?_⟩ | (refine ⟨fun h => ?_, fun h => ?_⟩ <;> (try simp only [decide_eq_true_eq, decide_eq_false_iff_not, Bool.not_eq_true', Bool.not_eq_false', Bool.not_eq_true, Bool.not_eq_false, not_true_eq_false, beq_iff_eq, beq_eq_false_iff_ne, ne_eq, decide_eq_decide, true_iff, false_iff, iff_true, iff_false, true_and, and_true, false_or, or_false, Bool.and_true, Bool.and_eq_true, Bool.and_eq_false_iff, Bool.or_eq_true, Bool.or_eq_false_iff, List.length_cons, List.length_nil] at h) <;> (try (exfalso; first | omega | exact h rfl | (cases h; done) | exact absurd h (by assumption) | exact h (by assumption) | (simp at h; done)))) | refine ⟨⟨by (first | omega | (simp only [lenS]; omega)), by (first | omega | (simp only [lenS]; omega))⟩, _, by assumption, by rfl, ?_⟩ | refine .inl ⟨⟨by (first | omega | (simp only [lenS]; omega)), by (first | omega | (simp only [lenS]; omega))⟩, ?_⟩ | refine ⟨⟨by (first | omega | (simp only [lenS]; omega)), by (first | omega | (simp only [lenS]; omega))⟩, ?_⟩ | refine ⟨⟨by (first | omega | (simp only [lenS]; omega)), by (first | omega | (simp only [lenS]; omega)), by (first | omega | (simp only [lenS]; omega))⟩, ?_⟩ | refine ⟨.inl rfl, ?_⟩ | refine ⟨.inr (.inl (by (first | omega | (simp only [lenS]; omega)))), ?_⟩ | refine ⟨_, rfl, rfl, by (first | exact Nat.le_refl _ | exact Nat.le_of_ble_eq_true rfl | decide), ?_⟩ | refine ⟨_, rfl, by (first | exact Nat.le_refl _ | exact Nat.le_of_ble_eq_true rfl | decide), ?_⟩ | refine ⟨by (first | exact Nat.le_refl _ | exact Nat.le_of_ble_eq_true rfl | decide | exact rfl), ?_⟩ | refine ⟨show _ ≤ (9223372036854775807 : Nat) by (first | omega | (simp only [lenS]; omega)), ?_⟩ | refine ⟨show _ ≠ (0 : Int) by (first | omega | (simp only [lenS]; omega)), ?_⟩ | refine ⟨_, rfl, _, rfl, ?_⟩ | refine ⟨_, by assumption, Nat.le_of_ble_eq_true rfl, ?_⟩ | refine ⟨_, by assumption, _, rfl, ?_⟩ | refine ⟨_, rfl, ?_⟩ | fail)
      refine ⟨[], [], rfl, rfl, rfl, trivial, (by decide), Nat.le_of_ble_eq_true rfl, Nat.le_of_ble_eq_true rfl, rfl, rfl, rowsNone, rowsNone, ?_⟩
      repeat' (first |                        refine ⟨fun _ => ?_, fun h => absurd h (by decide)⟩ | refine ⟨fun h => absurd h (by decide), fun _ => ?_⟩ | (refine ⟨fun h => ?_, fun h => ?_⟩ <;> (try simp only [decide_eq_true_eq, decide_eq_false_iff_not, Bool.not_eq_true', Bool.not_eq_false', Bool.not_eq_true, Bool.not_eq_false, not_true_eq_false, beq_iff_eq, beq_eq_false_iff_ne, ne_eq, decide_eq_decide, true_iff, false_iff, iff_true, iff_false, true_and, and_true, false_or, or_false, Bool.and_true, Bool.and_eq_true, Bool.and_eq_false_iff, Bool.or_eq_true, Bool.or_eq_false_iff, List.length_cons, List.length_nil] at h) <;> (try (exfalso; first | omega | exact h rfl | (cases h; done) | exact absurd h (by assumption) | exact h (by assumption) | (simp at h; done)))) | refine ⟨⟨by (first | omega | (simp only [lenS]; omega)), by (first | omega | (simp only [lenS]; omega))⟩, _, by assumption, by rfl, ?_⟩ | refine .inl ⟨⟨by (first | omega | (simp only [lenS]; omega)), by (first | omega | (simp only [lenS]; omega))⟩, ?_⟩ | refine ⟨⟨by (first | omega | (simp only [lenS]; omega)), by (first | omega | (simp only [lenS]; omega))⟩, ?_⟩ | refine ⟨⟨by (first | omega | (simp only [lenS]; omega)), by (first | omega | (simp only [lenS]; omega)), by (first | omega | (simp only [lenS]; omega))⟩, ?_⟩ | refine ⟨.inl rfl, ?_⟩ | refine ⟨.inr (.inl (by (first | omega | (simp only [lenS]; omega)))), ?_⟩ | refine ⟨_, rfl, rfl, by (first | exact Nat.le_refl _ | exact Nat.le_of_ble_eq_true rfl | decide), ?_⟩ | refine ⟨_, rfl, by (first | exact Nat.le_refl _ | exact Nat.le_of_ble_eq_true rfl | decide), ?_⟩ | refine ⟨by (first | exact Nat.le_refl _ | exact Nat.le_of_ble_eq_true rfl | decide | exact rfl), ?_⟩ | refine ⟨show _ ≤ (9223372036854775807 : Nat) by (first | omega | (simp only [lenS]; omega)), ?_⟩ | refine ⟨show _ ≠ (0 : Int) by (first | omega | (simp only [lenS]; omega)), ?_⟩ | refine ⟨_, rfl, _, rfl, ?_⟩ | refine ⟨_, by assumption, Nat.le_of_ble_eq_true rfl, ?_⟩ | refine ⟨_, by assumption, _, rfl, ?_⟩ | refine ⟨_, rfl, ?_⟩ | fail)
      exact ⟨_, _, fin_own2 rfl rfl rfl, rfl⟩
  | cons a r =>
    repeat' (first |                        refine ⟨fun _ => ?_, fun h => absurd h (by decide)⟩ | refine ⟨fun h => absurd h (by decide), fun _ => ?_⟩ | (refine ⟨fun h => ?_, fun h => ?_⟩ <;> (try simp only [decide_eq_true_eq, decide_eq_false_iff_not, Bool.not_eq_true', Bool.not_eq_false', Bool.not_eq_true, Bool.not_eq_false, not_true_eq_false, beq_iff_eq, beq_eq_false_iff_ne, ne_eq, decide_eq_decide, true_iff, false_iff, iff_true, iff_false, true_and, and_true, false_or, or_false, Bool.and_true, Bool.and_eq_true, Bool.and_eq_false_iff, Bool.or_eq_true, Bool.or_eq_false_iff, List.length_cons, List.length_nil] at h) <;> (try (exfalso; first | omega | exact h rfl | (cases h; done) | exact absurd h (by assumption) | exact h (by assumption) | (simp at h; done)))) | refine ⟨⟨by (first | omega | (simp only [lenS]; omega)), by (first | omega | (simp only [lenS]; omega))⟩, _, by assumption, by rfl, ?_⟩ | refine .inl ⟨⟨by (first | omega | (simp only [lenS]; omega)), by (first | omega | (simp only [lenS]; omega))⟩, ?_⟩ | refine ⟨⟨by (first | omega | (simp only [lenS]; omega)), by (first | omega | (simp only [lenS]; omega))⟩, ?_⟩ | refine ⟨⟨by (first | omega | (simp only [lenS]; omega)), by (first | omega | (simp only [lenS]; omega)), by (first | omega | (simp only [lenS]; omega))⟩, ?_⟩ | refine ⟨.inl rfl, ?_⟩ | refine ⟨.inr (.inl (by (first | omega | (simp only [lenS]; omega)))), ?_⟩ | refine ⟨_, rfl, rfl, by (first | exact Nat.le_refl _ | exact Nat.le_of_ble_eq_true rfl | decide), ?_⟩ | refine ⟨_, rfl, by (first | exact Nat.le_refl _ | exact Nat.le_of_ble_eq_true rfl | decide), ?_⟩ | refine ⟨by (first | exact Nat.le_refl _ | exact Nat.le_of_ble_eq_true rfl | decide | exact rfl), ?_⟩ | refine ⟨show _ ≤ (9223372036854775807 : Nat) by (first | omega | (simp only [lenS]; omega)), ?_⟩ | refine ⟨show _ ≠ (0 : Int) by (first | omega | (simp only [lenS]; omega)), ?_⟩ | refine ⟨_, rfl, _, rfl, ?_⟩ | refine ⟨_, by assumption, Nat.le_of_ble_eq_true rfl, ?_⟩ | refine ⟨_, by assumption, _, rfl, ?_⟩ | refine ⟨_, rfl, ?_⟩ | fail)
    refine ⟨[], (attrsD (a :: r)).map fun r => r.map AV.d, rfl, rfl, rfl, trivial, (by rw [hml]; show (0 + (a :: r).length) * 32 ≤ 140737488355328; omega), Nat.le_of_ble_eq_true rfl, Nat.le_of_ble_eq_true rfl, rfl, rfl, rowsNone, attrsRowsA _, ?_⟩
    repeat' (first |                        refine ⟨fun _ => ?_, fun h => absurd h (by decide)⟩ | refine ⟨fun h => absurd h (by decide), fun _ => ?_⟩ | (refine ⟨fun h => ?_, fun h => ?_⟩ <;> (try simp only [decide_eq_true_eq, decide_eq_false_iff_not, Bool.not_eq_true', Bool.not_eq_false', Bool.not_eq_true, Bool.not_eq_false, not_true_eq_false, beq_iff_eq, beq_eq_false_iff_ne, ne_eq, decide_eq_decide, true_iff, false_iff, iff_true, iff_false, true_and, and_true, false_or, or_false, Bool.and_true, Bool.and_eq_true, Bool.and_eq_false_iff, Bool.or_eq_true, Bool.or_eq_false_iff, List.length_cons, List.length_nil] at h) <;> (try (exfalso; first | omega | exact h rfl | (cases h; done) | exact absurd h (by assumption) | exact h (by assumption) | (simp at h; done)))) | refine ⟨⟨by (first | omega | (simp only [lenS]; omega)), by (first | omega | (simp only [lenS]; omega))⟩, _, by assumption, by rfl, ?_⟩ | refine .inl ⟨⟨by (first | omega | (simp only [lenS]; omega)), by (first | omega | (simp only [lenS]; omega))⟩, ?_⟩ | refine ⟨⟨by (first | omega | (simp only [lenS]; omega)), by (first | omega | (simp only [lenS]; omega))⟩, ?_⟩ | refine ⟨⟨by (first | omega | (simp only [lenS]; omega)), by (first | omega | (simp only [lenS]; omega)), by (first | omega | (simp only [lenS]; omega))⟩, ?_⟩ | refine ⟨.inl rfl, ?_⟩ | refine ⟨.inr (.inl (by (first | omega | (simp only [lenS]; omega)))), ?_⟩ | refine ⟨_, rfl, rfl, by (first | exact Nat.le_refl _ | exact Nat.le_of_ble_eq_true rfl | decide), ?_⟩ | refine ⟨_, rfl, by (first | exact Nat.le_refl _ | exact Nat.le_of_ble_eq_true rfl | decide), ?_⟩ | refine ⟨by (first | exact Nat.le_refl _ | exact Nat.le_of_ble_eq_true rfl | decide | exact rfl), ?_⟩ | refine ⟨show _ ≤ (9223372036854775807 : Nat) by (first | omega | (simp only [lenS]; omega)), ?_⟩ | refine ⟨show _ ≠ (0 : Int) by (first | omega | (simp only [lenS]; omega)), ?_⟩ | refine ⟨_, rfl, _, rfl, ?_⟩ | refine ⟨_, by assumption, Nat.le_of_ble_eq_true rfl, ?_⟩ | refine ⟨_, by assumption, _, rfl, ?_⟩ | refine ⟨_, rfl, ?_⟩ | fail)
    exact ⟨_, _, fin_own2 rfl (rowsD_d _) (by show 0 + _ = _; rw [Nat.zero_add, hml, hn]), rfl⟩
def lists : List (List UInt8) := [[108, 105], [117, 108], [111, 108]]
theorem liB_inner : ∀ ops : List Op, (innerN lists ops = 0 → liB ops = false) ∧ (0 < innerN lists ops → ∃ pre x t, ops = pre ++ x :: t ∧ t.length = innerN lists ops ∧ liB ops = decide (x.1 = [108, 105]))
  | [] => ⟨fun _ => rfl, fun h => by simp [innerN] at h⟩
  | [_] => ⟨fun _ => rfl, fun h => by simp [innerN] at h⟩
  | o :: o2 :: r => by
    have ih := liB_inner (o2 :: r)
    rw [innerN, liB]
    by_cases h : o.1 ∈ lists
    · rw [if_pos h]
      refine ⟨fun h => by omega, fun _ => ⟨[], o, o2 :: r, rfl, rfl, ?_⟩⟩
      simp only [lists, List.mem_cons, List.not_mem_nil, or_false] at h
      rcases h with h | h | h
      · rw [if_pos h, decide_eq_true h]
      · rw [h]; rfl
      · rw [h]; rfl
    · rw [if_neg h]
      simp only [lists, List.mem_cons, List.not_mem_nil, or_false, not_or] at h
      rw [if_neg h.1, if_neg (by simp [h.2.1, h.2.2])]
      refine ⟨ih.1, fun h2 => ?_⟩
      obtain ⟨pre, x, t, e, h3, h4⟩ := ih.2 h2
      exact ⟨o :: pre, x, t, by rw [e]; rfl, h3, h4⟩
theorem rowsO_rows : ∀ (r : List Op) (vs : List OV), ∀ row ∈ rowsO r vs, row.length = 5 ∧ ∀ a ∈ row, a.one = true
  | o :: r, v :: vs, row, h => by
    rw [rowsO] at h
    rcases List.mem_append.1 h with h | h
    · exact rowsO_rows r vs row h
    · rw [List.mem_singleton.1 h]
      refine ⟨rfl, fun a ha => ?_⟩
      simp only [rowO, List.mem_cons, List.not_mem_nil, or_false] at ha
      rcases ha with rfl | rfl | rfl | rfl | rfl
      · rfl
      · rfl
      · rfl
      · exact v.2
      · rfl
  | [], _, row, h => by simp [rowsO] at h
  | _ :: _, [], row, h => by simp [rowsO] at h
theorem openRows (i : Nat) (vs : List OV) (o : Op) (r : List Op) : ∀ row ∈ openR i vs o r, row.length = 5 ∧ ∀ a ∈ row, a.one = true := fun row h => by
  rcases List.mem_append.1 h with h | h
  · exact rowsO_rows r vs row h
  · rw [List.mem_singleton.1 h]
    refine ⟨rfl, fun a ha => ?_⟩
    simp only [rowO, List.mem_cons, List.not_mem_nil, or_false] at ha
    rcases ha with rfl | rfl | rfl | rfl | rfl <;> rfl
theorem openR_lit (i : Nat) (vs : List OV) (o : Op) (r : List Op) (hv : vs.length = r.length) (v : OV) (x : List AV) : (openR i vs o r ++ [x]).set r.length ((rowO o (.own i 0 o.2.2.length)).set 3 (.lit v.1)) = rowsO (o :: r) (v :: vs) ++ [x] := by
  unfold openR
  rw [List.append_assoc, List.set_append_right _ _ (by rw [rowsO_len hv]; exact Nat.le_refl _), rowsO_len hv, Nat.sub_self, rowsO, List.append_assoc]
  rfl
/-- In the middle of a method. -/
def AtB (ops : List Op) (c : Nat) (f : Bool) (sl : St) (s : St) (σ : Store) : Prop := ∃ o r vs, ops = o :: r ∧ vs.length = r.length ∧ s = sl ∧ σ = B3 vs o r c f
theorem closeF_tot (nm : List UInt8) : ∀ (n : Nat) (ops : List Op), totO (closeF nm n ops) ≤ totO ops
  | 0, _ => Nat.le_refl _
  | n + 1, [] => Nat.le_refl _
  | n + 1, [_] => Nat.le_refl _
  | n + 1, o :: p :: r => by
    rw [closeF]
    split
    · exact shutO_tot _
    · exact Nat.le_trans (closeF_tot nm n _) (shutO_tot _)
theorem closeO_tot (nm : List UInt8) (ops : List Op) : totO (closeO nm ops) ≤ totO ops := by
  unfold closeO
  split
  · exact closeF_tot nm _ _
  · exact Nat.le_refl _
abbrev sS0 (nm : List UInt8) (ats : List Attr) (vs : List OV) (o : Op) (r : List Op) (c : Nat) (f : Bool) : Store := ⟨8, (7, .rows (4, 29) [[.d (.str nm), .d (.sl (attrsD ats)), .d (.str []), .nil]]) :: (7, .rows (4, 29) [[.d (.str []), .nil, .d (.str []), .nil]]) :: (B3 vs o r c f).objs⟩
abbrev newR (nm : List UInt8) (ats : List Attr) (k : AV) : List AV := [.d (.str nm), .d (.sl (attrsD ats)), .d (.str []), k, .d (.str nm)]
abbrev sS1 (nm : List UInt8) (ats : List Attr) (vs : List OV) (o : Op) (r : List Op) (c : Nat) (f : Bool) : Store := ⟨9, (8, .rows (5, 67) [newR nm ats .nil]) :: (sS0 nm ats vs o r c f).objs⟩
abbrev sS2 (nm : List UInt8) (ats : List Attr) (vs : List OV) (o : Op) (r : List Op) (c : Nat) (f : Bool) : Store := ⟨10, (9, .rows (5, 67) (openR 5 vs o r ++ [newR nm ats .nil])) :: (4, .dead) :: (sS1 nm ats vs o r c f).objs⟩
abbrev sS3 (nm : List UInt8) (ats : List Attr) (vs : List OV) (o : Op) (r : List Op) (c : Nat) (f : Bool) : Store := ⟨10, (0, boxB 9 (r.length + 1 + 1) c f) :: (sS2 nm ats vs o r c f).objs⟩
set_option maxRecDepth 100000 in
theorem start_ok (nm : List UInt8) (ats : List Attr) (s : Bs) (hs : totO s.ops ≤ 999998) (hc : s.cnt ≤ 1000000) (ha : ats.length ≤ 1000000) : Meth Try.prog 39 [.ref 0 0 0, .d (.str nm), .d (.sl (attrsD ats))] (.tup []) s (startS nm ats s) := by
  intro o r vs ho hv
  have hc1 := Block_ok nm
  have hm1 := close_ok [112] s (by omega)
  refine fn_okTE Try.wf Try.tab_ok Try.func39 (by decide +kernel) rfl rfl ?_
  refine E.fm (s' := [(0, .ref 0 0 0), (1, .d (.str nm)), (2, .d (.sl (attrsD ats)))]) (σ' := B3 vs o r s.cnt s.full) (B_up vs o r _ _ ⟨⟨rfl, rfl, rfl⟩, rfl, rfl, trivial⟩) ?_
  generalize hops1 : (if nm ∈ blocks then closeO [112] s.ops else s.ops) = ops1
  refine midE (AtB ops1 s.cnt s.full [(0, .ref 0 0 0), (1, .d (.str nm)), (2, .d (.sl (attrsD ats)))]) (E.of Try.wf Try.tab_ok ?_) ?_
  · repeat' (first | refine PureC.use hc1 ?_ | refine PureC.use hc2 ?_ |       refine CallsAbs.vr (by repeat' (first | exact trivial | rfl | refine ⟨?_, ?_⟩ | fail)) (PureC.use hv1 ?_) | refine CallsAbs.vr (by repeat' (first | exact trivial | rfl | refine ⟨?_, ?_⟩ | fail)) (PureC.use hv2 ?_) |  refine CallsAbs.use1 hd1 ?_ |            refine ⟨fun _ => ?_, fun h => absurd h (by decide)⟩ | refine ⟨fun h => absurd h (by decide), fun _ => ?_⟩ | (refine ⟨fun h => ?_, fun h => ?_⟩ <;> (try simp only [decide_eq_true_eq, decide_eq_false_iff_not, Bool.not_eq_true', Bool.not_eq_false', Bool.not_eq_true, Bool.not_eq_false, not_true_eq_false, beq_iff_eq, beq_eq_false_iff_ne, ne_eq, decide_eq_decide, true_iff, false_iff, iff_true, iff_false, true_and, and_true, false_or, or_false, Bool.and_true, Bool.and_eq_true, Bool.and_eq_false_iff, Bool.or_eq_true, Bool.or_eq_false_iff, List.length_cons, List.length_nil] at h) <;> (try (exfalso; first | omega | exact h rfl | (cases h; done) | exact absurd h (by assumption) | exact h (by assumption) | (simp at h; done)))) | refine ⟨⟨by (first | omega | (simp only [lenS]; omega)), by (first | omega | (simp only [lenS]; omega))⟩, _, by assumption, by rfl, ?_⟩ | refine .inl ⟨⟨by (first | omega | (simp only [lenS]; omega)), by (first | omega | (simp only [lenS]; omega))⟩, ?_⟩ | refine ⟨⟨by (first | omega | (simp only [lenS]; omega)), by (first | omega | (simp only [lenS]; omega))⟩, ?_⟩ | refine ⟨⟨by (first | omega | (simp only [lenS]; omega)), by (first | omega | (simp only [lenS]; omega)), by (first | omega | (simp only [lenS]; omega))⟩, ?_⟩ | refine ⟨.inl rfl, ?_⟩ | refine ⟨.inr (.inl (by (first | omega | (simp only [lenS]; omega)))), ?_⟩ | refine ⟨_, rfl, rfl, by (first | exact Nat.le_refl _ | exact Nat.le_of_ble_eq_true rfl | decide), ?_⟩ | refine ⟨_, rfl, by (first | exact Nat.le_refl _ | exact Nat.le_of_ble_eq_true rfl | decide), ?_⟩ | refine ⟨by (first | exact Nat.le_refl _ | exact Nat.le_of_ble_eq_true rfl | decide | exact rfl), ?_⟩ | refine ⟨show _ ≤ (9223372036854775807 : Nat) by (first | omega | (simp only [lenS]; omega)), ?_⟩ | refine ⟨show _ ≠ (0 : Int) by (first | omega | (simp only [lenS]; omega)), ?_⟩ | refine ⟨_, rfl, _, rfl, ?_⟩ | refine ⟨_, by assumption, Nat.le_of_ble_eq_true rfl, ?_⟩ | refine ⟨_, by assumption, _, rfl, ?_⟩ | refine ⟨_, rfl, ?_⟩ | fail)
    · refine hm1.use (vs := vs) 4 5 6 7 8 9 10 ho hv rfl rfl rfl rfl rfl rfl rfl rfl rfl rfl ⟨⟨rfl, rfl, rfl⟩, rfl, trivial⟩ fun o2 r2 vs2 q1 q2 => ?_
      refine ⟨_, _, ⟨o2, r2, vs2, ?_, q2, rfl, rfl⟩, Mv.of [.old 7, .old 8, .old 9] rfl rfl rfl ⟨⟨rfl, rfl⟩, ⟨rfl, .inl ⟨rfl, dataA_pure _⟩⟩, ⟨rfl, .inr (openR_rel rfl _ _ _)⟩, ⟨rfl, .inr ⟨⟨⟨rfl, rfl, rfl⟩, rfl, rfl, trivial⟩, trivial⟩⟩, trivial⟩ ⟨⟨rfl, rfl, rfl⟩, rfl, rfl, trivial⟩⟩
      rw [← hops1, if_pos (by assumption)]; exact q1
    · refine ⟨_, _, ⟨o, r, vs, ?_, hv, rfl, rfl⟩, Mv.of [.old 4, .old 5, .old 6] rfl rfl rfl ⟨⟨rfl, rfl⟩, ⟨rfl, .inl ⟨rfl, dataA_pure _⟩⟩, ⟨rfl, .inr (openR_rel rfl _ _ _)⟩, ⟨rfl, .inr ⟨⟨⟨rfl, rfl, rfl⟩, rfl, rfl, trivial⟩, trivial⟩⟩, trivial⟩ ⟨⟨rfl, rfl, rfl⟩, rfl, rfl, trivial⟩⟩
      rw [← hops1, if_neg (by assumption)]; exact ho
  rintro _ _ ⟨o1, r1, vs1, e1, hv1, rfl, rfl⟩
  subst e1
  clear hm1 hc1
  have hs1 : totO (o1 :: r1) ≤ 999998 := by
    rw [← hops1]
    split
    · exact Nat.le_trans (closeO_tot _ _) hs
    · exact hs
  have hlen := totO_len (o1 :: r1)
  rw [List.length_cons] at hlen
  have hd1 := inner_ok lists (by show 3 ≤ _; omega) vs1 o1 r1 s.cnt s.full hv1 (by omega)
  have hlt := innerN_lt lists (o1 :: r1) (by simp)
  rw [List.length_cons] at hlt
  obtain ⟨hl0, hl1⟩ := liB_inner (o1 :: r1)
  generalize innerN lists (o1 :: r1) = A at *
  have hm1 := close_ok [108, 105] ⟨o1 :: r1, s.cnt, s.full⟩ (show totO (o1 :: r1) ≤ 1000000 by omega)
  generalize hops2 : (if nm = [108, 105] ∧ liB (o1 :: r1) = true then closeO [108, 105] (o1 :: r1) else o1 :: r1) = ops2
  refine midE (AtB ops2 s.cnt s.full [(0, .ref 0 0 0), (1, .d (.str nm)), (2, .d (.sl (attrsD ats)))]) (E.of Try.wf Try.tab_ok ?_) ?_
  · refine CallsAbs.freezeTo (ds := strsD lists) (args' := [.ref 0 0 0, .d (.sl (strsD lists))]) 7 rfl rfl ⟨trivial, fun _ => Nat.le_refl _, trivial⟩ rfl ?_
    refine CallsAbs.fm (σ' := ⟨8, (B3 vs1 o1 r1 s.cnt s.full).objs⟩) (fin_same rfl fun i => ?_) ?_
    · simp only [Store.get, look_cons]
      by_cases h : 7 = i
      · subst h; rfl
      · simp [h]
    refine CallsAbs.use1 hd1 ?_
    rcases Nat.eq_zero_or_pos A with h0 | h0
    · have hli := hl0 h0
      repeat' (first | refine PureC.use hc1 ?_ | refine PureC.use hc2 ?_ |       refine CallsAbs.vr (by repeat' (first | exact trivial | rfl | refine ⟨?_, ?_⟩ | fail)) (PureC.use hv1 ?_) | refine CallsAbs.vr (by repeat' (first | exact trivial | rfl | refine ⟨?_, ?_⟩ | fail)) (PureC.use hv2 ?_) |  refine CallsAbs.use1 hd1 ?_ |            refine ⟨fun _ => ?_, fun h => absurd h (by decide)⟩ | refine ⟨fun h => absurd h (by decide), fun _ => ?_⟩ | (refine ⟨fun h => ?_, fun h => ?_⟩ <;> (try simp only [decide_eq_true_eq, decide_eq_false_iff_not, Bool.not_eq_true', Bool.not_eq_false', Bool.not_eq_true, Bool.not_eq_false, not_true_eq_false, beq_iff_eq, beq_eq_false_iff_ne, ne_eq, decide_eq_decide, true_iff, false_iff, iff_true, iff_false, true_and, and_true, false_or, or_false, Bool.and_true, Bool.and_eq_true, Bool.and_eq_false_iff, Bool.or_eq_true, Bool.or_eq_false_iff, List.length_cons, List.length_nil] at h) <;> (try (exfalso; first | omega | exact h rfl | (cases h; done) | exact absurd h (by assumption) | exact h (by assumption) | (simp at h; done)))) | refine ⟨⟨by (first | omega | (simp only [lenS]; omega)), by (first | omega | (simp only [lenS]; omega))⟩, _, by assumption, by rfl, ?_⟩ | refine .inl ⟨⟨by (first | omega | (simp only [lenS]; omega)), by (first | omega | (simp only [lenS]; omega))⟩, ?_⟩ | refine ⟨⟨by (first | omega | (simp only [lenS]; omega)), by (first | omega | (simp only [lenS]; omega))⟩, ?_⟩ | refine ⟨⟨by (first | omega | (simp only [lenS]; omega)), by (first | omega | (simp only [lenS]; omega)), by (first | omega | (simp only [lenS]; omega))⟩, ?_⟩ | refine ⟨.inl rfl, ?_⟩ | refine ⟨.inr (.inl (by (first | omega | (simp only [lenS]; omega)))), ?_⟩ | refine ⟨_, rfl, rfl, by (first | exact Nat.le_refl _ | exact Nat.le_of_ble_eq_true rfl | decide), ?_⟩ | refine ⟨_, rfl, by (first | exact Nat.le_refl _ | exact Nat.le_of_ble_eq_true rfl | decide), ?_⟩ | refine ⟨by (first | exact Nat.le_refl _ | exact Nat.le_of_ble_eq_true rfl | decide | exact rfl), ?_⟩ | refine ⟨show _ ≤ (9223372036854775807 : Nat) by (first | omega | (simp only [lenS]; omega)), ?_⟩ | refine ⟨show _ ≠ (0 : Int) by (first | omega | (simp only [lenS]; omega)), ?_⟩ | refine ⟨_, rfl, _, rfl, ?_⟩ | refine ⟨_, by assumption, Nat.le_of_ble_eq_true rfl, ?_⟩ | refine ⟨_, by assumption, _, rfl, ?_⟩ | refine ⟨_, rfl, ?_⟩ | fail)
      all_goals exact ⟨_, _, ⟨o1, r1, vs1, by rw [← hops2, if_neg (by rintro ⟨k1, k2⟩; simp_all)], hv1, rfl, rfl⟩, Mv.of [.old 4, .old 5, .old 6] rfl rfl rfl ⟨⟨rfl, rfl⟩, ⟨rfl, .inl ⟨rfl, dataA_pure _⟩⟩, ⟨rfl, .inr (openR_rel rfl _ _ _)⟩, ⟨rfl, .inr ⟨⟨⟨rfl, rfl, rfl⟩, rfl, rfl, trivial⟩, trivial⟩⟩, trivial⟩ ⟨⟨rfl, rfl, rfl⟩, rfl, rfl, trivial⟩⟩
    · obtain ⟨pre, x, t, q1, q2, q3⟩ := hl1 h0
      obtain ⟨w, hrow⟩ := openR_at 5 vs1 o1 r1 hv1 pre x t q1
      rw [q2] at hrow
      repeat' (first | refine PureC.use hc1 ?_ | refine PureC.use hc2 ?_ |       refine CallsAbs.vr (by repeat' (first | exact trivial | rfl | refine ⟨?_, ?_⟩ | fail)) (PureC.use hv1 ?_) | refine CallsAbs.vr (by repeat' (first | exact trivial | rfl | refine ⟨?_, ?_⟩ | fail)) (PureC.use hv2 ?_) |  refine CallsAbs.use1 hd1 ?_ |            refine ⟨fun _ => ?_, fun h => absurd h (by decide)⟩ | refine ⟨fun h => absurd h (by decide), fun _ => ?_⟩ | (refine ⟨fun h => ?_, fun h => ?_⟩ <;> (try simp only [decide_eq_true_eq, decide_eq_false_iff_not, Bool.not_eq_true', Bool.not_eq_false', Bool.not_eq_true, Bool.not_eq_false, not_true_eq_false, beq_iff_eq, beq_eq_false_iff_ne, ne_eq, decide_eq_decide, true_iff, false_iff, iff_true, iff_false, true_and, and_true, false_or, or_false, Bool.and_true, Bool.and_eq_true, Bool.and_eq_false_iff, Bool.or_eq_true, Bool.or_eq_false_iff, List.length_cons, List.length_nil] at h) <;> (try (exfalso; first | omega | exact h rfl | (cases h; done) | exact absurd h (by assumption) | exact h (by assumption) | (simp at h; done)))) | refine ⟨⟨by (first | omega | (simp only [lenS]; omega)), by (first | omega | (simp only [lenS]; omega))⟩, _, by assumption, by rfl, ?_⟩ | refine .inl ⟨⟨by (first | omega | (simp only [lenS]; omega)), by (first | omega | (simp only [lenS]; omega))⟩, ?_⟩ | refine ⟨⟨by (first | omega | (simp only [lenS]; omega)), by (first | omega | (simp only [lenS]; omega))⟩, ?_⟩ | refine ⟨⟨by (first | omega | (simp only [lenS]; omega)), by (first | omega | (simp only [lenS]; omega)), by (first | omega | (simp only [lenS]; omega))⟩, ?_⟩ | refine ⟨.inl rfl, ?_⟩ | refine ⟨.inr (.inl (by (first | omega | (simp only [lenS]; omega)))), ?_⟩ | refine ⟨_, rfl, rfl, by (first | exact Nat.le_refl _ | exact Nat.le_of_ble_eq_true rfl | decide), ?_⟩ | refine ⟨_, rfl, by (first | exact Nat.le_refl _ | exact Nat.le_of_ble_eq_true rfl | decide), ?_⟩ | refine ⟨by (first | exact Nat.le_refl _ | exact Nat.le_of_ble_eq_true rfl | decide | exact rfl), ?_⟩ | refine ⟨show _ ≤ (9223372036854775807 : Nat) by (first | omega | (simp only [lenS]; omega)), ?_⟩ | refine ⟨show _ ≠ (0 : Int) by (first | omega | (simp only [lenS]; omega)), ?_⟩ | refine ⟨_, rfl, _, rfl, ?_⟩ | refine ⟨_, by assumption, Nat.le_of_ble_eq_true rfl, ?_⟩ | refine ⟨_, by assumption, _, rfl, ?_⟩ | refine ⟨_, rfl, ?_⟩ | fail)
      · refine hm1.use (vs := vs1) 4 5 6 8 9 10 11 rfl hv1 rfl rfl rfl rfl rfl rfl rfl rfl rfl rfl ⟨⟨rfl, rfl, rfl⟩, rfl, trivial⟩ fun o2 r2 vs2 k1 k2 => ?_
        refine ⟨_, _, ⟨o2, r2, vs2, ?_, k2, rfl, rfl⟩, Mv.of [.old 8, .old 9, .old 10] rfl rfl rfl ⟨⟨rfl, rfl⟩, ⟨rfl, .inl ⟨rfl, dataA_pure _⟩⟩, ⟨rfl, .inr (openR_rel rfl _ _ _)⟩, ⟨rfl, .inr ⟨⟨⟨rfl, rfl, rfl⟩, rfl, rfl, trivial⟩, trivial⟩⟩, trivial⟩ ⟨⟨rfl, rfl, rfl⟩, rfl, rfl, trivial⟩⟩
        rw [← hops2, if_pos ⟨by assumption, by rw [q3]; exact decide_eq_true (by assumption)⟩]; exact k1
      all_goals exact ⟨_, _, ⟨o1, r1, vs1, by rw [← hops2, if_neg (by rintro ⟨k1, k2⟩; simp_all)], hv1, rfl, rfl⟩, Mv.of [.old 4, .old 5, .old 6] rfl rfl rfl ⟨⟨rfl, rfl⟩, ⟨rfl, .inl ⟨rfl, dataA_pure _⟩⟩, ⟨rfl, .inr (openR_rel rfl _ _ _)⟩, ⟨rfl, .inr ⟨⟨⟨rfl, rfl, rfl⟩, rfl, rfl, trivial⟩, trivial⟩⟩, trivial⟩ ⟨⟨rfl, rfl, rfl⟩, rfl, rfl, trivial⟩⟩
  rintro _ _ ⟨o2, r2, vs2, e2, hv2, rfl, rfl⟩
  subst e2
  have hso : startO nm s.ops = o2 :: r2 := by
    show (if nm = [108, 105] ∧ liB (if nm ∈ blocks then closeO [112] s.ops else s.ops) = true then closeO [108, 105] (if nm ∈ blocks then closeO [112] s.ops else s.ops) else (if nm ∈ blocks then closeO [112] s.ops else s.ops)) = _
    rw [hops1]; exact hops2
  have hs2 : totO (o2 :: r2) ≤ 999998 := by
    rw [← hops2]
    split
    · exact Nat.le_trans (closeO_tot _ _) hs1
    · exact hs1
  clear hm1 hd1 hl0 hl1 hlt hlen
  have hlen := totO_len (o2 :: r2)
  rw [List.length_cons] at hlen
  unfold startS
  rw [hso]
  have hc1 := CloneA_ok ats ha
  have hc2 := Void_ok nm
  refine E.seq (E.of Try.wf Try.tab_ok ?_)
  repeat' (first | refine PureC.use hc1 ?_ | refine PureC.use hc2 ?_ |       refine CallsAbs.vr (by repeat' (first | exact trivial | rfl | refine ⟨?_, ?_⟩ | fail)) (PureC.use hv1 ?_) | refine CallsAbs.vr (by repeat' (first | exact trivial | rfl | refine ⟨?_, ?_⟩ | fail)) (PureC.use hv2 ?_) |  refine CallsAbs.use1 hd1 ?_ |            refine ⟨fun _ => ?_, fun h => absurd h (by decide)⟩ | refine ⟨fun h => absurd h (by decide), fun _ => ?_⟩ | (refine ⟨fun h => ?_, fun h => ?_⟩ <;> (try simp only [decide_eq_true_eq, decide_eq_false_iff_not, Bool.not_eq_true', Bool.not_eq_false', Bool.not_eq_true, Bool.not_eq_false, not_true_eq_false, beq_iff_eq, beq_eq_false_iff_ne, ne_eq, decide_eq_decide, true_iff, false_iff, iff_true, iff_false, true_and, and_true, false_or, or_false, Bool.and_true, Bool.and_eq_true, Bool.and_eq_false_iff, Bool.or_eq_true, Bool.or_eq_false_iff, List.length_cons, List.length_nil] at h) <;> (try (exfalso; first | omega | exact h rfl | (cases h; done) | exact absurd h (by assumption) | exact h (by assumption) | (simp at h; done)))) | refine ⟨⟨by (first | omega | (simp only [lenS]; omega)), by (first | omega | (simp only [lenS]; omega))⟩, _, by assumption, by rfl, ?_⟩ | refine .inl ⟨⟨by (first | omega | (simp only [lenS]; omega)), by (first | omega | (simp only [lenS]; omega))⟩, ?_⟩ | refine ⟨⟨by (first | omega | (simp only [lenS]; omega)), by (first | omega | (simp only [lenS]; omega))⟩, ?_⟩ | refine ⟨⟨by (first | omega | (simp only [lenS]; omega)), by (first | omega | (simp only [lenS]; omega)), by (first | omega | (simp only [lenS]; omega))⟩, ?_⟩ | refine ⟨.inl rfl, ?_⟩ | refine ⟨.inr (.inl (by (first | omega | (simp only [lenS]; omega)))), ?_⟩ | refine ⟨_, rfl, rfl, by (first | exact Nat.le_refl _ | exact Nat.le_of_ble_eq_true rfl | decide), ?_⟩ | refine ⟨_, rfl, by (first | exact Nat.le_refl _ | exact Nat.le_of_ble_eq_true rfl | decide), ?_⟩ | refine ⟨by (first | exact Nat.le_refl _ | exact Nat.le_of_ble_eq_true rfl | decide | exact rfl), ?_⟩ | refine ⟨show _ ≤ (9223372036854775807 : Nat) by (first | omega | (simp only [lenS]; omega)), ?_⟩ | refine ⟨show _ ≠ (0 : Int) by (first | omega | (simp only [lenS]; omega)), ?_⟩ | refine ⟨_, rfl, _, rfl, ?_⟩ | refine ⟨_, by assumption, Nat.le_of_ble_eq_true rfl, ?_⟩ | refine ⟨_, by assumption, _, rfl, ?_⟩ | refine ⟨_, rfl, ?_⟩ | fail)
  refine E.seq (E.of Try.wf Try.tab_ok ?_)
  repeat' (first | refine PureC.use hc1 ?_ | refine PureC.use hc2 ?_ |       refine CallsAbs.vr (by repeat' (first | exact trivial | rfl | refine ⟨?_, ?_⟩ | fail)) (PureC.use hv1 ?_) | refine CallsAbs.vr (by repeat' (first | exact trivial | rfl | refine ⟨?_, ?_⟩ | fail)) (PureC.use hv2 ?_) |  refine CallsAbs.use1 hd1 ?_ |            refine ⟨fun _ => ?_, fun h => absurd h (by decide)⟩ | refine ⟨fun h => absurd h (by decide), fun _ => ?_⟩ | (refine ⟨fun h => ?_, fun h => ?_⟩ <;> (try simp only [decide_eq_true_eq, decide_eq_false_iff_not, Bool.not_eq_true', Bool.not_eq_false', Bool.not_eq_true, Bool.not_eq_false, not_true_eq_false, beq_iff_eq, beq_eq_false_iff_ne, ne_eq, decide_eq_decide, true_iff, false_iff, iff_true, iff_false, true_and, and_true, false_or, or_false, Bool.and_true, Bool.and_eq_true, Bool.and_eq_false_iff, Bool.or_eq_true, Bool.or_eq_false_iff, List.length_cons, List.length_nil] at h) <;> (try (exfalso; first | omega | exact h rfl | (cases h; done) | exact absurd h (by assumption) | exact h (by assumption) | (simp at h; done)))) | refine ⟨⟨by (first | omega | (simp only [lenS]; omega)), by (first | omega | (simp only [lenS]; omega))⟩, _, by assumption, by rfl, ?_⟩ | refine .inl ⟨⟨by (first | omega | (simp only [lenS]; omega)), by (first | omega | (simp only [lenS]; omega))⟩, ?_⟩ | refine ⟨⟨by (first | omega | (simp only [lenS]; omega)), by (first | omega | (simp only [lenS]; omega))⟩, ?_⟩ | refine ⟨⟨by (first | omega | (simp only [lenS]; omega)), by (first | omega | (simp only [lenS]; omega)), by (first | omega | (simp only [lenS]; omega))⟩, ?_⟩ | refine ⟨.inl rfl, ?_⟩ | refine ⟨.inr (.inl (by (first | omega | (simp only [lenS]; omega)))), ?_⟩ | refine ⟨_, rfl, rfl, by (first | exact Nat.le_refl _ | exact Nat.le_of_ble_eq_true rfl | decide), ?_⟩ | refine ⟨_, rfl, by (first | exact Nat.le_refl _ | exact Nat.le_of_ble_eq_true rfl | decide), ?_⟩ | refine ⟨by (first | exact Nat.le_refl _ | exact Nat.le_of_ble_eq_true rfl | decide | exact rfl), ?_⟩ | refine ⟨show _ ≤ (9223372036854775807 : Nat) by (first | omega | (simp only [lenS]; omega)), ?_⟩ | refine ⟨show _ ≠ (0 : Int) by (first | omega | (simp only [lenS]; omega)), ?_⟩ | refine ⟨_, rfl, _, rfl, ?_⟩ | refine ⟨_, by assumption, Nat.le_of_ble_eq_true rfl, ?_⟩ | refine ⟨_, by assumption, _, rfl, ?_⟩ | refine ⟨_, rfl, ?_⟩ | fail)
  · have hm1 := put_ok (.mk nm ats [] []) ⟨o2 :: r2, s.cnt, s.full⟩ (show totO (o2 :: r2) ≤ 1000000 by omega)
    have hm2 := count_ok ⟨putO (.mk nm ats [] []) (o2 :: r2), s.cnt, s.full⟩ (by show (putO _ (o2 :: r2)).length ≤ _; rw [putO_len, List.length_cons]; omega) hc
    rw [if_pos (by assumption)]
    refine hm1.use (vs := vs2) 4 5 6 8 9 10 11 rfl hv2 rfl rfl rfl rfl rfl rfl rfl rfl rfl rfl ⟨⟨rfl, rfl, rfl⟩, ⟨rfl, rfl, rfl, rfl, trivial⟩, trivial⟩ fun o3 r3 vs3 q1 q2 => ?_
    refine E.of Try.wf Try.tab_ok ?_
    refine hm2.use (vs := vs3) 8 9 10 11 12 13 14 q1 q2 rfl rfl rfl rfl rfl rfl rfl rfl rfl rfl ⟨⟨rfl, rfl, rfl⟩, trivial⟩ fun o4 r4 vs4 q3 q4 => ?_
    exact ⟨.tup [], B3 vs4 o4 r4 _ _, fin_mv [.old 11, .old 12, .old 13] rfl rfl rfl ⟨⟨rfl, rfl⟩, ⟨rfl, .inl ⟨rfl, dataA_pure _⟩⟩, ⟨rfl, .inr (openR_rel rfl _ _ _)⟩, ⟨rfl, .inr ⟨⟨⟨rfl, rfl, rfl⟩, rfl, rfl, trivial⟩, trivial⟩⟩, trivial⟩ trivial, rfl, _, _, vs4, q3, q4, rfl⟩
  · have hm2 := count_ok ⟨(nm, ats, []) :: o2 :: r2, s.cnt, s.full⟩ (by show (_ :: o2 :: r2).length ≤ _; rw [List.length_cons, List.length_cons]; omega) hc
    rw [if_neg (by assumption)]
    refine drawnZ Try.wf Try.tab_ok [8, 9, 12] (fun t => match t with
      | 0 => sS0 nm ats vs2 o2 r2 s.cnt s.full
      | 1 => sS1 nm ats vs2 o2 r2 s.cnt s.full
      | 2 => sS2 nm ats vs2 o2 r2 s.cnt s.full
      | _ => sS3 nm ats vs2 o2 r2 s.cnt s.full) rfl Try.mixed (by decide +kernel) ?_
    iterate 4 refine zblind (by decide +kernel) rfl rfl (fun _ => FinMove.refl _ _ _) ?_
    refine zreadL (List.range 2) (by decide +kernel) rfl rfl (by repeat' first | exact trivial | exact ⟨_, rfl, _, rfl, FinMove.refl _ _ _⟩ | refine ⟨?_, ?_⟩) ?_
    refine zreadL [0] (by decide +kernel) rfl rfl ⟨⟨_, rfl, Nat.le_of_ble_eq_true rfl, FinMove.refl _ _ _⟩, trivial⟩ ?_
    iterate 2 refine zblind (by decide +kernel) rfl rfl (fun _ => FinMove.refl _ _ _) ?_
    refine zeff (r := .own 8 0 1) rfl rfl rfl (FinMove.refl _ _ _) ?_
    have hor := openR_len 5 vs2 o2 r2 hv2
    refine zeff (r := .own 9 0 (r2.length + 1 + 1)) rfl rfl rfl ⟨openR 5 vs2 o2 r2, [newR nm ats .nil], congrArg some (takeAll hor), rfl, (show srcLen (.own 4 0 (r2.length + 1)) _ from hor), rfl, (by rw [hor]; show (r2.length + 1 + 1) * 96 ≤ 140737488355328; omega), Nat.le_of_ble_eq_true rfl, Nat.le_of_ble_eq_true rfl, rfl, rfl, openRows 5 vs2 o2 r2, rowsOne rfl rfl, fin_eq (congrArg (fun n => AV.own 9 0 (n + 1)) hor)⟩ ?_
    iterate 2 refine zblind (by decide +kernel) rfl rfl (fun _ => FinMove.refl _ _ _) ?_
    refine zeff (r := .top) rfl rfl rfl ⟨_, rfl, rfl, Nat.le_of_ble_eq_true rfl, FinMove.refl _ _ _⟩ ?_
    refine E.kinIn (s' := [(0, .ref 0 0 0)]) (i := 6) (j := 9) (k := 5) (r := r2.length) (q := 3) (rows := nodesD o2.2.2) (l := kinL r2 vs2) (rs := openR 5 vs2 o2 r2 ++ [newR nm ats .nil]) (row := rowO o2 (.own 5 0 o2.2.2.length)) rfl rfl rfl
      (by rw [List.getElem?_append_left (by rw [hor]; omega)]; exact openR_get 5 vs2 o2 r2 hv2) (by rw [nodesD_len]; rfl) (by decide) ⟨rfl, trivial⟩ fun v hone => ?_
    have hset := openR_lit 5 vs2 o2 r2 hv2 ⟨v, hone⟩ (newR nm ats .nil)
    refine E.view (s' := [(0, .ref 0 0 0)]) (σ' := B3 (⟨v, hone⟩ :: vs2) (nm, ats, []) (o2 :: r2) s.cnt s.full) (Mv.of [.old 9, .phan 4, .old 6] rfl rfl rfl ⟨⟨rfl, rfl⟩, rfl, ⟨rfl, .inr ?_⟩, ⟨rfl, .inr ⟨⟨⟨rfl, rfl, rfl⟩, rfl, rfl, trivial⟩, trivial⟩⟩, trivial⟩ ⟨⟨rfl, rfl, rfl⟩, trivial⟩) ?_
    · rw [hset]
      exact rrel_app _ (rowsO_pure _ _) ⟨⟨rfl, rfl, rfl, ⟨rfl, rfl, rfl⟩, rfl, trivial⟩, trivial⟩
    refine E.of Try.wf Try.tab_ok ?_
    refine hm2.use (vs := ⟨v, hone⟩ :: vs2) 4 5 6 7 8 9 10 rfl (by simp [hv2]) rfl rfl rfl rfl rfl rfl rfl rfl rfl rfl ⟨⟨rfl, rfl, rfl⟩, trivial⟩ fun o4 r4 vs4 q3 q4 => ?_
    exact ⟨.tup [], B3 vs4 o4 r4 _ _, fin_mv [.old 7, .old 8, .old 9] rfl rfl rfl ⟨⟨rfl, rfl⟩, ⟨rfl, .inl ⟨rfl, dataA_pure _⟩⟩, ⟨rfl, .inr (openR_rel rfl _ _ _)⟩, ⟨rfl, .inr ⟨⟨⟨rfl, rfl, rfl⟩, rfl, rfl, trivial⟩, trivial⟩⟩, trivial⟩ trivial, rfl, _, _, vs4, q3, q4, rfl⟩
end Go.Proofs.Ytcmkiancbgmmhaa

namespace Go.Proofs.Ytcmkiancbgmmhaa
open Go.Aw
set_option maxHeartbeats 1600000
set_option linter.unusedSimpArgs false
set_option linter.unusedVariables false
theorem startO_tot (nm : List UInt8) (ops : List Op) : totO (startO nm ops) ≤ totO ops := by
  show totO (if nm = [108, 105] ∧ liB (if nm ∈ blocks then closeO [112] ops else ops) = true then closeO [108, 105] (if nm ∈ blocks then closeO [112] ops else ops) else (if nm ∈ blocks then closeO [112] ops else ops)) ≤ _
  have h : totO (if nm ∈ blocks then closeO [112] ops else ops) ≤ totO ops := by
    split
    · exact closeO_tot _ _
    · exact Nat.le_refl _
  generalize (if nm ∈ blocks then closeO [112] ops else ops) = x at h ⊢
  split
  · exact Nat.le_trans (closeO_tot _ _) h
  · exact h
theorem startS_tot (nm : List UInt8) (ats : List Attr) (s : Bs) : totO (startS nm ats s).ops ≤ totO s.ops + 1 := by
  have h := startO_tot nm s.ops
  show totO (if nm ∈ voids then putO (.mk nm ats [] []) (startO nm s.ops) else (nm, ats, []) :: startO nm s.ops) ≤ _
  split
  · have := putO_tot (.mk nm ats [] []) (startO nm s.ops); omega
  · rw [totO]; simp only [List.length_nil]; omega
set_option maxRecDepth 100000 in
theorem end_ok (nm : List UInt8) (s : Bs) (hs : totO s.ops ≤ 999990) (hc : s.cnt ≤ 1000000) : Meth Try.prog 40 [.ref 0 0 0, .d (.str nm)] (.tup []) s (endS nm s) := by
  intro o r vs ho hv
  have hm1 := close_ok nm s (by omega)
  have hm2 := start_ok nm [] s (by omega) hc (by simp)
  have hm3 := close_ok nm (startS nm [] s) (by have := startS_tot nm [] s; omega)
  have share : ∀ s' : Bs, endS nm s = s' → CallsAbs Try.prog 40 [.ref 0 0 0, .d (.str nm)] (B0 vs o r s.cnt s.full) (fun x σ' => x = .tup [] ∧ Bp s'.ops s'.cnt s'.full σ') → CallsAbs Try.prog 40 [.ref 0 0 0, .d (.str nm)] (B0 vs o r s.cnt s.full) (fun x σ' => x = .tup [] ∧ Bp (endS nm s).ops (endS nm s).cnt (endS nm s).full σ') := fun s' e h => e ▸ h
  by_cases hop : openB nm s.ops = true
  · refine share ⟨closeO nm s.ops, s.cnt, s.full⟩ (by unfold endS; rw [if_pos hop]) ?_
    refine fn_okTE Try.wf Try.tab_ok Try.func40 (by decide +kernel) rfl rfl ?_
    refine E.fm (s' := [(0, .ref 0 0 0), (1, .d (.str nm))]) (σ' := B3 vs o r s.cnt s.full) (B_up vs o r _ _ ⟨⟨rfl, rfl, rfl⟩, rfl, trivial⟩) ?_
    refine E.of Try.wf Try.tab_ok ?_
    refine hm1.use (vs := vs) 4 5 6 7 8 9 10 ho hv rfl rfl rfl rfl rfl rfl rfl rfl rfl rfl ⟨⟨rfl, rfl, rfl⟩, rfl, trivial⟩ fun o2 r2 vs2 q1 q2 => ?_
    rw [hop]
    repeat' (first |                        refine ⟨fun _ => ?_, fun h => absurd h (by decide)⟩ | refine ⟨fun h => absurd h (by decide), fun _ => ?_⟩ | (refine ⟨fun h => ?_, fun h => ?_⟩ <;> (try simp only [decide_eq_true_eq, decide_eq_false_iff_not, Bool.not_eq_true', Bool.not_eq_false', Bool.not_eq_true, Bool.not_eq_false, not_true_eq_false, beq_iff_eq, beq_eq_false_iff_ne, ne_eq, decide_eq_decide, true_iff, false_iff, iff_true, iff_false, true_and, and_true, false_or, or_false, Bool.and_true, Bool.and_eq_true, Bool.and_eq_false_iff, Bool.or_eq_true, Bool.or_eq_false_iff, List.length_cons, List.length_nil] at h) <;> (try (exfalso; first | omega | exact h rfl | (cases h; done) | exact absurd h (by assumption) | exact h (by assumption) | (simp at h; done)))) | refine ⟨⟨by (first | omega | (simp only [lenS]; omega)), by (first | omega | (simp only [lenS]; omega))⟩, _, by assumption, by rfl, ?_⟩ | refine .inl ⟨⟨by (first | omega | (simp only [lenS]; omega)), by (first | omega | (simp only [lenS]; omega))⟩, ?_⟩ | refine ⟨⟨by (first | omega | (simp only [lenS]; omega)), by (first | omega | (simp only [lenS]; omega))⟩, ?_⟩ | refine ⟨⟨by (first | omega | (simp only [lenS]; omega)), by (first | omega | (simp only [lenS]; omega)), by (first | omega | (simp only [lenS]; omega))⟩, ?_⟩ | refine ⟨.inl rfl, ?_⟩ | refine ⟨.inr (.inl (by (first | omega | (simp only [lenS]; omega)))), ?_⟩ | refine ⟨_, rfl, rfl, by (first | exact Nat.le_refl _ | exact Nat.le_of_ble_eq_true rfl | decide), ?_⟩ | refine ⟨_, rfl, by (first | exact Nat.le_refl _ | exact Nat.le_of_ble_eq_true rfl | decide), ?_⟩ | refine ⟨by (first | exact Nat.le_refl _ | exact Nat.le_of_ble_eq_true rfl | decide | exact rfl), ?_⟩ | refine ⟨show _ ≤ (9223372036854775807 : Nat) by (first | omega | (simp only [lenS]; omega)), ?_⟩ | refine ⟨show _ ≠ (0 : Int) by (first | omega | (simp only [lenS]; omega)), ?_⟩ | refine ⟨_, rfl, _, rfl, ?_⟩ | refine ⟨_, by assumption, Nat.le_of_ble_eq_true rfl, ?_⟩ | refine ⟨_, by assumption, _, rfl, ?_⟩ | refine ⟨_, rfl, ?_⟩ | fail)
    exact ⟨.tup [], B3 vs2 o2 r2 _ _, fin_mv [.old 7, .old 8, .old 9] rfl rfl rfl ⟨⟨rfl, rfl⟩, ⟨rfl, .inl ⟨rfl, dataA_pure _⟩⟩, ⟨rfl, .inr (openR_rel rfl _ _ _)⟩, ⟨rfl, .inr ⟨⟨⟨rfl, rfl, rfl⟩, rfl, rfl, trivial⟩, trivial⟩⟩, trivial⟩ trivial, rfl, _, _, vs2, q1, q2, rfl⟩
  have hop : openB nm s.ops = false := by simpa using hop
  have hcl : closeO nm s.ops = s.ops := by unfold closeO; rw [if_neg (by rw [hop]; decide)]
  by_cases hp : nm = [112]
  · refine share ⟨closeO nm (startS nm [] s).ops, (startS nm [] s).cnt, (startS nm [] s).full⟩ (by unfold endS; rw [if_neg (by rw [hop]; decide), if_pos hp]) ?_
    refine fn_okTE Try.wf Try.tab_ok Try.func40 (by decide +kernel) rfl rfl ?_
    refine E.fm (s' := [(0, .ref 0 0 0), (1, .d (.str nm))]) (σ' := B3 vs o r s.cnt s.full) (B_up vs o r _ _ ⟨⟨rfl, rfl, rfl⟩, rfl, trivial⟩) ?_
    refine E.of Try.wf Try.tab_ok ?_
    refine hm1.use (vs := vs) 4 5 6 7 8 9 10 ho hv rfl rfl rfl rfl rfl rfl rfl rfl rfl rfl ⟨⟨rfl, rfl, rfl⟩, rfl, trivial⟩ fun o2 r2 vs2 q1 q2 => ?_
    rw [hop]
    dsimp only at q1
    rw [hcl] at q1
    repeat' (first |                        refine ⟨fun _ => ?_, fun h => absurd h (by decide)⟩ | refine ⟨fun h => absurd h (by decide), fun _ => ?_⟩ | (refine ⟨fun h => ?_, fun h => ?_⟩ <;> (try simp only [decide_eq_true_eq, decide_eq_false_iff_not, Bool.not_eq_true', Bool.not_eq_false', Bool.not_eq_true, Bool.not_eq_false, not_true_eq_false, beq_iff_eq, beq_eq_false_iff_ne, ne_eq, decide_eq_decide, true_iff, false_iff, iff_true, iff_false, true_and, and_true, false_or, or_false, Bool.and_true, Bool.and_eq_true, Bool.and_eq_false_iff, Bool.or_eq_true, Bool.or_eq_false_iff, List.length_cons, List.length_nil] at h) <;> (try (exfalso; first | omega | exact h rfl | (cases h; done) | exact absurd h (by assumption) | exact h (by assumption) | (simp at h; done)))) | refine ⟨⟨by (first | omega | (simp only [lenS]; omega)), by (first | omega | (simp only [lenS]; omega))⟩, _, by assumption, by rfl, ?_⟩ | refine .inl ⟨⟨by (first | omega | (simp only [lenS]; omega)), by (first | omega | (simp only [lenS]; omega))⟩, ?_⟩ | refine ⟨⟨by (first | omega | (simp only [lenS]; omega)), by (first | omega | (simp only [lenS]; omega))⟩, ?_⟩ | refine ⟨⟨by (first | omega | (simp only [lenS]; omega)), by (first | omega | (simp only [lenS]; omega)), by (first | omega | (simp only [lenS]; omega))⟩, ?_⟩ | refine ⟨.inl rfl, ?_⟩ | refine ⟨.inr (.inl (by (first | omega | (simp only [lenS]; omega)))), ?_⟩ | refine ⟨_, rfl, rfl, by (first | exact Nat.le_refl _ | exact Nat.le_of_ble_eq_true rfl | decide), ?_⟩ | refine ⟨_, rfl, by (first | exact Nat.le_refl _ | exact Nat.le_of_ble_eq_true rfl | decide), ?_⟩ | refine ⟨by (first | exact Nat.le_refl _ | exact Nat.le_of_ble_eq_true rfl | decide | exact rfl), ?_⟩ | refine ⟨show _ ≤ (9223372036854775807 : Nat) by (first | omega | (simp only [lenS]; omega)), ?_⟩ | refine ⟨show _ ≠ (0 : Int) by (first | omega | (simp only [lenS]; omega)), ?_⟩ | refine ⟨_, rfl, _, rfl, ?_⟩ | refine ⟨_, by assumption, Nat.le_of_ble_eq_true rfl, ?_⟩ | refine ⟨_, by assumption, _, rfl, ?_⟩ | refine ⟨_, rfl, ?_⟩ | fail)
    · refine hm2.use (vs := vs2) 7 8 9 10 11 12 13 q1 q2 rfl rfl rfl rfl rfl rfl rfl rfl rfl rfl ⟨⟨rfl, rfl, rfl⟩, rfl, rfl, trivial⟩ fun o3 r3 vs3 q3 q4 => ?_
      refine hm3.use (vs := vs3) 10 11 12 13 14 15 16 q3 q4 rfl rfl rfl rfl rfl rfl rfl rfl rfl rfl ⟨⟨rfl, rfl, rfl⟩, rfl, trivial⟩ fun o4 r4 vs4 q5 q6 => ?_
      exact ⟨.tup [], B3 vs4 o4 r4 _ _, fin_mv [.old 13, .old 14, .old 15] rfl rfl rfl ⟨⟨rfl, rfl⟩, ⟨rfl, .inl ⟨rfl, dataA_pure _⟩⟩, ⟨rfl, .inr (openR_rel rfl _ _ _)⟩, ⟨rfl, .inr ⟨⟨⟨rfl, rfl, rfl⟩, rfl, rfl, trivial⟩, trivial⟩⟩, trivial⟩ trivial, rfl, _, _, vs4, q5, q6, rfl⟩
    all_goals exact absurd hp (by assumption)
  by_cases hb : nm = [98, 114]
  · refine share (startS nm [] s) (by unfold endS; rw [if_neg (by rw [hop]; decide), if_neg hp, if_pos hb]) ?_
    refine fn_okTE Try.wf Try.tab_ok Try.func40 (by decide +kernel) rfl rfl ?_
    refine E.fm (s' := [(0, .ref 0 0 0), (1, .d (.str nm))]) (σ' := B3 vs o r s.cnt s.full) (B_up vs o r _ _ ⟨⟨rfl, rfl, rfl⟩, rfl, trivial⟩) ?_
    refine E.of Try.wf Try.tab_ok ?_
    refine hm1.use (vs := vs) 4 5 6 7 8 9 10 ho hv rfl rfl rfl rfl rfl rfl rfl rfl rfl rfl ⟨⟨rfl, rfl, rfl⟩, rfl, trivial⟩ fun o2 r2 vs2 q1 q2 => ?_
    rw [hop]
    dsimp only at q1
    rw [hcl] at q1
    repeat' (first |                        refine ⟨fun _ => ?_, fun h => absurd h (by decide)⟩ | refine ⟨fun h => absurd h (by decide), fun _ => ?_⟩ | (refine ⟨fun h => ?_, fun h => ?_⟩ <;> (try simp only [decide_eq_true_eq, decide_eq_false_iff_not, Bool.not_eq_true', Bool.not_eq_false', Bool.not_eq_true, Bool.not_eq_false, not_true_eq_false, beq_iff_eq, beq_eq_false_iff_ne, ne_eq, decide_eq_decide, true_iff, false_iff, iff_true, iff_false, true_and, and_true, false_or, or_false, Bool.and_true, Bool.and_eq_true, Bool.and_eq_false_iff, Bool.or_eq_true, Bool.or_eq_false_iff, List.length_cons, List.length_nil] at h) <;> (try (exfalso; first | omega | exact h rfl | (cases h; done) | exact absurd h (by assumption) | exact h (by assumption) | (simp at h; done)))) | refine ⟨⟨by (first | omega | (simp only [lenS]; omega)), by (first | omega | (simp only [lenS]; omega))⟩, _, by assumption, by rfl, ?_⟩ | refine .inl ⟨⟨by (first | omega | (simp only [lenS]; omega)), by (first | omega | (simp only [lenS]; omega))⟩, ?_⟩ | refine ⟨⟨by (first | omega | (simp only [lenS]; omega)), by (first | omega | (simp only [lenS]; omega))⟩, ?_⟩ | refine ⟨⟨by (first | omega | (simp only [lenS]; omega)), by (first | omega | (simp only [lenS]; omega)), by (first | omega | (simp only [lenS]; omega))⟩, ?_⟩ | refine ⟨.inl rfl, ?_⟩ | refine ⟨.inr (.inl (by (first | omega | (simp only [lenS]; omega)))), ?_⟩ | refine ⟨_, rfl, rfl, by (first | exact Nat.le_refl _ | exact Nat.le_of_ble_eq_true rfl | decide), ?_⟩ | refine ⟨_, rfl, by (first | exact Nat.le_refl _ | exact Nat.le_of_ble_eq_true rfl | decide), ?_⟩ | refine ⟨by (first | exact Nat.le_refl _ | exact Nat.le_of_ble_eq_true rfl | decide | exact rfl), ?_⟩ | refine ⟨show _ ≤ (9223372036854775807 : Nat) by (first | omega | (simp only [lenS]; omega)), ?_⟩ | refine ⟨show _ ≠ (0 : Int) by (first | omega | (simp only [lenS]; omega)), ?_⟩ | refine ⟨_, rfl, _, rfl, ?_⟩ | refine ⟨_, by assumption, Nat.le_of_ble_eq_true rfl, ?_⟩ | refine ⟨_, by assumption, _, rfl, ?_⟩ | refine ⟨_, rfl, ?_⟩ | fail)
    · refine hm2.use (vs := vs2) 7 8 9 10 11 12 13 q1 q2 rfl rfl rfl rfl rfl rfl rfl rfl rfl rfl ⟨⟨rfl, rfl, rfl⟩, rfl, rfl, trivial⟩ fun o3 r3 vs3 q3 q4 => ?_
      exact ⟨.tup [], B3 vs3 o3 r3 _ _, fin_mv [.old 10, .old 11, .old 12] rfl rfl rfl ⟨⟨rfl, rfl⟩, ⟨rfl, .inl ⟨rfl, dataA_pure _⟩⟩, ⟨rfl, .inr (openR_rel rfl _ _ _)⟩, ⟨rfl, .inr ⟨⟨⟨rfl, rfl, rfl⟩, rfl, rfl, trivial⟩, trivial⟩⟩, trivial⟩ trivial, rfl, _, _, vs3, q3, q4, rfl⟩
    all_goals first | exact absurd (by assumption) hp | exact absurd hb (by assumption)
  · refine share s (by unfold endS; rw [if_neg (by rw [hop]; decide), if_neg hp, if_neg hb]) ?_
    refine fn_okTE Try.wf Try.tab_ok Try.func40 (by decide +kernel) rfl rfl ?_
    refine E.fm (s' := [(0, .ref 0 0 0), (1, .d (.str nm))]) (σ' := B3 vs o r s.cnt s.full) (B_up vs o r _ _ ⟨⟨rfl, rfl, rfl⟩, rfl, trivial⟩) ?_
    refine E.of Try.wf Try.tab_ok ?_
    refine hm1.use (vs := vs) 4 5 6 7 8 9 10 ho hv rfl rfl rfl rfl rfl rfl rfl rfl rfl rfl ⟨⟨rfl, rfl, rfl⟩, rfl, trivial⟩ fun o2 r2 vs2 q1 q2 => ?_
    rw [hop]
    dsimp only at q1
    rw [hcl] at q1
    repeat' (first |                        refine ⟨fun _ => ?_, fun h => absurd h (by decide)⟩ | refine ⟨fun h => absurd h (by decide), fun _ => ?_⟩ | (refine ⟨fun h => ?_, fun h => ?_⟩ <;> (try simp only [decide_eq_true_eq, decide_eq_false_iff_not, Bool.not_eq_true', Bool.not_eq_false', Bool.not_eq_true, Bool.not_eq_false, not_true_eq_false, beq_iff_eq, beq_eq_false_iff_ne, ne_eq, decide_eq_decide, true_iff, false_iff, iff_true, iff_false, true_and, and_true, false_or, or_false, Bool.and_true, Bool.and_eq_true, Bool.and_eq_false_iff, Bool.or_eq_true, Bool.or_eq_false_iff, List.length_cons, List.length_nil] at h) <;> (try (exfalso; first | omega | exact h rfl | (cases h; done) | exact absurd h (by assumption) | exact h (by assumption) | (simp at h; done)))) | refine ⟨⟨by (first | omega | (simp only [lenS]; omega)), by (first | omega | (simp only [lenS]; omega))⟩, _, by assumption, by rfl, ?_⟩ | refine .inl ⟨⟨by (first | omega | (simp only [lenS]; omega)), by (first | omega | (simp only [lenS]; omega))⟩, ?_⟩ | refine ⟨⟨by (first | omega | (simp only [lenS]; omega)), by (first | omega | (simp only [lenS]; omega))⟩, ?_⟩ | refine ⟨⟨by (first | omega | (simp only [lenS]; omega)), by (first | omega | (simp only [lenS]; omega)), by (first | omega | (simp only [lenS]; omega))⟩, ?_⟩ | refine ⟨.inl rfl, ?_⟩ | refine ⟨.inr (.inl (by (first | omega | (simp only [lenS]; omega)))), ?_⟩ | refine ⟨_, rfl, rfl, by (first | exact Nat.le_refl _ | exact Nat.le_of_ble_eq_true rfl | decide), ?_⟩ | refine ⟨_, rfl, by (first | exact Nat.le_refl _ | exact Nat.le_of_ble_eq_true rfl | decide), ?_⟩ | refine ⟨by (first | exact Nat.le_refl _ | exact Nat.le_of_ble_eq_true rfl | decide | exact rfl), ?_⟩ | refine ⟨show _ ≤ (9223372036854775807 : Nat) by (first | omega | (simp only [lenS]; omega)), ?_⟩ | refine ⟨show _ ≠ (0 : Int) by (first | omega | (simp only [lenS]; omega)), ?_⟩ | refine ⟨_, rfl, _, rfl, ?_⟩ | refine ⟨_, by assumption, Nat.le_of_ble_eq_true rfl, ?_⟩ | refine ⟨_, by assumption, _, rfl, ?_⟩ | refine ⟨_, rfl, ?_⟩ | fail)
    exact ⟨.tup [], B3 vs2 o2 r2 _ _, fin_mv [.old 7, .old 8, .old 9] rfl rfl rfl ⟨⟨rfl, rfl⟩, ⟨rfl, .inl ⟨rfl, dataA_pure _⟩⟩, ⟨rfl, .inr (openR_rel rfl _ _ _)⟩, ⟨rfl, .inr ⟨⟨⟨rfl, rfl, rfl⟩, rfl, rfl, trivial⟩, trivial⟩⟩, trivial⟩ trivial, rfl, _, _, vs2, q1, q2, rfl⟩
end Go.Proofs.Ytcmkiancbgmmhaa

namespace Go.Proofs.Ytcmkiancbgmmhaa
open Go.Aw
set_option maxHeartbeats 1600000
set_option linter.unusedSimpArgs false
set_option linter.unusedVariables false
/-- The texts in a builder are no longer than that. -/
def txB (X : Nat) (ops : List Op) : Prop := ∀ o ∈ ops, ∀ n ∈ o.2.2, n.text.length ≤ X
theorem txB_mono {X Y : Nat} {ops : List Op} (h : txB X ops) (hl : X ≤ Y) : txB Y ops := fun o ho n hn => Nat.le_trans (h o ho n hn) hl
theorem putO_tx {X : Nat} (n : Node) (hn : n.text.length ≤ X) : ∀ {ops : List Op}, txB X ops → txB X (putO n ops)
  | [], h => h
  | (a, b, k) :: r, h => fun o ho m hm => by
    rcases List.mem_cons.1 ho with rfl | ho
    · rcases List.mem_append.1 hm with hm | hm
      · exact h (a, b, k) (by simp) m hm
      · rw [List.mem_singleton.1 hm]; exact hn
    · exact h o (by simp [ho]) m hm
theorem shutO_tx {X : Nat} : ∀ {ops : List Op}, txB X ops → txB X (shutO ops)
  | [], h => h
  | (a, b, k) :: r, h => putO_tx (ops := r) (.mk a b [] k) (Nat.zero_le _) fun o ho => h o (by simp [ho])
theorem closeF_tx {X : Nat} (nm : List UInt8) : ∀ (n : Nat) {ops : List Op}, txB X ops → txB X (closeF nm n ops)
  | 0, _, h => h
  | n + 1, [], h => h
  | n + 1, [_], h => h
  | n + 1, o :: p :: r, h => by
    rw [closeF]
    split
    · exact shutO_tx h
    · exact closeF_tx nm n (shutO_tx h)
theorem closeO_tx {X : Nat} (nm : List UInt8) {ops : List Op} (h : txB X ops) : txB X (closeO nm ops) := by
  unfold closeO
  split
  · exact closeF_tx nm _ h
  · exact h
theorem startO_tx {X : Nat} (nm : List UInt8) {ops : List Op} (h0 : txB X ops) : txB X (startO nm ops) := by
  show txB X (if nm = [108, 105] ∧ liB (if nm ∈ blocks then closeO [112] ops else ops) = true then closeO [108, 105] (if nm ∈ blocks then closeO [112] ops else ops) else (if nm ∈ blocks then closeO [112] ops else ops))
  have h : txB X (if nm ∈ blocks then closeO [112] ops else ops) := by
    split
    · exact closeO_tx _ h0
    · exact h0
  generalize (if nm ∈ blocks then closeO [112] ops else ops) = x at h ⊢
  split
  · exact closeO_tx _ h
  · exact h
theorem startS_tx {X : Nat} (nm : List UInt8) (ats : List Attr) {s : Bs} (h : txB X s.ops) : txB X (startS nm ats s).ops := by
  have h0 := startO_tx nm h
  show txB X (if nm ∈ voids then putO (.mk nm ats [] []) (startO nm s.ops) else (nm, ats, []) :: startO nm s.ops)
  split
  · exact putO_tx _ (Nat.zero_le _) h0
  · intro o ho
    rcases List.mem_cons.1 ho with rfl | ho
    · intro n hn; cases hn
    · exact h0 o ho
theorem endS_tx {X : Nat} (nm : List UInt8) {s : Bs} (h : txB X s.ops) : txB X (endS nm s).ops := by
  unfold endS
  split
  · exact closeO_tx _ h
  · split
    · exact closeO_tx _ (startS_tx nm [] h)
    · split
      · exact startS_tx nm [] h
      · exact h
theorem addText_tx {X : Nat} (x : List UInt8) : ∀ {ops : List Op}, txB X ops → txB (X + x.length) (addText x ops)
  | [], h => fun o ho => by cases ho
  | (a, b, k) :: r, h => by
    have hr : txB (X + x.length) r := fun o ho n hn => Nat.le_trans (h o (by simp [ho]) n hn) (Nat.le_add_right _ _)
    have hk : ∀ n ∈ k, n.text.length ≤ X := h (a, b, k) (by simp)
    cases hn : k.getLast? with
    | some n =>
      have e : addText x ((a, b, k) :: r) = (a, b, k.dropLast ++ [.mk n.name n.attrs (n.text ++ x) n.kids]) :: r := by simp only [addText, hn]
      have hn2 := hk n (List.mem_of_getLast? hn)
      rw [e]
      intro o ho m hm
      rcases List.mem_cons.1 ho with rfl | ho
      · rcases List.mem_append.1 hm with hm | hm
        · exact Nat.le_trans (hk m (List.dropLast_subset _ hm)) (Nat.le_add_right _ _)
        · rw [List.mem_singleton.1 hm]
          show (n.text ++ x).length ≤ _
          rw [List.length_append]; omega
      · exact hr o ho m hm
    | none =>
      have e : addText x ((a, b, k) :: r) = (a, b, k) :: r := by simp only [addText, hn]
      rw [e]
      exact txB_mono h (Nat.le_add_right _ _)
theorem textS_tx {X : Nat} (x : List UInt8) {s : Bs} (h : txB X s.ops) : txB (X + x.length) (textS x s).ops := by
  unfold textS
  split
  · exact txB_mono h (Nat.le_add_right _ _)
  · split
    · exact addText_tx x h
    · exact putO_tx (.mk [] [] x []) (by show x.length ≤ _; omega) (txB_mono h (Nat.le_add_right _ _))
theorem tokS_tx {X : Nat} (t : Tok) {s : Bs} (h : txB X s.ops) : txB (X + t.tx.length) (tokS t s).ops := by
  unfold tokS
  split
  · exact textS_tx _ h
  · split
    · exact txB_mono (startS_tx _ _ h) (Nat.le_add_right _ _)
    · split
      · exact txB_mono (endS_tx _ h) (Nat.le_add_right _ _)
      · exact txB_mono h (Nat.le_add_right _ _)
/-- No more than is counted. -/
def Inv (s : Bs) : Prop := totO s.ops ≤ s.cnt + 1
theorem addText_tot (x : List UInt8) : ∀ ops : List Op, totO (addText x ops) ≤ totO ops
  | [] => Nat.le_refl _
  | (a, b, k) :: r => by
    cases hn : k.getLast? with
    | some n =>
      have e : addText x ((a, b, k) :: r) = (a, b, k.dropLast ++ [.mk n.name n.attrs (n.text ++ x) n.kids]) :: r := by simp only [addText, hn]
      rw [e]
      have : k ≠ [] := fun e => by subst e; cases hn
      have hl := List.length_pos_iff.2 this
      simp only [totO, List.length_append, List.length_dropLast, List.length_cons, List.length_nil]; omega
    | none =>
      have e : addText x ((a, b, k) :: r) = (a, b, k) :: r := by simp only [addText, hn]
      rw [e]
      exact Nat.le_refl _
theorem startS_inv (nm : List UInt8) (ats : List Attr) {s : Bs} (h : Inv s) : Inv (startS nm ats s) := by
  have := startS_tot nm ats s
  unfold Inv at h ⊢
  show _ ≤ s.cnt + 1 + 1
  omega
theorem endS_inv (nm : List UInt8) {s : Bs} (h : Inv s) : Inv (endS nm s) := by
  unfold endS
  split
  · exact Nat.le_trans (closeO_tot _ _) h
  · split
    · exact Nat.le_trans (closeO_tot _ _) (startS_inv nm [] h)
    · split
      · exact startS_inv nm [] h
      · exact h
theorem textS_inv (x : List UInt8) {s : Bs} (h : Inv s) : Inv (textS x s) := by
  unfold textS
  split
  · exact h
  · split
    · exact Nat.le_trans (addText_tot _ _) h
    · have := putO_tot (.mk [] [] x []) s.ops
      unfold Inv at h ⊢
      show totO (putO _ s.ops) ≤ s.cnt + 1 + 1
      omega
theorem tokS_inv (t : Tok) {s : Bs} (h : Inv s) : Inv (tokS t s) := by
  unfold tokS
  split
  · exact textS_inv _ h
  · split
    · exact startS_inv _ _ h
    · split
      · exact endS_inv _ h
      · exact h
/-- Not too many. -/
def Few (s : Bs) : Prop := s.full = false → s.cnt ≤ 2000
theorem countS_few (s : Bs) : Few (countS s) := fun h => by
  unfold countS at h ⊢
  simp only [Bool.or_eq_false_iff, decide_eq_false_iff_not] at h
  dsimp only; omega
theorem endS_few (nm : List UInt8) {s : Bs} (h : Few s) : Few (endS nm s) := by
  unfold endS
  split
  · exact h
  · split
    · exact countS_few _
    · split
      · exact countS_few _
      · exact h
theorem textS_few (x : List UInt8) {s : Bs} (h : Few s) : Few (textS x s) := by
  unfold textS
  split
  · exact h
  · split
    · exact h
    · exact countS_few _
theorem tokS_few (t : Tok) {s : Bs} (h : Few s) : Few (tokS t s) := by
  unfold tokS
  split
  · exact textS_few _ h
  · split
    · exact countS_few _
    · split
      · exact endS_few _ h
      · exact h
/-- One element less. -/
theorem finO_step (o p : Op) (r : List Op) : finO (o :: p :: r).length (o :: p :: r) = finO (shutO (o :: p :: r)).length (shutO (o :: p :: r)) := by
  rw [shutO_len]
  show finO (r.length + 1 + 1) (o :: p :: r) = _
  rw [finO]
end Go.Proofs.Ytcmkiancbgmmhaa

namespace Go.Proofs.Ytcmkiancbgmmhaa
open Go.Aw
set_option maxHeartbeats 1600000
set_option linter.unusedSimpArgs false
set_option linter.unusedVariables false
/-- What dom.Build tells. -/
def builtA (T : List Tok) : AV := match buildL T with
  | some l => .tup [.d (.sl (nodesD l)), .d (.int .i64 0)]
  | none => .tup [.d (.sl []), .d (.int .i64 5)]
def txs (T : List Tok) : Nat := (T.map fun t => t.tx.length).sum
def start0 : Bs := ⟨[([], [], [])], 0, false⟩
theorem builtA_pure (T : List Tok) : (builtA T).pure = true := by unfold builtA; cases buildL T <;> rfl
theorem builtA_none {T : List Tok} (h : buildL T = none) : builtA T = .tup [.d (.sl []), .d (.int .i64 5)] := by unfold builtA; rw [h]
theorem builtA_some {T : List Tok} {l : List Node} (h : buildL T = some l) : builtA T = .tup [.d (.sl (nodesD l)), .d (.int .i64 0)] := by unfold builtA; rw [h]
theorem runS_none {T : List Tok} (h : runS T start0 = none) : buildL T = none := by unfold buildL; rw [show runS T ⟨[([], [], [])], 0, false⟩ = _ from h]; rfl
theorem runS_cons (t : Tok) (r : List Tok) (s : Bs) : runS (t :: r) s = if (tokS t s).full then none else runS r (tokS t s) := rfl
theorem tok_arg (t : Tok) : tokD t = [.int .i64 t.kd, .str t.nm, .sl (attrsD t.ats), .bool t.cl, .str t.tx] := rfl
set_option maxRecDepth 100000 in
theorem Build_ok (T : List Tok) (hT : T.length ≤ 1000000) (ha : ∀ t ∈ T, t.ats.length ≤ 1000000) (hx : txs T ≤ 1000000000000000) : PureC Try.prog 23 [.d (.sl (toksD T))] (builtA T) := by
  have hp := builtA_pure T
  refine pure_okT Try.wf Try.tab_ok Try.func23 (by decide +kernel) rfl rfl rfl hp ?_
  have hn := toksD_len T
  repeat' (first |                        refine ⟨fun _ => ?_, fun h => absurd h (by decide)⟩ | refine ⟨fun h => absurd h (by decide), fun _ => ?_⟩ | (refine ⟨fun h => ?_, fun h => ?_⟩ <;> (try simp only [decide_eq_true_eq, decide_eq_false_iff_not, Bool.not_eq_true', Bool.not_eq_false', Bool.not_eq_true, Bool.not_eq_false, not_true_eq_false, beq_iff_eq, beq_eq_false_iff_ne, ne_eq, decide_eq_decide, true_iff, false_iff, iff_true, iff_false, true_and, and_true, false_or, or_false, Bool.and_true, Bool.and_eq_true, Bool.and_eq_false_iff, Bool.or_eq_true, Bool.or_eq_false_iff, List.length_cons, List.length_nil] at h) <;> (try (exfalso; first | omega | exact h rfl | (cases h; done) | exact absurd h (by assumption) | exact h (by assumption) | (simp at h; done)))) | refine ⟨⟨by (first | omega | (simp only [lenS]; omega)), by (first | omega | (simp only [lenS]; omega))⟩, _, by assumption, by rfl, ?_⟩ | refine .inl ⟨⟨by (first | omega | (simp only [lenS]; omega)), by (first | omega | (simp only [lenS]; omega))⟩, ?_⟩ | refine ⟨⟨by (first | omega | (simp only [lenS]; omega)), by (first | omega | (simp only [lenS]; omega))⟩, ?_⟩ | refine ⟨⟨by (first | omega | (simp only [lenS]; omega)), by (first | omega | (simp only [lenS]; omega)), by (first | omega | (simp only [lenS]; omega))⟩, ?_⟩ | refine ⟨.inl rfl, ?_⟩ | refine ⟨.inr (.inl (by (first | omega | (simp only [lenS]; omega)))), ?_⟩ | refine ⟨_, rfl, rfl, by (first | exact Nat.le_refl _ | exact Nat.le_of_ble_eq_true rfl | decide), ?_⟩ | refine ⟨_, rfl, by (first | exact Nat.le_refl _ | exact Nat.le_of_ble_eq_true rfl | decide), ?_⟩ | refine ⟨by (first | exact Nat.le_refl _ | exact Nat.le_of_ble_eq_true rfl | decide | exact rfl), ?_⟩ | refine ⟨show _ ≤ (9223372036854775807 : Nat) by (first | omega | (simp only [lenS]; omega)), ?_⟩ | refine ⟨show _ ≠ (0 : Int) by (first | omega | (simp only [lenS]; omega)), ?_⟩ | refine ⟨_, rfl, _, rfl, ?_⟩ | refine ⟨_, by assumption, Nat.le_of_ble_eq_true rfl, ?_⟩ | refine ⟨_, by assumption, _, rfl, ?_⟩ | refine ⟨_, rfl, ?_⟩ | fail)
  refine E.fm (s' := [(4, .ref 1 0 0), (11, .d (.sl (toksD T))), (12, .d (.int .i64 ((toksD T).length : Nat))), (13, .d (.int .i64 0))]) (fin_kin0 (4, 29)) ?_
  refine loopT Try.wf Try.tab_ok (fun n s' σ => ∃ (k : Nat) (s : Bs) (o : Op) (r : List Op) (vs : List OV), n = T.length - k ∧ k ≤ T.length ∧ runS T start0 = runS (T.drop k) s ∧ Inv s ∧ Few s ∧ s.full = false ∧ txB (txs (T.take k)) s.ops ∧ s.ops = o :: r ∧ vs.length = r.length ∧
      s' = [(4, .ref 0 0 0), (11, .d (.sl (toksD T))), (12, .d (.int .i64 T.length)), (13, .d (.int .i64 k))] ∧ σ = B0 vs o r s.cnt s.full)
    ⟨0, start0, ([], [], []), [], [], rfl, Nat.zero_le _, rfl, Nat.le_refl _, fun _ => Nat.zero_le _, rfl, (fun o ho n hn => by rw [List.mem_singleton.1 ho] at hn; cases hn), rfl, rfl, rfl, rfl⟩
    (Mv.of [.old 1, .old 0, .phan 4, .old 2] rfl rfl rfl ⟨⟨rfl, rfl⟩, rfl, ⟨rfl, .inr ⟨⟨rfl, rfl, rfl, ⟨rfl, rfl, rfl⟩, rfl, trivial⟩, trivial⟩⟩, ⟨rfl, .inr ⟨⟨⟨rfl, rfl, rfl⟩, rfl, rfl, trivial⟩, trivial⟩⟩, trivial⟩ ⟨⟨rfl, rfl, rfl⟩, rfl, congrArg (fun n : Nat => D.int .i64 n) hn.symm, rfl, trivial⟩) ?_
  rintro _ _ _ ⟨k, s, o, r, vs, rfl, hk, hrun, hinv, hfew, hful, htx, ho, hv, rfl, rfl⟩
  obtain ⟨ops, c, f⟩ := s
  dsimp only at ho hful htx
  subst ho
  subst hful
  have hc : c ≤ 2000 := hfew rfl
  have htot : totO (o :: r) ≤ 2001 := by have : totO (o :: r) ≤ c + 1 := hinv; omega
  refine ⟨fun h => ?_, fun h => ?_⟩
  · have hlt : k < T.length := by have := of_decide_eq_true h; omega
    clear h
    have hg := toksD_get T k hlt
    rw [tok_arg] at hg
    have hmem : T[k] ∈ T := List.getElem_mem hlt
    have hat := ha _ hmem
    have htk : txs (T.take (k + 1)) = txs (T.take k) + T[k].tx.length := by
      unfold txs; rw [List.take_succ_eq_append_getElem hlt, List.map_append, List.sum_append]; simp
    have htl : txs (T.take (k + 1)) ≤ txs T := by
      have : txs T = txs (T.take (k + 1)) + txs (T.drop (k + 1)) := by
        conv => lhs; rw [← List.take_append_drop (k + 1) T]
        simp only [txs, List.map_append, List.sum_append]
      omega
    rw [List.drop_eq_getElem_cons hlt, runS_cons] at hrun
    have hinv2 := tokS_inv T[k] hinv
    have hfew2 := tokS_few T[k] hfew
    have htx2 := tokS_tx T[k] (s := ⟨o :: r, c, false⟩) htx
    rw [← htk] at htx2
    repeat' (first |                        refine ⟨fun _ => ?_, fun h => absurd h (by decide)⟩ | refine ⟨fun h => absurd h (by decide), fun _ => ?_⟩ | (refine ⟨fun h => ?_, fun h => ?_⟩ <;> (try simp only [decide_eq_true_eq, decide_eq_false_iff_not, Bool.not_eq_true', Bool.not_eq_false', Bool.not_eq_true, Bool.not_eq_false, not_true_eq_false, beq_iff_eq, beq_eq_false_iff_ne, ne_eq, decide_eq_decide, true_iff, false_iff, iff_true, iff_false, true_and, and_true, false_or, or_false, Bool.and_true, Bool.and_eq_true, Bool.and_eq_false_iff, Bool.or_eq_true, Bool.or_eq_false_iff, List.length_cons, List.length_nil] at h) <;> (try (exfalso; first | omega | exact h rfl | (cases h; done) | exact absurd h (by assumption) | exact h (by assumption) | (simp at h; done)))) | refine ⟨⟨by (first | omega | (simp only [lenS]; omega)), by (first | omega | (simp only [lenS]; omega))⟩, _, by assumption, by rfl, ?_⟩ | refine .inl ⟨⟨by (first | omega | (simp only [lenS]; omega)), by (first | omega | (simp only [lenS]; omega))⟩, ?_⟩ | refine ⟨⟨by (first | omega | (simp only [lenS]; omega)), by (first | omega | (simp only [lenS]; omega))⟩, ?_⟩ | refine ⟨⟨by (first | omega | (simp only [lenS]; omega)), by (first | omega | (simp only [lenS]; omega)), by (first | omega | (simp only [lenS]; omega))⟩, ?_⟩ | refine ⟨.inl rfl, ?_⟩ | refine ⟨.inr (.inl (by (first | omega | (simp only [lenS]; omega)))), ?_⟩ | refine ⟨_, rfl, rfl, by (first | exact Nat.le_refl _ | exact Nat.le_of_ble_eq_true rfl | decide), ?_⟩ | refine ⟨_, rfl, by (first | exact Nat.le_refl _ | exact Nat.le_of_ble_eq_true rfl | decide), ?_⟩ | refine ⟨by (first | exact Nat.le_refl _ | exact Nat.le_of_ble_eq_true rfl | decide | exact rfl), ?_⟩ | refine ⟨show _ ≤ (9223372036854775807 : Nat) by (first | omega | (simp only [lenS]; omega)), ?_⟩ | refine ⟨show _ ≠ (0 : Int) by (first | omega | (simp only [lenS]; omega)), ?_⟩ | refine ⟨_, rfl, _, rfl, ?_⟩ | refine ⟨_, by assumption, Nat.le_of_ble_eq_true rfl, ?_⟩ | refine ⟨_, by assumption, _, rfl, ?_⟩ | refine ⟨_, rfl, ?_⟩ | fail)
    · have e : tokS T[k] ⟨o :: r, c, false⟩ = textS T[k].tx ⟨o :: r, c, false⟩ := by unfold tokS; rw [if_pos (by assumption)]
      have hm := text_ok2 T[k].tx ⟨o :: r, c, false⟩ (show totO (o :: r) ≤ _ by omega) (show c ≤ _ by omega) (fun o' ho' n hn' => by have := htx o' ho' n hn'; omega)
      rw [← e] at hm
      refine hm.use (vs := vs) 1 2 3 5 6 7 8 rfl hv rfl rfl rfl rfl rfl rfl rfl rfl rfl rfl ⟨⟨rfl, rfl, rfl⟩, rfl, trivial⟩ fun o2 r2 vs2 q1 q2 => ?_
      repeat' (first |                        refine ⟨fun _ => ?_, fun h => absurd h (by decide)⟩ | refine ⟨fun h => absurd h (by decide), fun _ => ?_⟩ | (refine ⟨fun h => ?_, fun h => ?_⟩ <;> (try simp only [decide_eq_true_eq, decide_eq_false_iff_not, Bool.not_eq_true', Bool.not_eq_false', Bool.not_eq_true, Bool.not_eq_false, not_true_eq_false, beq_iff_eq, beq_eq_false_iff_ne, ne_eq, decide_eq_decide, true_iff, false_iff, iff_true, iff_false, true_and, and_true, false_or, or_false, Bool.and_true, Bool.and_eq_true, Bool.and_eq_false_iff, Bool.or_eq_true, Bool.or_eq_false_iff, List.length_cons, List.length_nil] at h) <;> (try (exfalso; first | omega | exact h rfl | (cases h; done) | exact absurd h (by assumption) | exact h (by assumption) | (simp at h; done)))) | refine ⟨⟨by (first | omega | (simp only [lenS]; omega)), by (first | omega | (simp only [lenS]; omega))⟩, _, by assumption, by rfl, ?_⟩ | refine .inl ⟨⟨by (first | omega | (simp only [lenS]; omega)), by (first | omega | (simp only [lenS]; omega))⟩, ?_⟩ | refine ⟨⟨by (first | omega | (simp only [lenS]; omega)), by (first | omega | (simp only [lenS]; omega))⟩, ?_⟩ | refine ⟨⟨by (first | omega | (simp only [lenS]; omega)), by (first | omega | (simp only [lenS]; omega)), by (first | omega | (simp only [lenS]; omega))⟩, ?_⟩ | refine ⟨.inl rfl, ?_⟩ | refine ⟨.inr (.inl (by (first | omega | (simp only [lenS]; omega)))), ?_⟩ | refine ⟨_, rfl, rfl, by (first | exact Nat.le_refl _ | exact Nat.le_of_ble_eq_true rfl | decide), ?_⟩ | refine ⟨_, rfl, by (first | exact Nat.le_refl _ | exact Nat.le_of_ble_eq_true rfl | decide), ?_⟩ | refine ⟨by (first | exact Nat.le_refl _ | exact Nat.le_of_ble_eq_true rfl | decide | exact rfl), ?_⟩ | refine ⟨show _ ≤ (9223372036854775807 : Nat) by (first | omega | (simp only [lenS]; omega)), ?_⟩ | refine ⟨show _ ≠ (0 : Int) by (first | omega | (simp only [lenS]; omega)), ?_⟩ | refine ⟨_, rfl, _, rfl, ?_⟩ | refine ⟨_, by assumption, Nat.le_of_ble_eq_true rfl, ?_⟩ | refine ⟨_, by assumption, _, rfl, ?_⟩ | refine ⟨_, rfl, ?_⟩ | fail)
      · rw [if_pos h] at hrun
        exact ⟨.tup [.d (.sl []), .d (.int .i64 5)], ⟨0, []⟩, fin_mv [] rfl rfl rfl trivial ⟨rfl, rfl, trivial⟩, (builtA_none (runS_none hrun)).symm⟩
      · have hf2 : (tokS T[k] ⟨o :: r, c, false⟩).full = false := by simpa using h
        rw [if_neg (by rw [hf2]; decide)] at hrun
        exact ⟨_, _, _, ⟨k + 1, tokS T[k] ⟨o :: r, c, false⟩, o2, r2, vs2, rfl, hlt, hrun, hinv2, hfew2, hf2, htx2, q1, q2, rfl, rfl⟩, by omega, Mv.of [.old 0, .old 5, .old 6, .old 7] rfl rfl rfl ⟨⟨rfl, rfl⟩, ⟨rfl, .inl ⟨rfl, dataA_pure _⟩⟩, ⟨rfl, .inr (openR_rel rfl _ _ _)⟩, ⟨rfl, .inr ⟨⟨⟨rfl, rfl, rfl⟩, rfl, rfl, trivial⟩, trivial⟩⟩, trivial⟩ ⟨⟨rfl, rfl, rfl⟩, rfl, rfl, rfl, trivial⟩⟩
    · have e : tokS T[k] ⟨o :: r, c, false⟩ = startS T[k].nm T[k].ats ⟨o :: r, c, false⟩ := by unfold tokS; rw [if_neg (by assumption), if_pos (by assumption)]
      have hm := start_ok T[k].nm T[k].ats ⟨o :: r, c, false⟩ (show totO (o :: r) ≤ _ by omega) (show c ≤ _ by omega) hat
      rw [← e] at hm
      refine hm.use (vs := vs) 1 2 3 5 6 7 8 rfl hv rfl rfl rfl rfl rfl rfl rfl rfl rfl rfl ⟨⟨rfl, rfl, rfl⟩, rfl, rfl, trivial⟩ fun o2 r2 vs2 q1 q2 => ?_
      repeat' (first |                        refine ⟨fun _ => ?_, fun h => absurd h (by decide)⟩ | refine ⟨fun h => absurd h (by decide), fun _ => ?_⟩ | (refine ⟨fun h => ?_, fun h => ?_⟩ <;> (try simp only [decide_eq_true_eq, decide_eq_false_iff_not, Bool.not_eq_true', Bool.not_eq_false', Bool.not_eq_true, Bool.not_eq_false, not_true_eq_false, beq_iff_eq, beq_eq_false_iff_ne, ne_eq, decide_eq_decide, true_iff, false_iff, iff_true, iff_false, true_and, and_true, false_or, or_false, Bool.and_true, Bool.and_eq_true, Bool.and_eq_false_iff, Bool.or_eq_true, Bool.or_eq_false_iff, List.length_cons, List.length_nil] at h) <;> (try (exfalso; first | omega | exact h rfl | (cases h; done) | exact absurd h (by assumption) | exact h (by assumption) | (simp at h; done)))) | refine ⟨⟨by (first | omega | (simp only [lenS]; omega)), by (first | omega | (simp only [lenS]; omega))⟩, _, by assumption, by rfl, ?_⟩ | refine .inl ⟨⟨by (first | omega | (simp only [lenS]; omega)), by (first | omega | (simp only [lenS]; omega))⟩, ?_⟩ | refine ⟨⟨by (first | omega | (simp only [lenS]; omega)), by (first | omega | (simp only [lenS]; omega))⟩, ?_⟩ | refine ⟨⟨by (first | omega | (simp only [lenS]; omega)), by (first | omega | (simp only [lenS]; omega)), by (first | omega | (simp only [lenS]; omega))⟩, ?_⟩ | refine ⟨.inl rfl, ?_⟩ | refine ⟨.inr (.inl (by (first | omega | (simp only [lenS]; omega)))), ?_⟩ | refine ⟨_, rfl, rfl, by (first | exact Nat.le_refl _ | exact Nat.le_of_ble_eq_true rfl | decide), ?_⟩ | refine ⟨_, rfl, by (first | exact Nat.le_refl _ | exact Nat.le_of_ble_eq_true rfl | decide), ?_⟩ | refine ⟨by (first | exact Nat.le_refl _ | exact Nat.le_of_ble_eq_true rfl | decide | exact rfl), ?_⟩ | refine ⟨show _ ≤ (9223372036854775807 : Nat) by (first | omega | (simp only [lenS]; omega)), ?_⟩ | refine ⟨show _ ≠ (0 : Int) by (first | omega | (simp only [lenS]; omega)), ?_⟩ | refine ⟨_, rfl, _, rfl, ?_⟩ | refine ⟨_, by assumption, Nat.le_of_ble_eq_true rfl, ?_⟩ | refine ⟨_, by assumption, _, rfl, ?_⟩ | refine ⟨_, rfl, ?_⟩ | fail)
      · rw [if_pos h] at hrun
        exact ⟨.tup [.d (.sl []), .d (.int .i64 5)], ⟨0, []⟩, fin_mv [] rfl rfl rfl trivial ⟨rfl, rfl, trivial⟩, (builtA_none (runS_none hrun)).symm⟩
      · have hf2 : (tokS T[k] ⟨o :: r, c, false⟩).full = false := by simpa using h
        rw [if_neg (by rw [hf2]; decide)] at hrun
        exact ⟨_, _, _, ⟨k + 1, tokS T[k] ⟨o :: r, c, false⟩, o2, r2, vs2, rfl, hlt, hrun, hinv2, hfew2, hf2, htx2, q1, q2, rfl, rfl⟩, by omega, Mv.of [.old 0, .old 5, .old 6, .old 7] rfl rfl rfl ⟨⟨rfl, rfl⟩, ⟨rfl, .inl ⟨rfl, dataA_pure _⟩⟩, ⟨rfl, .inr (openR_rel rfl _ _ _)⟩, ⟨rfl, .inr ⟨⟨⟨rfl, rfl, rfl⟩, rfl, rfl, trivial⟩, trivial⟩⟩, trivial⟩ ⟨⟨rfl, rfl, rfl⟩, rfl, rfl, rfl, trivial⟩⟩
    · have e : tokS T[k] ⟨o :: r, c, false⟩ = endS T[k].nm ⟨o :: r, c, false⟩ := by unfold tokS; rw [if_neg (by assumption), if_neg (by assumption), if_pos (by assumption)]
      have hm := end_ok T[k].nm ⟨o :: r, c, false⟩ (show totO (o :: r) ≤ _ by omega) (show c ≤ _ by omega)
      rw [← e] at hm
      refine hm.use (vs := vs) 1 2 3 5 6 7 8 rfl hv rfl rfl rfl rfl rfl rfl rfl rfl rfl rfl ⟨⟨rfl, rfl, rfl⟩, rfl, trivial⟩ fun o2 r2 vs2 q1 q2 => ?_
      repeat' (first |                        refine ⟨fun _ => ?_, fun h => absurd h (by decide)⟩ | refine ⟨fun h => absurd h (by decide), fun _ => ?_⟩ | (refine ⟨fun h => ?_, fun h => ?_⟩ <;> (try simp only [decide_eq_true_eq, decide_eq_false_iff_not, Bool.not_eq_true', Bool.not_eq_false', Bool.not_eq_true, Bool.not_eq_false, not_true_eq_false, beq_iff_eq, beq_eq_false_iff_ne, ne_eq, decide_eq_decide, true_iff, false_iff, iff_true, iff_false, true_and, and_true, false_or, or_false, Bool.and_true, Bool.and_eq_true, Bool.and_eq_false_iff, Bool.or_eq_true, Bool.or_eq_false_iff, List.length_cons, List.length_nil] at h) <;> (try (exfalso; first | omega | exact h rfl | (cases h; done) | exact absurd h (by assumption) | exact h (by assumption) | (simp at h; done)))) | refine ⟨⟨by (first | omega | (simp only [lenS]; omega)), by (first | omega | (simp only [lenS]; omega))⟩, _, by assumption, by rfl, ?_⟩ | refine .inl ⟨⟨by (first | omega | (simp only [lenS]; omega)), by (first | omega | (simp only [lenS]; omega))⟩, ?_⟩ | refine ⟨⟨by (first | omega | (simp only [lenS]; omega)), by (first | omega | (simp only [lenS]; omega))⟩, ?_⟩ | refine ⟨⟨by (first | omega | (simp only [lenS]; omega)), by (first | omega | (simp only [lenS]; omega)), by (first | omega | (simp only [lenS]; omega))⟩, ?_⟩ | refine ⟨.inl rfl, ?_⟩ | refine ⟨.inr (.inl (by (first | omega | (simp only [lenS]; omega)))), ?_⟩ | refine ⟨_, rfl, rfl, by (first | exact Nat.le_refl _ | exact Nat.le_of_ble_eq_true rfl | decide), ?_⟩ | refine ⟨_, rfl, by (first | exact Nat.le_refl _ | exact Nat.le_of_ble_eq_true rfl | decide), ?_⟩ | refine ⟨by (first | exact Nat.le_refl _ | exact Nat.le_of_ble_eq_true rfl | decide | exact rfl), ?_⟩ | refine ⟨show _ ≤ (9223372036854775807 : Nat) by (first | omega | (simp only [lenS]; omega)), ?_⟩ | refine ⟨show _ ≠ (0 : Int) by (first | omega | (simp only [lenS]; omega)), ?_⟩ | refine ⟨_, rfl, _, rfl, ?_⟩ | refine ⟨_, by assumption, Nat.le_of_ble_eq_true rfl, ?_⟩ | refine ⟨_, by assumption, _, rfl, ?_⟩ | refine ⟨_, rfl, ?_⟩ | fail)
      · rw [if_pos h] at hrun
        exact ⟨.tup [.d (.sl []), .d (.int .i64 5)], ⟨0, []⟩, fin_mv [] rfl rfl rfl trivial ⟨rfl, rfl, trivial⟩, (builtA_none (runS_none hrun)).symm⟩
      · have hf2 : (tokS T[k] ⟨o :: r, c, false⟩).full = false := by simpa using h
        rw [if_neg (by rw [hf2]; decide)] at hrun
        exact ⟨_, _, _, ⟨k + 1, tokS T[k] ⟨o :: r, c, false⟩, o2, r2, vs2, rfl, hlt, hrun, hinv2, hfew2, hf2, htx2, q1, q2, rfl, rfl⟩, by omega, Mv.of [.old 0, .old 5, .old 6, .old 7] rfl rfl rfl ⟨⟨rfl, rfl⟩, ⟨rfl, .inl ⟨rfl, dataA_pure _⟩⟩, ⟨rfl, .inr (openR_rel rfl _ _ _)⟩, ⟨rfl, .inr ⟨⟨⟨rfl, rfl, rfl⟩, rfl, rfl, trivial⟩, trivial⟩⟩, trivial⟩ ⟨⟨rfl, rfl, rfl⟩, rfl, rfl, rfl, trivial⟩⟩
    · have e : tokS T[k] ⟨o :: r, c, false⟩ = ⟨o :: r, c, false⟩ := by unfold tokS; rw [if_neg (by assumption), if_neg (by assumption), if_neg (by assumption)]
      rw [e] at hrun htx2
      rw [if_neg (show ¬ (false = true) by decide)] at hrun
      exact ⟨_, _, _, ⟨k + 1, ⟨o :: r, c, false⟩, o, r, vs, rfl, hlt, hrun, hinv, hfew, rfl, htx2, rfl, hv, rfl, rfl⟩, by omega, Mv.of [.old 0, .old 1, .old 2, .old 3] rfl rfl rfl ⟨⟨rfl, rfl⟩, ⟨rfl, .inl ⟨rfl, dataA_pure _⟩⟩, ⟨rfl, .inr (openR_rel rfl _ _ _)⟩, ⟨rfl, .inr ⟨⟨⟨rfl, rfl, rfl⟩, rfl, rfl, trivial⟩, trivial⟩⟩, trivial⟩ ⟨⟨rfl, rfl, rfl⟩, rfl, rfl, rfl, trivial⟩⟩
  · have hk' : k = T.length := by have := of_decide_eq_false h; omega
    subst hk'
    rw [List.drop_length] at hrun
    have hb : buildL T = some (rootK (finO (o :: r).length (o :: r))) := by
      unfold buildL
      rw [show runS T ⟨[([], [], [])], 0, false⟩ = _ from hrun]; rfl
    refine loopT Try.wf Try.tab_ok (fun n s' σ => ∃ (q : List Op) (o' : Op) (r' : List Op) (vs' : List OV), n = q.length ∧ q = o' :: r' ∧ vs'.length = r'.length ∧ totO q ≤ 1000000 ∧ rootK (finO (o :: r).length (o :: r)) = rootK (finO q.length q) ∧
        s' = [(4, .ref 0 0 0)] ∧ σ = B0 vs' o' r' c false)
      ⟨o :: r, o, r, vs, rfl, rfl, hv, by omega, rfl, rfl, rfl⟩ (Mv.of [.old 0, .old 1, .old 2, .old 3] rfl rfl rfl ⟨⟨rfl, rfl⟩, ⟨rfl, .inl ⟨rfl, dataA_pure _⟩⟩, ⟨rfl, .inr (openR_rel rfl _ _ _)⟩, ⟨rfl, .inr ⟨⟨⟨rfl, rfl, rfl⟩, rfl, rfl, trivial⟩, trivial⟩⟩, trivial⟩ ⟨⟨rfl, rfl, rfl⟩, trivial⟩) ?_
    rintro _ _ _ ⟨q, o', r', vs', rfl, rfl, hv', hq, hfin, rfl, rfl⟩
    have hlq := totO_len (o' :: r')
    rw [List.length_cons] at hlq
    repeat' (first |                        refine ⟨fun _ => ?_, fun h => absurd h (by decide)⟩ | refine ⟨fun h => absurd h (by decide), fun _ => ?_⟩ | (refine ⟨fun h => ?_, fun h => ?_⟩ <;> (try simp only [decide_eq_true_eq, decide_eq_false_iff_not, Bool.not_eq_true', Bool.not_eq_false', Bool.not_eq_true, Bool.not_eq_false, not_true_eq_false, beq_iff_eq, beq_eq_false_iff_ne, ne_eq, decide_eq_decide, true_iff, false_iff, iff_true, iff_false, true_and, and_true, false_or, or_false, Bool.and_true, Bool.and_eq_true, Bool.and_eq_false_iff, Bool.or_eq_true, Bool.or_eq_false_iff, List.length_cons, List.length_nil] at h) <;> (try (exfalso; first | omega | exact h rfl | (cases h; done) | exact absurd h (by assumption) | exact h (by assumption) | (simp at h; done)))) | refine ⟨⟨by (first | omega | (simp only [lenS]; omega)), by (first | omega | (simp only [lenS]; omega))⟩, _, by assumption, by rfl, ?_⟩ | refine .inl ⟨⟨by (first | omega | (simp only [lenS]; omega)), by (first | omega | (simp only [lenS]; omega))⟩, ?_⟩ | refine ⟨⟨by (first | omega | (simp only [lenS]; omega)), by (first | omega | (simp only [lenS]; omega))⟩, ?_⟩ | refine ⟨⟨by (first | omega | (simp only [lenS]; omega)), by (first | omega | (simp only [lenS]; omega)), by (first | omega | (simp only [lenS]; omega))⟩, ?_⟩ | refine ⟨.inl rfl, ?_⟩ | refine ⟨.inr (.inl (by (first | omega | (simp only [lenS]; omega)))), ?_⟩ | refine ⟨_, rfl, rfl, by (first | exact Nat.le_refl _ | exact Nat.le_of_ble_eq_true rfl | decide), ?_⟩ | refine ⟨_, rfl, by (first | exact Nat.le_refl _ | exact Nat.le_of_ble_eq_true rfl | decide), ?_⟩ | refine ⟨by (first | exact Nat.le_refl _ | exact Nat.le_of_ble_eq_true rfl | decide | exact rfl), ?_⟩ | refine ⟨show _ ≤ (9223372036854775807 : Nat) by (first | omega | (simp only [lenS]; omega)), ?_⟩ | refine ⟨show _ ≠ (0 : Int) by (first | omega | (simp only [lenS]; omega)), ?_⟩ | refine ⟨_, rfl, _, rfl, ?_⟩ | refine ⟨_, by assumption, Nat.le_of_ble_eq_true rfl, ?_⟩ | refine ⟨_, by assumption, _, rfl, ?_⟩ | refine ⟨_, rfl, ?_⟩ | fail)
    · have hr' : ∃ p u, r' = p :: u := by cases r' with
        | nil => exfalso; simp at *
        | cons p u => exact ⟨p, u, rfl⟩
      obtain ⟨p, u, rfl⟩ := hr'
      have hm := shut_ok ⟨o' :: p :: u, c, false⟩ hq (by simp)
      have hsl := shutO_len o' p u
      refine hm.use (o := o') (r := p :: u) (vs := vs') 1 2 3 4 5 6 7 rfl hv' rfl rfl rfl rfl rfl rfl rfl rfl rfl rfl ⟨⟨rfl, rfl, rfl⟩, trivial⟩ fun o2 r2 vs2 q1 q2 => ?_
      exact ⟨_, _, _, ⟨shutO (o' :: p :: u), o2, r2, vs2, rfl, q1, q2, Nat.le_trans (shutO_tot _) hq, hfin.trans (congrArg rootK (finO_step o' p u)), rfl, rfl⟩, by rw [hsl]; simp, Mv.of [.old 0, .old 4, .old 5, .old 6] rfl rfl rfl ⟨⟨rfl, rfl⟩, ⟨rfl, .inl ⟨rfl, dataA_pure _⟩⟩, ⟨rfl, .inr (openR_rel rfl _ _ _)⟩, ⟨rfl, .inr ⟨⟨⟨rfl, rfl, rfl⟩, rfl, rfl, trivial⟩, trivial⟩⟩, trivial⟩ ⟨⟨rfl, rfl, rfl⟩, trivial⟩⟩
    · have hr' : r' = [] := by cases r' with
        | nil => rfl
        | cons p u => exfalso; simp at *; omega
      subst hr'
      obtain rfl : vs' = [] := List.length_eq_zero_iff.1 hv'
      have hb2 : buildL T = some o'.2.2 := by
        rw [hb, hfin]; obtain ⟨a, b, k⟩ := o'; rfl
      refine ⟨_, rfl, _, rfl, ?_⟩
      refine ⟨.tup [.d (.sl (nodesD o'.2.2)), .d (.int .i64 0)], ⟨0, []⟩, ?_, (builtA_some hb2).symm⟩
      have h1 := fin_freeze (σ0 := ⟨0, []⟩) (σ := B0 [] o' [] c false) (r := .tup [.own 2 0 o'.2.2.length, .d (.int .i64 0)]) (ds := nodesD o'.2.2) 2 rfl (rowsD_d _) ⟨fun _ => by rw [nodesA_len, Nat.zero_add]; exact Nat.le_refl _, trivial, trivial⟩
      rw [show frz 2 (nodesD o'.2.2) (.tup [.own 2 0 o'.2.2.length, .d (.int .i64 0)]) = .tup [frz 2 (nodesD o'.2.2) (.own 2 0 o'.2.2.length), .d (.int .i64 0)] from rfl, frz_whole 2 _ _ (nodesD_len _).symm] at h1
      exact h1.trans (fin_mv [] rfl rfl rfl trivial ⟨rfl, rfl, trivial⟩)
end Go.Proofs.Ytcmkiancbgmmhaa

namespace Go.Proofs.Ytcmkiancbgmmhaa
open Go.Aw
set_option maxHeartbeats 1600000
set_option linter.unusedSimpArgs false
set_option linter.unusedVariables false
/-- What a token weighs. -/
def wtT (t : Tok) : Nat := 1 + t.nm.length + t.tx.length + wtA t.ats
def wtTs (T : List Tok) : Nat := (T.map wtT).sum
theorem wtTs_cons (t : Tok) (T : List Tok) : wtTs (t :: T) = wtT t + wtTs T := rfl
theorem wtTs_app (a b : List Tok) : wtTs (a ++ b) = wtTs a + wtTs b := by unfold wtTs; rw [List.map_append, List.sum_append]
theorem txs_wt : ∀ T : List Tok, txs T ≤ wtTs T
  | [] => Nat.le_refl _
  | t :: T => by
    have := txs_wt T
    rw [wtTs_cons]
    show t.tx.length + txs T ≤ _
    unfold wtT; omega
theorem wtTs_mem {T : List Tok} {t : Tok} (h : t ∈ T) : wtT t ≤ wtTs T := by
  induction T with
  | nil => cases h
  | cons x r ih =>
    rw [wtTs_cons]
    rcases List.mem_cons.1 h with rfl | h
    · omega
    · have := ih h; omega
theorem valueAt_wt {s v r : List UInt8} (h : valueAt s = some (v, r)) : v.length + r.length ≤ s.length := by
  unfold valueAt at h
  split at h
  · cases h; simp
  · split at h
    · split at h
      · cases h
      · cases h; simp only [List.length_take, List.length_drop, List.length_cons]; omega
    · cases h; simp only [List.length_take, List.length_drop, List.length_cons]; omega
theorem attrAt_wt {c : UInt8} {r r' : List UInt8} {a : Attr} (h : attrAt c r = some (a, r')) : a.1.length + a.2.length + r'.length ≤ 1 + r.length := by
  have h1 := skipB_le (r.drop (runN (hdB attrC) r))
  have hn : (lower (c :: r.take (runN (hdB attrC) r))).length = 1 + min (runN (hdB attrC) r) r.length := by simp [lower]; omega
  have hr := runN_le (hdB attrC) r
  rw [List.length_drop] at h1
  unfold attrAt at h
  split at h
  · cases h
    show (lower (c :: r.take (runN (hdB attrC) r))).length + ([] : List UInt8).length + ([] : List UInt8).length ≤ _
    rw [hn]; simp only [List.length_nil]; omega
  · rename_i d r1 e
    rw [e, List.length_cons] at h1
    split at h
    · cases hv : valueAt (skipB r1) with
      | none => rw [hv] at h; cases h
      | some v =>
        rw [hv] at h
        cases h
        have h2 := valueAt_wt (v := v.1) (r := v.2) hv
        have h3 := skipB_le r1
        have h4 := resolve_len _ v.1 (Nat.le_refl _)
        show (lower (c :: r.take (runN (hdB attrC) r))).length + (resolve v.1).length + v.2.length ≤ _
        rw [hn]; omega
    · cases h
      show (lower (c :: r.take (runN (hdB attrC) r))).length + ([] : List UInt8).length + (d :: r1).length ≤ _
      rw [hn]; simp only [List.length_nil, List.length_cons]; omega
theorem addA_wt (ats : List Attr) (a : Attr) : wtA (addA ats a) ≤ wtA ats + (1 + a.1.length + a.2.length) := by
  unfold addA
  split
  · omega
  · unfold wtA; rw [List.map_append, List.sum_append]; simp
theorem tagF_wt : ∀ (n : Nat) (s : List UInt8) (cl : Bool) (ats : List Attr) {x : Bool} {y : List Attr} {r : List UInt8}, tagF n s cl ats = some (x, y, r) → wtA y + 2 * r.length ≤ wtA ats + 2 * s.length
  | 0, _, _, _, _, _, _, h => by cases h
  | n + 1, [], _, _, _, _, _, h => by cases h
  | n + 1, c :: r, cl, ats, x, y, r', h => by
    unfold tagF at h
    rw [List.length_cons]
    split at h
    · have := tagF_wt n _ _ _ h; omega
    · split at h
      · have := tagF_wt n _ _ _ h; omega
      · split at h
        · cases h; omega
        · split at h
          · cases h
          · rename_i a r1 e
            have h1 := attrAt_wt e
            have h2 := addA_wt ats a
            have h3 := attrAt_le e
            have := tagF_wt n _ _ _ h
            omega
theorem tagAt_wt {s nm r : List UInt8} {cl : Bool} {ats : List Attr} (h : tagAt s = some (nm, cl, ats, r)) : nm.length + wtA ats + 2 * r.length ≤ 2 * s.length := by
  unfold tagAt at h
  cases e : between (s.drop (runN (hdB nameC) s)) false [] with
  | none => rw [e] at h; cases h
  | some t =>
    rw [e] at h
    cases h
    have h1 := tagF_wt _ _ _ _ (x := t.1) (y := t.2.1) (r := t.2.2) e
    have h2 := runN_le (hdB nameC) s
    rw [List.length_drop] at h1
    have h3 : wtA ([] : List Attr) = 0 := rfl
    show (lower (s.take (runN (hdB nameC) s))).length + wtA t.2.1 + 2 * t.2.2.length ≤ _
    have h4 : (lower (s.take (runN (hdB nameC) s))).length = runN (hdB nameC) s := by simp [lower]; omega
    omega
theorem step_wt (s r : List UInt8) (e : List Tok) (hs : s ≠ []) (h : step s = some (e, r)) : wtTs e + 2 * r.length ≤ 2 * s.length := by
  have hpos : 1 ≤ s.length := List.length_pos_iff.2 hs
  unfold step at h
  split at h
  · rename_i hk
    cases h
    have h1 := plain_pos hs hk
    have h2 := runN_le plainB s
    have h3 := resolve_len _ (s.take (runN plainB s)) (Nat.le_refl _)
    rw [List.length_take] at h3
    simp only [wtTs, wtT, textT, wtA, List.map_cons, List.map_nil, List.sum_cons, List.sum_nil, List.length_nil, List.length_drop]
    omega
  · rename_i hk
    cases h
    simp only [wtTs, wtT, noteT, wtA, List.map_cons, List.map_nil, List.sum_cons, List.sum_nil, List.length_nil, List.length_take, List.length_drop]
    omega
  · cases h; simp only [wtTs, List.map_nil, List.sum_nil, List.length_drop]; omega
  · cases h; simp only [wtTs, List.map_nil, List.sum_nil, List.length_drop]; omega
  · split at h
    · cases h
    · rename_i nm cl ats rest hta
      have g := tagAt_wt hta
      have g2 := tagAt_le hta
      rw [List.length_drop] at g g2
      split at h
      · cases h
        have hrl := runN_le (fun x => !rawEnd nm x) rest
        by_cases hx : rawText nm rest = []
        · rw [if_pos hx]
          simp only [wtTs, wtT, startT, List.map_cons, List.map_nil, List.sum_cons, List.sum_nil, List.length_nil, List.length_drop]
          omega
        · rw [if_neg hx]
          have h3 := resolve_len _ (rest.take (rawN nm rest)) (Nat.le_refl _)
          have hle : (rawText nm rest).length ≤ min (rawN nm rest) rest.length := by
            unfold rawText
            split
            · rw [List.length_take] at h3; exact h3
            · rw [List.length_take]; exact Nat.le_refl _
          have hne : 1 ≤ (rawText nm rest).length := List.length_pos_iff.2 hx
          have hA : wtA ([] : List Attr) = 0 := rfl
          simp only [wtTs, wtT, startT, textT, hA, List.map_cons, List.map_nil, List.sum_cons, List.sum_nil, List.length_nil, List.length_drop]
          omega
      · cases h
        simp only [wtTs, wtT, startT, List.map_cons, List.map_nil, List.sum_cons, List.sum_nil, List.length_nil]
        omega
  · split at h
    · cases h
    · rename_i nm cl ats rest hta
      have g := tagAt_wt hta
      have g2 := tagAt_le hta
      rw [List.length_drop] at g g2
      cases h
      have hA : wtA ([] : List Attr) = 0 := rfl
      simp only [wtTs, wtT, endT, hA, List.map_cons, List.map_nil, List.sum_cons, List.sum_nil, List.length_nil]
      omega
theorem toks_wt : ∀ (n : Nat) (s : List UInt8), s.length ≤ n → wtTs (toks s) ≤ 2 * s.length
  | n, s, hn => by
    by_cases hs : s = []
    · subst hs; rw [toks_nil]; exact Nat.le_refl _
    · cases hst : step s with
      | none => rw [toks_none hst]; exact Nat.zero_le _
      | some x =>
        obtain ⟨e, r⟩ := x
        rw [toks_some hs hst, wtTs_app]
        have hlt := step_lt hs hst
        have h1 := step_wt s r e hs hst
        cases n with
        | zero => omega
        | succ n => have := toks_wt n r (by omega); omega
/-- What is being built weighs no more than the tokens. -/
def wtO : List Op → Nat
  | [] => 0
  | (a, b, k) :: r => 1 + a.length + wtA b + wtL k + wtO r
theorem putO_wt (n : Node) (o : Op) (r : List Op) : wtO (putO n (o :: r)) = wtO (o :: r) + wtN n := by
  obtain ⟨a, b, k⟩ := o
  show 1 + a.length + wtA b + wtL (k ++ [n]) + wtO r = 1 + a.length + wtA b + wtL k + wtO r + wtN n
  rw [wtL_append, wtL_cons]
  show 1 + a.length + wtA b + (wtL k + (wtN n + wtL [])) + wtO r = _
  rw [show wtL [] = 0 by rw [wtL]]; omega
theorem shutO_wt (o p : Op) (r : List Op) : wtO (shutO (o :: p :: r)) = wtO (o :: p :: r) := by
  obtain ⟨a, b, k⟩ := o
  show wtO (putO _ (p :: r)) = 1 + a.length + wtA b + wtL k + wtO (p :: r)
  rw [putO_wt, wtN_eq]
  simp only [Node.name, Node.text, Node.attrs, Node.kids, List.length_nil]; omega
theorem closeF_wt (nm : List UInt8) : ∀ (n : Nat) (ops : List Op), wtO (closeF nm n ops) = wtO ops
  | 0, _ => rfl
  | n + 1, [] => rfl
  | n + 1, [_] => rfl
  | n + 1, o :: p :: r => by
    rw [closeF]
    split
    · exact shutO_wt o p r
    · rw [closeF_wt nm n _, shutO_wt]
theorem closeO_wt (nm : List UInt8) (ops : List Op) : wtO (closeO nm ops) = wtO ops := by
  unfold closeO
  split
  · exact closeF_wt nm _ _
  · rfl
theorem startO_wt (nm : List UInt8) (ops : List Op) : wtO (startO nm ops) = wtO ops := by
  show wtO (if nm = [108, 105] ∧ liB (if nm ∈ blocks then closeO [112] ops else ops) = true then closeO [108, 105] (if nm ∈ blocks then closeO [112] ops else ops) else (if nm ∈ blocks then closeO [112] ops else ops)) = _
  have h : wtO (if nm ∈ blocks then closeO [112] ops else ops) = wtO ops := by
    split
    · exact closeO_wt _ _
    · rfl
  generalize (if nm ∈ blocks then closeO [112] ops else ops) = x at h ⊢
  split
  · rw [closeO_wt, h]
  · exact h
theorem putO_wt2 (n : Node) (ops : List Op) : wtO (putO n ops) ≤ wtO ops + wtN n := by
  cases ops with
  | nil => exact Nat.zero_le _
  | cons o r => rw [putO_wt]; exact Nat.le_refl _
theorem startS_wt (nm : List UInt8) (ats : List Attr) (s : Bs) : wtO (startS nm ats s).ops ≤ wtO s.ops + (1 + nm.length + wtA ats) := by
  have h := startO_wt nm s.ops
  show wtO (if nm ∈ voids then putO (.mk nm ats [] []) (startO nm s.ops) else (nm, ats, []) :: startO nm s.ops) ≤ _
  split
  · have h1 := putO_wt2 (.mk nm ats [] []) (startO nm s.ops)
    rw [wtN_eq] at h1
    simp only [Node.name, Node.text, Node.attrs, Node.kids, List.length_nil] at h1
    rw [show wtL [] = 0 by rw [wtL]] at h1
    omega
  · rw [wtO, show wtL [] = 0 by rw [wtL]]; omega
theorem addText_wt (x : List UInt8) : ∀ ops : List Op, wtO (addText x ops) ≤ wtO ops + x.length
  | [] => Nat.zero_le _
  | (a, b, k) :: r => by
    rcases nil_or_snoc k with rfl | ⟨k0, z, rfl⟩
    · show wtO ((a, b, []) :: r) ≤ _
      omega
    · have e : addText x ((a, b, k0 ++ [z]) :: r) = (a, b, k0 ++ [.mk z.name z.attrs (z.text ++ x) z.kids]) :: r := by simp [addText]
      rw [e, wtO, wtO, wtL_append, wtL_append, wtL_cons, wtL_cons, wtN_eq, wtN_eq]
      simp only [Node.name, Node.text, Node.attrs, Node.kids, List.length_append]; omega
theorem tokS_wt (t : Tok) (s : Bs) : wtO (tokS t s).ops ≤ wtO s.ops + wtT t := by
  unfold tokS wtT
  split
  · unfold textS
    split
    · omega
    · split
      · have := addText_wt t.tx s.ops
        show wtO (addText t.tx s.ops) ≤ _
        omega
      · have h1 := putO_wt2 (.mk [] [] t.tx []) s.ops
        rw [wtN_eq] at h1
        simp only [Node.name, Node.text, Node.attrs, Node.kids, List.length_nil] at h1
        rw [show wtL [] = 0 by rw [wtL]] at h1
        show wtO (putO (.mk [] [] t.tx []) s.ops) ≤ _
        have hA : wtA ([] : List Attr) = 0 := rfl
        omega
  · split
    · have := startS_wt t.nm t.ats s; omega
    · split
      · have hA : wtA ([] : List Attr) = 0 := rfl
        have h1 := startS_wt t.nm [] s
        unfold endS
        split
        · show wtO (closeO t.nm s.ops) ≤ _
          rw [closeO_wt]; omega
        · split
          · show wtO (closeO t.nm (startS t.nm [] s).ops) ≤ _
            rw [closeO_wt]; omega
          · split
            · omega
            · omega
      · omega
theorem runS_wt : ∀ (T : List Tok) (s s2 : Bs), runS T s = some s2 → wtO s2.ops ≤ wtO s.ops + wtTs T
  | [], s, s2, h => by cases h; exact Nat.le_add_right _ _
  | t :: T, s, s2, h => by
    rw [runS] at h
    split at h
    · cases h
    · have h1 := runS_wt T _ s2 h
      have h2 := tokS_wt t s
      rw [wtTs_cons]; omega
theorem finO_wt : ∀ (n : Nat) (ops : List Op), wtO (finO n ops) = wtO ops
  | 0, _ => rfl
  | n + 1, [] => rfl
  | n + 1, [_] => rfl
  | n + 1, o :: p :: r => by rw [finO, finO_wt n _, shutO_wt]
theorem rootK_wt : ∀ ops : List Op, wtL (rootK ops) ≤ wtO ops
  | [] => by rw [rootK, wtL]; exact Nat.zero_le _
  | (a, b, k) :: r => by rw [rootK, wtO]; omega
theorem build_wt {T : List Tok} {l : List Node} (h : buildL T = some l) : wtL l ≤ 1 + wtTs T := by
  unfold buildL at h
  cases hr : runS T ⟨[([], [], [])], 0, false⟩ with
  | none => rw [hr] at h; cases h
  | some s =>
    rw [hr] at h
    cases h
    have h1 := runS_wt T _ s hr
    have h2 := rootK_wt (finO s.ops.length s.ops)
    rw [finO_wt] at h2
    have h3 : wtO [(([] : List UInt8), ([] : List Attr), ([] : List Node))] = 1 := by rw [wtO, show wtL [] = 0 by rw [wtL]]; rfl
    have h4 : wtO (Bs.mk [([], [], [])] 0 false).ops = 1 := h3
    show wtL (rootK (finO s.ops.length s.ops)) ≤ _
    omega
end Go.Proofs.Ytcmkiancbgmmhaa

namespace Go.Proofs.Ytcmkiancbgmmhaa
open Go.Aw
set_option maxHeartbeats 1600000
set_option linter.unusedSimpArgs false
set_option linter.unusedVariables false
theorem toks_fit (s : List UInt8) (hs : s.length ≤ 1000000) : (toks s).length ≤ 1000000 ∧ (∀ t ∈ toks s, t.ats.length ≤ 1000000) ∧ txs (toks s) ≤ 1000000000000000 := by
  have h1 := toks_len _ s (Nat.le_refl _)
  have h2 := toks_wt _ s (Nat.le_refl _)
  have h3 := txs_wt (toks s)
  exact ⟨by omega, fun t ht => by have := toks_ats _ s (Nat.le_refl _) t ht; omega, by omega⟩
theorem Build_toks (s : List UInt8) (hs : s.length ≤ 1000000) : PureC Try.prog 23 [.d (.sl (toksD (toks s)))] (builtA (toks s)) :=
  Build_ok (toks s) (toks_fit s hs).1 (toks_fit s hs).2.1 (toks_fit s hs).2.2
end Go.Proofs.Ytcmkiancbgmmhaa

namespace Go.Proofs.Ytcmkiancbgmmhaa
open Go.Aw
set_option maxHeartbeats 1600000
set_option linter.unusedSimpArgs false
set_option linter.unusedVariables false
set_option maxHeartbeats 1000000 in
set_option maxRecDepth 100000 in
theorem SerBuilt_ok (s : List UInt8) (hs : s.length ≤ 140737488351232) : PureC Try.prog 9 [.d (.str s)] (.d (.bool true)) := by
  have hc1 := awake_ok
  refine PureC.of rfl rfl (fn_okTE Try.wf Try.tab_ok Try.func9 (by decide +kernel) rfl rfl ?_)
  by_cases hs2 : 3000 < s.length
  · refine E.of Try.wf Try.tab_ok ?_
    repeat' (first | refine PureC.use hc1 ?_ | refine PureC.use hc2 ?_ | refine PureC.use hc3 ?_ | refine PureC.use hc4 ?_ | refine PureC.use hc5 ?_ | refine PureC.use hc6 ?_ | refine PureC.use hc7 ?_ | refine PureC.use hc8 ?_ |    refine CallsAbs.use1 hd1 ?_ |            refine ⟨fun _ => ?_, fun h => absurd h (by decide)⟩ | refine ⟨fun h => absurd h (by decide), fun _ => ?_⟩ | (refine ⟨fun h => ?_, fun h => ?_⟩ <;> (try simp only [decide_eq_true_eq, decide_eq_false_iff_not, Bool.not_eq_true', Bool.not_eq_false', Bool.not_eq_true, Bool.not_eq_false, not_true_eq_false, beq_iff_eq, beq_eq_false_iff_ne, ne_eq, decide_eq_decide, true_iff, false_iff, iff_true, iff_false, true_and, and_true, false_or, or_false, Bool.and_true, Bool.and_eq_true, Bool.and_eq_false_iff, Bool.or_eq_true, Bool.or_eq_false_iff, List.length_cons, List.length_nil] at h) <;> (try (exfalso; first | omega | exact h rfl | (cases h; done) | exact absurd h (by assumption) | exact h (by assumption) | (simp at h; done)))) | refine ⟨⟨by (first | omega | (simp only [lenS]; omega)), by (first | omega | (simp only [lenS]; omega))⟩, _, by assumption, by rfl, ?_⟩ | refine .inl ⟨⟨by (first | omega | (simp only [lenS]; omega)), by (first | omega | (simp only [lenS]; omega))⟩, ?_⟩ | refine ⟨⟨by (first | omega | (simp only [lenS]; omega)), by (first | omega | (simp only [lenS]; omega))⟩, ?_⟩ | refine ⟨⟨by (first | omega | (simp only [lenS]; omega)), by (first | omega | (simp only [lenS]; omega)), by (first | omega | (simp only [lenS]; omega))⟩, ?_⟩ | refine ⟨.inl rfl, ?_⟩ | refine ⟨.inr (.inl (by (first | omega | (simp only [lenS]; omega)))), ?_⟩ | refine ⟨_, rfl, rfl, by (first | exact Nat.le_refl _ | exact Nat.le_of_ble_eq_true rfl | decide), ?_⟩ | refine ⟨_, rfl, by (first | exact Nat.le_refl _ | exact Nat.le_of_ble_eq_true rfl | decide), ?_⟩ | refine ⟨by (first | exact Nat.le_refl _ | exact Nat.le_of_ble_eq_true rfl | decide | exact rfl), ?_⟩ | refine ⟨show _ ≤ (9223372036854775807 : Nat) by (first | omega | (simp only [lenS]; omega)), ?_⟩ | refine ⟨show _ ≠ (0 : Int) by (first | omega | (simp only [lenS]; omega)), ?_⟩ | refine ⟨_, rfl, _, rfl, ?_⟩ | refine ⟨_, by assumption, Nat.le_of_ble_eq_true rfl, ?_⟩ | refine ⟨_, by assumption, _, rfl, ?_⟩ | refine ⟨_, rfl, ?_⟩ | fail)
    all_goals exact ⟨_, _, fin_out rfl, rfl, rfl⟩
  have hc2 := Tokens_ok s (by omega)
  have hfit := toks_fit s (by omega)
  have hnm := toks_nm _ s (Nat.le_refl _)
  have hwt := toks_wt _ s (Nat.le_refl _)
  have hgood := toks_good s
  have hc3 := Build_toks s (by omega)
  generalize hT : toks s = T at *
  have hn := toksD_len T
  refine E.of Try.wf Try.tab_ok ?_
  repeat' (first | refine PureC.use hc1 ?_ | refine PureC.use hc2 ?_ | refine PureC.use hc3 ?_ | refine PureC.use hc4 ?_ | refine PureC.use hc5 ?_ | refine PureC.use hc6 ?_ | refine PureC.use hc7 ?_ | refine PureC.use hc8 ?_ |    refine CallsAbs.use1 hd1 ?_ |            refine ⟨fun _ => ?_, fun h => absurd h (by decide)⟩ | refine ⟨fun h => absurd h (by decide), fun _ => ?_⟩ | (refine ⟨fun h => ?_, fun h => ?_⟩ <;> (try simp only [decide_eq_true_eq, decide_eq_false_iff_not, Bool.not_eq_true', Bool.not_eq_false', Bool.not_eq_true, Bool.not_eq_false, not_true_eq_false, beq_iff_eq, beq_eq_false_iff_ne, ne_eq, decide_eq_decide, true_iff, false_iff, iff_true, iff_false, true_and, and_true, false_or, or_false, Bool.and_true, Bool.and_eq_true, Bool.and_eq_false_iff, Bool.or_eq_true, Bool.or_eq_false_iff, List.length_cons, List.length_nil] at h) <;> (try (exfalso; first | omega | exact h rfl | (cases h; done) | exact absurd h (by assumption) | exact h (by assumption) | (simp at h; done)))) | refine ⟨⟨by (first | omega | (simp only [lenS]; omega)), by (first | omega | (simp only [lenS]; omega))⟩, _, by assumption, by rfl, ?_⟩ | refine .inl ⟨⟨by (first | omega | (simp only [lenS]; omega)), by (first | omega | (simp only [lenS]; omega))⟩, ?_⟩ | refine ⟨⟨by (first | omega | (simp only [lenS]; omega)), by (first | omega | (simp only [lenS]; omega))⟩, ?_⟩ | refine ⟨⟨by (first | omega | (simp only [lenS]; omega)), by (first | omega | (simp only [lenS]; omega)), by (first | omega | (simp only [lenS]; omega))⟩, ?_⟩ | refine ⟨.inl rfl, ?_⟩ | refine ⟨.inr (.inl (by (first | omega | (simp only [lenS]; omega)))), ?_⟩ | refine ⟨_, rfl, rfl, by (first | exact Nat.le_refl _ | exact Nat.le_of_ble_eq_true rfl | decide), ?_⟩ | refine ⟨_, rfl, by (first | exact Nat.le_refl _ | exact Nat.le_of_ble_eq_true rfl | decide), ?_⟩ | refine ⟨by (first | exact Nat.le_refl _ | exact Nat.le_of_ble_eq_true rfl | decide | exact rfl), ?_⟩ | refine ⟨show _ ≤ (9223372036854775807 : Nat) by (first | omega | (simp only [lenS]; omega)), ?_⟩ | refine ⟨show _ ≠ (0 : Int) by (first | omega | (simp only [lenS]; omega)), ?_⟩ | refine ⟨_, rfl, _, rfl, ?_⟩ | refine ⟨_, by assumption, Nat.le_of_ble_eq_true rfl, ?_⟩ | refine ⟨_, by assumption, _, rfl, ?_⟩ | refine ⟨_, rfl, ?_⟩ | fail)
  refine loopT Try.wf Try.tab_ok (fun n s' σ => ∃ k : Nat, n = T.length - k ∧ k ≤ T.length ∧ (∀ t ∈ T.take k, goodT2 t) ∧ s' = [(0, .d (.str s)), (3, .d (.bool true)), (4, .d (.sl (toksD T))), (5, .d (.int .i64 k))] ∧ σ = ⟨0, []⟩)
    ⟨0, rfl, Nat.zero_le _, (fun t h => by simp at h), rfl, rfl⟩ (Mv.of [] rfl rfl rfl trivial ⟨rfl, rfl, rfl, rfl, trivial⟩) ?_
  rintro _ _ _ ⟨k, rfl, hk, hI, rfl, rfl⟩
  by_cases hlt : k < T.length
  · have hg := toksD_get T k hlt
    rw [tok_arg] at hg
    have hmem : T[k] ∈ T := List.getElem_mem hlt
    have hgk := hgood _ hmem
    have hwk := wtTs_mem hmem
    unfold wtT at hwk
    have hst : (∀ t ∈ T.take k, goodT2 t) → goodT2 T[k] → ∀ t ∈ T.take (k + 1), goodT2 t := fun h1 h2 t ht => by
      rw [List.take_succ_eq_append_getElem hlt] at ht
      rcases List.mem_append.1 ht with ht | ht
      · exact h1 t ht
      · rw [List.mem_singleton.1 ht]; exact h2
    by_cases hk2 : T[k].kd = 2
    · have hc4 := Element_ok T[k].nm (by omega)
      cases hE : (small T[k].nm [45] && !rawB T[k].nm) with
      | false =>
        rw [hE] at hc4
        repeat' (first | refine PureC.use hc1 ?_ | refine PureC.use hc2 ?_ | refine PureC.use hc3 ?_ | refine PureC.use hc4 ?_ | refine PureC.use hc5 ?_ | refine PureC.use hc6 ?_ | refine PureC.use hc7 ?_ | refine PureC.use hc8 ?_ |    refine CallsAbs.use1 hd1 ?_ |            refine ⟨fun _ => ?_, fun h => absurd h (by decide)⟩ | refine ⟨fun h => absurd h (by decide), fun _ => ?_⟩ | (refine ⟨fun h => ?_, fun h => ?_⟩ <;> (try simp only [decide_eq_true_eq, decide_eq_false_iff_not, Bool.not_eq_true', Bool.not_eq_false', Bool.not_eq_true, Bool.not_eq_false, not_true_eq_false, beq_iff_eq, beq_eq_false_iff_ne, ne_eq, decide_eq_decide, true_iff, false_iff, iff_true, iff_false, true_and, and_true, false_or, or_false, Bool.and_true, Bool.and_eq_true, Bool.and_eq_false_iff, Bool.or_eq_true, Bool.or_eq_false_iff, List.length_cons, List.length_nil] at h) <;> (try (exfalso; first | omega | exact h rfl | (cases h; done) | exact absurd h (by assumption) | exact h (by assumption) | (simp at h; done)))) | refine ⟨⟨by (first | omega | (simp only [lenS]; omega)), by (first | omega | (simp only [lenS]; omega))⟩, _, by assumption, by rfl, ?_⟩ | refine .inl ⟨⟨by (first | omega | (simp only [lenS]; omega)), by (first | omega | (simp only [lenS]; omega))⟩, ?_⟩ | refine ⟨⟨by (first | omega | (simp only [lenS]; omega)), by (first | omega | (simp only [lenS]; omega))⟩, ?_⟩ | refine ⟨⟨by (first | omega | (simp only [lenS]; omega)), by (first | omega | (simp only [lenS]; omega)), by (first | omega | (simp only [lenS]; omega))⟩, ?_⟩ | refine ⟨.inl rfl, ?_⟩ | refine ⟨.inr (.inl (by (first | omega | (simp only [lenS]; omega)))), ?_⟩ | refine ⟨_, rfl, rfl, by (first | exact Nat.le_refl _ | exact Nat.le_of_ble_eq_true rfl | decide), ?_⟩ | refine ⟨_, rfl, by (first | exact Nat.le_refl _ | exact Nat.le_of_ble_eq_true rfl | decide), ?_⟩ | refine ⟨by (first | exact Nat.le_refl _ | exact Nat.le_of_ble_eq_true rfl | decide | exact rfl), ?_⟩ | refine ⟨show _ ≤ (9223372036854775807 : Nat) by (first | omega | (simp only [lenS]; omega)), ?_⟩ | refine ⟨show _ ≠ (0 : Int) by (first | omega | (simp only [lenS]; omega)), ?_⟩ | refine ⟨_, rfl, _, rfl, ?_⟩ | refine ⟨_, by assumption, Nat.le_of_ble_eq_true rfl, ?_⟩ | refine ⟨_, by assumption, _, rfl, ?_⟩ | refine ⟨_, rfl, ?_⟩ | fail)
        all_goals exact ⟨_, _, fin_out rfl, rfl, rfl⟩
      | true =>
        rw [hE] at hc4
        rw [Bool.and_eq_true, Bool.not_eq_true'] at hE
        have han := attrsD_len T[k].ats
        have hal := hfit.2.1 _ hmem
        repeat' (first | refine PureC.use hc1 ?_ | refine PureC.use hc2 ?_ | refine PureC.use hc3 ?_ | refine PureC.use hc4 ?_ | refine PureC.use hc5 ?_ | refine PureC.use hc6 ?_ | refine PureC.use hc7 ?_ | refine PureC.use hc8 ?_ |    refine CallsAbs.use1 hd1 ?_ |            refine ⟨fun _ => ?_, fun h => absurd h (by decide)⟩ | refine ⟨fun h => absurd h (by decide), fun _ => ?_⟩ | (refine ⟨fun h => ?_, fun h => ?_⟩ <;> (try simp only [decide_eq_true_eq, decide_eq_false_iff_not, Bool.not_eq_true', Bool.not_eq_false', Bool.not_eq_true, Bool.not_eq_false, not_true_eq_false, beq_iff_eq, beq_eq_false_iff_ne, ne_eq, decide_eq_decide, true_iff, false_iff, iff_true, iff_false, true_and, and_true, false_or, or_false, Bool.and_true, Bool.and_eq_true, Bool.and_eq_false_iff, Bool.or_eq_true, Bool.or_eq_false_iff, List.length_cons, List.length_nil] at h) <;> (try (exfalso; first | omega | exact h rfl | (cases h; done) | exact absurd h (by assumption) | exact h (by assumption) | (simp at h; done)))) | refine ⟨⟨by (first | omega | (simp only [lenS]; omega)), by (first | omega | (simp only [lenS]; omega))⟩, _, by assumption, by rfl, ?_⟩ | refine .inl ⟨⟨by (first | omega | (simp only [lenS]; omega)), by (first | omega | (simp only [lenS]; omega))⟩, ?_⟩ | refine ⟨⟨by (first | omega | (simp only [lenS]; omega)), by (first | omega | (simp only [lenS]; omega))⟩, ?_⟩ | refine ⟨⟨by (first | omega | (simp only [lenS]; omega)), by (first | omega | (simp only [lenS]; omega)), by (first | omega | (simp only [lenS]; omega))⟩, ?_⟩ | refine ⟨.inl rfl, ?_⟩ | refine ⟨.inr (.inl (by (first | omega | (simp only [lenS]; omega)))), ?_⟩ | refine ⟨_, rfl, rfl, by (first | exact Nat.le_refl _ | exact Nat.le_of_ble_eq_true rfl | decide), ?_⟩ | refine ⟨_, rfl, by (first | exact Nat.le_refl _ | exact Nat.le_of_ble_eq_true rfl | decide), ?_⟩ | refine ⟨by (first | exact Nat.le_refl _ | exact Nat.le_of_ble_eq_true rfl | decide | exact rfl), ?_⟩ | refine ⟨show _ ≤ (9223372036854775807 : Nat) by (first | omega | (simp only [lenS]; omega)), ?_⟩ | refine ⟨show _ ≠ (0 : Int) by (first | omega | (simp only [lenS]; omega)), ?_⟩ | refine ⟨_, rfl, _, rfl, ?_⟩ | refine ⟨_, by assumption, Nat.le_of_ble_eq_true rfl, ?_⟩ | refine ⟨_, by assumption, _, rfl, ?_⟩ | refine ⟨_, rfl, ?_⟩ | fail)
        refine loopT Try.wf Try.tab_ok (fun n s' σ => ∃ j : Nat, n = T[k].ats.length - j ∧ j ≤ T[k].ats.length ∧ (∀ a ∈ T[k].ats.take j, small a.1 [45, 95, 58] = true) ∧ s' = [(0, .d (.str s)), (3, .d (.bool true)), (4, .d (.sl (toksD T))), (5, .d (.int .i64 k)), (7, .d (.int .i64 j))] ∧ σ = ⟨0, []⟩)
          ⟨0, rfl, Nat.zero_le _, (fun t h => by simp at h), rfl, rfl⟩ (Mv.of [] rfl rfl rfl trivial ⟨rfl, rfl, rfl, rfl, rfl, trivial⟩) ?_
        rintro _ _ _ ⟨j, rfl, hj, hJ, rfl, rfl⟩
        by_cases hjlt : j < T[k].ats.length
        · have hga := attrsD_get T[k].ats j hjlt
          have hle := wtA_mem (List.getElem_mem hjlt)
          have hc5 := Attribute_ok T[k].ats[j].1 (by omega)
          cases hA : small T[k].ats[j].1 [45, 95, 58] with
          | false =>
            rw [hA] at hc5
            repeat' (first | refine PureC.use hc1 ?_ | refine PureC.use hc2 ?_ | refine PureC.use hc3 ?_ | refine PureC.use hc4 ?_ | refine PureC.use hc5 ?_ | refine PureC.use hc6 ?_ | refine PureC.use hc7 ?_ | refine PureC.use hc8 ?_ |    refine CallsAbs.use1 hd1 ?_ |            refine ⟨fun _ => ?_, fun h => absurd h (by decide)⟩ | refine ⟨fun h => absurd h (by decide), fun _ => ?_⟩ | (refine ⟨fun h => ?_, fun h => ?_⟩ <;> (try simp only [decide_eq_true_eq, decide_eq_false_iff_not, Bool.not_eq_true', Bool.not_eq_false', Bool.not_eq_true, Bool.not_eq_false, not_true_eq_false, beq_iff_eq, beq_eq_false_iff_ne, ne_eq, decide_eq_decide, true_iff, false_iff, iff_true, iff_false, true_and, and_true, false_or, or_false, Bool.and_true, Bool.and_eq_true, Bool.and_eq_false_iff, Bool.or_eq_true, Bool.or_eq_false_iff, List.length_cons, List.length_nil] at h) <;> (try (exfalso; first | omega | exact h rfl | (cases h; done) | exact absurd h (by assumption) | exact h (by assumption) | (simp at h; done)))) | refine ⟨⟨by (first | omega | (simp only [lenS]; omega)), by (first | omega | (simp only [lenS]; omega))⟩, _, by assumption, by rfl, ?_⟩ | refine .inl ⟨⟨by (first | omega | (simp only [lenS]; omega)), by (first | omega | (simp only [lenS]; omega))⟩, ?_⟩ | refine ⟨⟨by (first | omega | (simp only [lenS]; omega)), by (first | omega | (simp only [lenS]; omega))⟩, ?_⟩ | refine ⟨⟨by (first | omega | (simp only [lenS]; omega)), by (first | omega | (simp only [lenS]; omega)), by (first | omega | (simp only [lenS]; omega))⟩, ?_⟩ | refine ⟨.inl rfl, ?_⟩ | refine ⟨.inr (.inl (by (first | omega | (simp only [lenS]; omega)))), ?_⟩ | refine ⟨_, rfl, rfl, by (first | exact Nat.le_refl _ | exact Nat.le_of_ble_eq_true rfl | decide), ?_⟩ | refine ⟨_, rfl, by (first | exact Nat.le_refl _ | exact Nat.le_of_ble_eq_true rfl | decide), ?_⟩ | refine ⟨by (first | exact Nat.le_refl _ | exact Nat.le_of_ble_eq_true rfl | decide | exact rfl), ?_⟩ | refine ⟨show _ ≤ (9223372036854775807 : Nat) by (first | omega | (simp only [lenS]; omega)), ?_⟩ | refine ⟨show _ ≠ (0 : Int) by (first | omega | (simp only [lenS]; omega)), ?_⟩ | refine ⟨_, rfl, _, rfl, ?_⟩ | refine ⟨_, by assumption, Nat.le_of_ble_eq_true rfl, ?_⟩ | refine ⟨_, by assumption, _, rfl, ?_⟩ | refine ⟨_, rfl, ?_⟩ | fail)
            all_goals exact ⟨_, _, fin_out rfl, rfl, rfl⟩
          | true =>
            rw [hA] at hc5
            repeat' (first | refine PureC.use hc1 ?_ | refine PureC.use hc2 ?_ | refine PureC.use hc3 ?_ | refine PureC.use hc4 ?_ | refine PureC.use hc5 ?_ | refine PureC.use hc6 ?_ | refine PureC.use hc7 ?_ | refine PureC.use hc8 ?_ |    refine CallsAbs.use1 hd1 ?_ |            refine ⟨fun _ => ?_, fun h => absurd h (by decide)⟩ | refine ⟨fun h => absurd h (by decide), fun _ => ?_⟩ | (refine ⟨fun h => ?_, fun h => ?_⟩ <;> (try simp only [decide_eq_true_eq, decide_eq_false_iff_not, Bool.not_eq_true', Bool.not_eq_false', Bool.not_eq_true, Bool.not_eq_false, not_true_eq_false, beq_iff_eq, beq_eq_false_iff_ne, ne_eq, decide_eq_decide, true_iff, false_iff, iff_true, iff_false, true_and, and_true, false_or, or_false, Bool.and_true, Bool.and_eq_true, Bool.and_eq_false_iff, Bool.or_eq_true, Bool.or_eq_false_iff, List.length_cons, List.length_nil] at h) <;> (try (exfalso; first | omega | exact h rfl | (cases h; done) | exact absurd h (by assumption) | exact h (by assumption) | (simp at h; done)))) | refine ⟨⟨by (first | omega | (simp only [lenS]; omega)), by (first | omega | (simp only [lenS]; omega))⟩, _, by assumption, by rfl, ?_⟩ | refine .inl ⟨⟨by (first | omega | (simp only [lenS]; omega)), by (first | omega | (simp only [lenS]; omega))⟩, ?_⟩ | refine ⟨⟨by (first | omega | (simp only [lenS]; omega)), by (first | omega | (simp only [lenS]; omega))⟩, ?_⟩ | refine ⟨⟨by (first | omega | (simp only [lenS]; omega)), by (first | omega | (simp only [lenS]; omega)), by (first | omega | (simp only [lenS]; omega))⟩, ?_⟩ | refine ⟨.inl rfl, ?_⟩ | refine ⟨.inr (.inl (by (first | omega | (simp only [lenS]; omega)))), ?_⟩ | refine ⟨_, rfl, rfl, by (first | exact Nat.le_refl _ | exact Nat.le_of_ble_eq_true rfl | decide), ?_⟩ | refine ⟨_, rfl, by (first | exact Nat.le_refl _ | exact Nat.le_of_ble_eq_true rfl | decide), ?_⟩ | refine ⟨by (first | exact Nat.le_refl _ | exact Nat.le_of_ble_eq_true rfl | decide | exact rfl), ?_⟩ | refine ⟨show _ ≤ (9223372036854775807 : Nat) by (first | omega | (simp only [lenS]; omega)), ?_⟩ | refine ⟨show _ ≠ (0 : Int) by (first | omega | (simp only [lenS]; omega)), ?_⟩ | refine ⟨_, rfl, _, rfl, ?_⟩ | refine ⟨_, by assumption, Nat.le_of_ble_eq_true rfl, ?_⟩ | refine ⟨_, by assumption, _, rfl, ?_⟩ | refine ⟨_, rfl, ?_⟩ | fail)
            exact ⟨_, _, _, ⟨j + 1, rfl, hjlt, (fun a ha => by
              rw [List.take_succ_eq_append_getElem hjlt] at ha
              rcases List.mem_append.1 ha with ha | ha
              · exact hJ a ha
              · rw [List.mem_singleton.1 ha]; exact hA), rfl, rfl⟩, by omega, Mv.of [] rfl rfl rfl trivial ⟨rfl, rfl, rfl, rfl, rfl, trivial⟩⟩
        · have hj' : j = T[k].ats.length := by omega
          rw [hj', List.take_length] at hJ
          repeat' (first | refine PureC.use hc1 ?_ | refine PureC.use hc2 ?_ | refine PureC.use hc3 ?_ | refine PureC.use hc4 ?_ | refine PureC.use hc5 ?_ | refine PureC.use hc6 ?_ | refine PureC.use hc7 ?_ | refine PureC.use hc8 ?_ |    refine CallsAbs.use1 hd1 ?_ |            refine ⟨fun _ => ?_, fun h => absurd h (by decide)⟩ | refine ⟨fun h => absurd h (by decide), fun _ => ?_⟩ | (refine ⟨fun h => ?_, fun h => ?_⟩ <;> (try simp only [decide_eq_true_eq, decide_eq_false_iff_not, Bool.not_eq_true', Bool.not_eq_false', Bool.not_eq_true, Bool.not_eq_false, not_true_eq_false, beq_iff_eq, beq_eq_false_iff_ne, ne_eq, decide_eq_decide, true_iff, false_iff, iff_true, iff_false, true_and, and_true, false_or, or_false, Bool.and_true, Bool.and_eq_true, Bool.and_eq_false_iff, Bool.or_eq_true, Bool.or_eq_false_iff, List.length_cons, List.length_nil] at h) <;> (try (exfalso; first | omega | exact h rfl | (cases h; done) | exact absurd h (by assumption) | exact h (by assumption) | (simp at h; done)))) | refine ⟨⟨by (first | omega | (simp only [lenS]; omega)), by (first | omega | (simp only [lenS]; omega))⟩, _, by assumption, by rfl, ?_⟩ | refine .inl ⟨⟨by (first | omega | (simp only [lenS]; omega)), by (first | omega | (simp only [lenS]; omega))⟩, ?_⟩ | refine ⟨⟨by (first | omega | (simp only [lenS]; omega)), by (first | omega | (simp only [lenS]; omega))⟩, ?_⟩ | refine ⟨⟨by (first | omega | (simp only [lenS]; omega)), by (first | omega | (simp only [lenS]; omega)), by (first | omega | (simp only [lenS]; omega))⟩, ?_⟩ | refine ⟨.inl rfl, ?_⟩ | refine ⟨.inr (.inl (by (first | omega | (simp only [lenS]; omega)))), ?_⟩ | refine ⟨_, rfl, rfl, by (first | exact Nat.le_refl _ | exact Nat.le_of_ble_eq_true rfl | decide), ?_⟩ | refine ⟨_, rfl, by (first | exact Nat.le_refl _ | exact Nat.le_of_ble_eq_true rfl | decide), ?_⟩ | refine ⟨by (first | exact Nat.le_refl _ | exact Nat.le_of_ble_eq_true rfl | decide | exact rfl), ?_⟩ | refine ⟨show _ ≤ (9223372036854775807 : Nat) by (first | omega | (simp only [lenS]; omega)), ?_⟩ | refine ⟨show _ ≠ (0 : Int) by (first | omega | (simp only [lenS]; omega)), ?_⟩ | refine ⟨_, rfl, _, rfl, ?_⟩ | refine ⟨_, by assumption, Nat.le_of_ble_eq_true rfl, ?_⟩ | refine ⟨_, by assumption, _, rfl, ?_⟩ | refine ⟨_, rfl, ?_⟩ | fail)
          exact ⟨_, _, _, ⟨k + 1, rfl, hlt, hst hI (good_of hgk.2.2.2.2.2 fun _ => ⟨hE.1, hE.2, hJ⟩), rfl, rfl⟩, by omega, Mv.of [] rfl rfl rfl trivial ⟨rfl, rfl, rfl, rfl, trivial⟩⟩
    · repeat' (first | refine PureC.use hc1 ?_ | refine PureC.use hc2 ?_ | refine PureC.use hc3 ?_ | refine PureC.use hc4 ?_ | refine PureC.use hc5 ?_ | refine PureC.use hc6 ?_ | refine PureC.use hc7 ?_ | refine PureC.use hc8 ?_ |    refine CallsAbs.use1 hd1 ?_ |            refine ⟨fun _ => ?_, fun h => absurd h (by decide)⟩ | refine ⟨fun h => absurd h (by decide), fun _ => ?_⟩ | (refine ⟨fun h => ?_, fun h => ?_⟩ <;> (try simp only [decide_eq_true_eq, decide_eq_false_iff_not, Bool.not_eq_true', Bool.not_eq_false', Bool.not_eq_true, Bool.not_eq_false, not_true_eq_false, beq_iff_eq, beq_eq_false_iff_ne, ne_eq, decide_eq_decide, true_iff, false_iff, iff_true, iff_false, true_and, and_true, false_or, or_false, Bool.and_true, Bool.and_eq_true, Bool.and_eq_false_iff, Bool.or_eq_true, Bool.or_eq_false_iff, List.length_cons, List.length_nil] at h) <;> (try (exfalso; first | omega | exact h rfl | (cases h; done) | exact absurd h (by assumption) | exact h (by assumption) | (simp at h; done)))) | refine ⟨⟨by (first | omega | (simp only [lenS]; omega)), by (first | omega | (simp only [lenS]; omega))⟩, _, by assumption, by rfl, ?_⟩ | refine .inl ⟨⟨by (first | omega | (simp only [lenS]; omega)), by (first | omega | (simp only [lenS]; omega))⟩, ?_⟩ | refine ⟨⟨by (first | omega | (simp only [lenS]; omega)), by (first | omega | (simp only [lenS]; omega))⟩, ?_⟩ | refine ⟨⟨by (first | omega | (simp only [lenS]; omega)), by (first | omega | (simp only [lenS]; omega)), by (first | omega | (simp only [lenS]; omega))⟩, ?_⟩ | refine ⟨.inl rfl, ?_⟩ | refine ⟨.inr (.inl (by (first | omega | (simp only [lenS]; omega)))), ?_⟩ | refine ⟨_, rfl, rfl, by (first | exact Nat.le_refl _ | exact Nat.le_of_ble_eq_true rfl | decide), ?_⟩ | refine ⟨_, rfl, by (first | exact Nat.le_refl _ | exact Nat.le_of_ble_eq_true rfl | decide), ?_⟩ | refine ⟨by (first | exact Nat.le_refl _ | exact Nat.le_of_ble_eq_true rfl | decide | exact rfl), ?_⟩ | refine ⟨show _ ≤ (9223372036854775807 : Nat) by (first | omega | (simp only [lenS]; omega)), ?_⟩ | refine ⟨show _ ≠ (0 : Int) by (first | omega | (simp only [lenS]; omega)), ?_⟩ | refine ⟨_, rfl, _, rfl, ?_⟩ | refine ⟨_, by assumption, Nat.le_of_ble_eq_true rfl, ?_⟩ | refine ⟨_, by assumption, _, rfl, ?_⟩ | refine ⟨_, rfl, ?_⟩ | fail)
      exact ⟨_, _, _, ⟨k + 1, rfl, hlt, hst hI (fun h => absurd h hk2), rfl, rfl⟩, by omega, Mv.of [] rfl rfl rfl trivial ⟨rfl, rfl, rfl, rfl, trivial⟩⟩
  · have hk' : k = T.length := by omega
    subst hk'
    rw [List.take_length] at hI
    have up : ∀ σ : Store, ∃ r2 σ2, FinMove ⟨0, []⟩ (AV.d (.bool true)) ⟨0, []⟩ r2 σ2 ∧ r2 = AV.d (.bool true) ∧ σ2.n = 0 := fun σ => ⟨_, _, fin_out rfl, rfl, rfl⟩
    cases hb : buildL T with
    | none =>
      rw [builtA_none hb] at hc3
      have hc4 := Size_ok 0 [] (Nat.le_refl _) (by omega)
      repeat' (first | refine PureC.use hc1 ?_ | refine PureC.use hc2 ?_ | refine PureC.use hc3 ?_ | refine PureC.use hc4 ?_ | refine PureC.use hc5 ?_ | refine PureC.use hc6 ?_ | refine PureC.use hc7 ?_ | refine PureC.use hc8 ?_ |    refine CallsAbs.use1 hd1 ?_ |            refine ⟨fun _ => ?_, fun h => absurd h (by decide)⟩ | refine ⟨fun h => absurd h (by decide), fun _ => ?_⟩ | (refine ⟨fun h => ?_, fun h => ?_⟩ <;> (try simp only [decide_eq_true_eq, decide_eq_false_iff_not, Bool.not_eq_true', Bool.not_eq_false', Bool.not_eq_true, Bool.not_eq_false, not_true_eq_false, beq_iff_eq, beq_eq_false_iff_ne, ne_eq, decide_eq_decide, true_iff, false_iff, iff_true, iff_false, true_and, and_true, false_or, or_false, Bool.and_true, Bool.and_eq_true, Bool.and_eq_false_iff, Bool.or_eq_true, Bool.or_eq_false_iff, List.length_cons, List.length_nil] at h) <;> (try (exfalso; first | omega | exact h rfl | (cases h; done) | exact absurd h (by assumption) | exact h (by assumption) | (simp at h; done)))) | refine ⟨⟨by (first | omega | (simp only [lenS]; omega)), by (first | omega | (simp only [lenS]; omega))⟩, _, by assumption, by rfl, ?_⟩ | refine .inl ⟨⟨by (first | omega | (simp only [lenS]; omega)), by (first | omega | (simp only [lenS]; omega))⟩, ?_⟩ | refine ⟨⟨by (first | omega | (simp only [lenS]; omega)), by (first | omega | (simp only [lenS]; omega))⟩, ?_⟩ | refine ⟨⟨by (first | omega | (simp only [lenS]; omega)), by (first | omega | (simp only [lenS]; omega)), by (first | omega | (simp only [lenS]; omega))⟩, ?_⟩ | refine ⟨.inl rfl, ?_⟩ | refine ⟨.inr (.inl (by (first | omega | (simp only [lenS]; omega)))), ?_⟩ | refine ⟨_, rfl, rfl, by (first | exact Nat.le_refl _ | exact Nat.le_of_ble_eq_true rfl | decide), ?_⟩ | refine ⟨_, rfl, by (first | exact Nat.le_refl _ | exact Nat.le_of_ble_eq_true rfl | decide), ?_⟩ | refine ⟨by (first | exact Nat.le_refl _ | exact Nat.le_of_ble_eq_true rfl | decide | exact rfl), ?_⟩ | refine ⟨show _ ≤ (9223372036854775807 : Nat) by (first | omega | (simp only [lenS]; omega)), ?_⟩ | refine ⟨show _ ≠ (0 : Int) by (first | omega | (simp only [lenS]; omega)), ?_⟩ | refine ⟨_, rfl, _, rfl, ?_⟩ | refine ⟨_, by assumption, Nat.le_of_ble_eq_true rfl, ?_⟩ | refine ⟨_, by assumption, _, rfl, ?_⟩ | refine ⟨_, rfl, ?_⟩ | fail)
      all_goals exact up ⟨0, []⟩
    | some l =>
      rw [builtA_some hb] at hc3
      have hw := build_wt hb
      have hsz := sz_wtL l
      have hht := ht_wtL l
      have hsh := Sh_wtL l (by omega)
      have hc4 := Size_ok (szL l) l (Nat.le_refl _) (by omega)
      unfold sizeV at hc4
      by_cases hd : dpL l ≤ 64
      · obtain ⟨g1, g2, g3⟩ := build_again hI hb hd
        have hstb : stableB l = true := by unfold stableB; rw [g1, decide_eq_true g2, decide_eq_true hd]; rfl
        have hc5 := HTML_ok l hsh (by omega) (by omega)
        have hc6 := Tokens_ok (htL l) (by omega)
        have hc7 := Build_toks (htL l) (by omega)
        rw [builtA_some g3] at hc7
        have hc8 := Same_ok (szL l) l l (Nat.le_refl _) (by omega) hsh
        rw [sameB_true rfl] at hc8
        have hd1 := Stable_ok l (by omega) hsh ⟨0, []⟩
        rw [hstb] at hd1
        repeat' (first | refine PureC.use hc1 ?_ | refine PureC.use hc2 ?_ | refine PureC.use hc3 ?_ | refine PureC.use hc4 ?_ | refine PureC.use hc5 ?_ | refine PureC.use hc6 ?_ | refine PureC.use hc7 ?_ | refine PureC.use hc8 ?_ |    refine CallsAbs.use1 hd1 ?_ |            refine ⟨fun _ => ?_, fun h => absurd h (by decide)⟩ | refine ⟨fun h => absurd h (by decide), fun _ => ?_⟩ | (refine ⟨fun h => ?_, fun h => ?_⟩ <;> (try simp only [decide_eq_true_eq, decide_eq_false_iff_not, Bool.not_eq_true', Bool.not_eq_false', Bool.not_eq_true, Bool.not_eq_false, not_true_eq_false, beq_iff_eq, beq_eq_false_iff_ne, ne_eq, decide_eq_decide, true_iff, false_iff, iff_true, iff_false, true_and, and_true, false_or, or_false, Bool.and_true, Bool.and_eq_true, Bool.and_eq_false_iff, Bool.or_eq_true, Bool.or_eq_false_iff, List.length_cons, List.length_nil] at h) <;> (try (exfalso; first | omega | exact h rfl | (cases h; done) | exact absurd h (by assumption) | exact h (by assumption) | (simp at h; done)))) | refine ⟨⟨by (first | omega | (simp only [lenS]; omega)), by (first | omega | (simp only [lenS]; omega))⟩, _, by assumption, by rfl, ?_⟩ | refine .inl ⟨⟨by (first | omega | (simp only [lenS]; omega)), by (first | omega | (simp only [lenS]; omega))⟩, ?_⟩ | refine ⟨⟨by (first | omega | (simp only [lenS]; omega)), by (first | omega | (simp only [lenS]; omega))⟩, ?_⟩ | refine ⟨⟨by (first | omega | (simp only [lenS]; omega)), by (first | omega | (simp only [lenS]; omega)), by (first | omega | (simp only [lenS]; omega))⟩, ?_⟩ | refine ⟨.inl rfl, ?_⟩ | refine ⟨.inr (.inl (by (first | omega | (simp only [lenS]; omega)))), ?_⟩ | refine ⟨_, rfl, rfl, by (first | exact Nat.le_refl _ | exact Nat.le_of_ble_eq_true rfl | decide), ?_⟩ | refine ⟨_, rfl, by (first | exact Nat.le_refl _ | exact Nat.le_of_ble_eq_true rfl | decide), ?_⟩ | refine ⟨by (first | exact Nat.le_refl _ | exact Nat.le_of_ble_eq_true rfl | decide | exact rfl), ?_⟩ | refine ⟨show _ ≤ (9223372036854775807 : Nat) by (first | omega | (simp only [lenS]; omega)), ?_⟩ | refine ⟨show _ ≠ (0 : Int) by (first | omega | (simp only [lenS]; omega)), ?_⟩ | refine ⟨_, rfl, _, rfl, ?_⟩ | refine ⟨_, by assumption, Nat.le_of_ble_eq_true rfl, ?_⟩ | refine ⟨_, by assumption, _, rfl, ?_⟩ | refine ⟨_, rfl, ?_⟩ | fail)
        all_goals exact up ⟨0, []⟩
      · repeat' (first | refine PureC.use hc1 ?_ | refine PureC.use hc2 ?_ | refine PureC.use hc3 ?_ | refine PureC.use hc4 ?_ | refine PureC.use hc5 ?_ | refine PureC.use hc6 ?_ | refine PureC.use hc7 ?_ | refine PureC.use hc8 ?_ |    refine CallsAbs.use1 hd1 ?_ |            refine ⟨fun _ => ?_, fun h => absurd h (by decide)⟩ | refine ⟨fun h => absurd h (by decide), fun _ => ?_⟩ | (refine ⟨fun h => ?_, fun h => ?_⟩ <;> (try simp only [decide_eq_true_eq, decide_eq_false_iff_not, Bool.not_eq_true', Bool.not_eq_false', Bool.not_eq_true, Bool.not_eq_false, not_true_eq_false, beq_iff_eq, beq_eq_false_iff_ne, ne_eq, decide_eq_decide, true_iff, false_iff, iff_true, iff_false, true_and, and_true, false_or, or_false, Bool.and_true, Bool.and_eq_true, Bool.and_eq_false_iff, Bool.or_eq_true, Bool.or_eq_false_iff, List.length_cons, List.length_nil] at h) <;> (try (exfalso; first | omega | exact h rfl | (cases h; done) | exact absurd h (by assumption) | exact h (by assumption) | (simp at h; done)))) | refine ⟨⟨by (first | omega | (simp only [lenS]; omega)), by (first | omega | (simp only [lenS]; omega))⟩, _, by assumption, by rfl, ?_⟩ | refine .inl ⟨⟨by (first | omega | (simp only [lenS]; omega)), by (first | omega | (simp only [lenS]; omega))⟩, ?_⟩ | refine ⟨⟨by (first | omega | (simp only [lenS]; omega)), by (first | omega | (simp only [lenS]; omega))⟩, ?_⟩ | refine ⟨⟨by (first | omega | (simp only [lenS]; omega)), by (first | omega | (simp only [lenS]; omega)), by (first | omega | (simp only [lenS]; omega))⟩, ?_⟩ | refine ⟨.inl rfl, ?_⟩ | refine ⟨.inr (.inl (by (first | omega | (simp only [lenS]; omega)))), ?_⟩ | refine ⟨_, rfl, rfl, by (first | exact Nat.le_refl _ | exact Nat.le_of_ble_eq_true rfl | decide), ?_⟩ | refine ⟨_, rfl, by (first | exact Nat.le_refl _ | exact Nat.le_of_ble_eq_true rfl | decide), ?_⟩ | refine ⟨by (first | exact Nat.le_refl _ | exact Nat.le_of_ble_eq_true rfl | decide | exact rfl), ?_⟩ | refine ⟨show _ ≤ (9223372036854775807 : Nat) by (first | omega | (simp only [lenS]; omega)), ?_⟩ | refine ⟨show _ ≠ (0 : Int) by (first | omega | (simp only [lenS]; omega)), ?_⟩ | refine ⟨_, rfl, _, rfl, ?_⟩ | refine ⟨_, by assumption, Nat.le_of_ble_eq_true rfl, ?_⟩ | refine ⟨_, by assumption, _, rfl, ?_⟩ | refine ⟨_, rfl, ?_⟩ | fail)
        all_goals exact up ⟨0, []⟩
theorem SerBuilt_law {n : Nat} {r : List D} (h : DOk Try.prog n 9 r) : PureC Try.prog 9 [argAV Try.prog 9 r] (.d (.bool true)) := by
  obtain ⟨s, rfl, hs⟩ := dok_str h
  rw [arg_str]; exact SerBuilt_ok s hs
end Go.Proofs.Ytcmkiancbgmmhaa
