import Derived.Test.YtofnkpglgdfaeaaPolG
namespace Go.Proofs.Ytofnkpglgdfaeaa
open Go.Aw
set_option maxHeartbeats 1600000
set_option linter.unusedSimpArgs false
set_option linter.unusedVariables false

def wtS : List (List UInt8) → Nat
  | [] => 0
  | s :: r => min s.length 10000 + wtS r
def wtLS : List (List (List UInt8)) → Nat
  | [] => 0
  | s :: r => wtS s + wtLS r
def listsOf (p : Pol) : List (List (List UInt8)) := [p.el, p.at', p.sc, p.cl, p.pr]
def lightP (p : Pol) : Bool := (listsOf p).all (fun l => decide (l.length ≤ 100)) && decide (wtLS (listsOf p) < 6000)
def llD (l : List (List (List UInt8))) : List (List D) := l.map fun s => [.sl (strsD s)]
theorem wtS_snoc (l : List (List UInt8)) (s : List UInt8) : wtS (l ++ [s]) = wtS l + min s.length 10000 := by
  induction l with
  | nil => simp [wtS]
  | cons a r ih => rw [List.cons_append, wtS, wtS, ih]; omega
theorem wtLS_snoc (l : List (List (List UInt8))) (s : List (List UInt8)) : wtLS (l ++ [s]) = wtLS l + wtS s := by
  induction l with
  | nil => simp [wtLS]
  | cons a r ih => rw [List.cons_append, wtLS, wtLS, ih]; omega
theorem wtS_le : ∀ (l : List (List UInt8)), wtS l ≤ 10000 * l.length
  | [] => Nat.le_refl _
  | a :: r => by have := wtS_le r; rw [wtS, List.length_cons]; omega
theorem wtS_mem {l : List (List UInt8)} {s : List UInt8} (h : s ∈ l) : min s.length 10000 ≤ wtS l := by
  induction l with
  | nil => simp at h
  | cons a r ih =>
    rw [wtS]
    rcases List.mem_cons.1 h with rfl | h
    · omega
    · have := ih h; omega
theorem wtLS_mem {l : List (List (List UInt8))} {s : List (List UInt8)} (h : s ∈ l) : wtS s ≤ wtLS l := by
  induction l with
  | nil => simp at h
  | cons a r ih =>
    rw [wtLS]
    rcases List.mem_cons.1 h with rfl | h
    · omega
    · have := ih h; omega
/-- A light policy fits. -/
theorem light_fits {p : Pol} (h : lightP p = true) : Fits p := by
  unfold lightP at h
  rw [Bool.and_eq_true, decide_eq_true_eq, List.all_eq_true] at h
  have key : ∀ l ∈ listsOf p, FitsL l := fun l hl => by
    refine ⟨by have := h.1 l hl; simp at this; omega, fun s hs => ?_⟩
    have h1 := wtS_mem hs
    have h2 := wtLS_mem hl
    omega
  exact ⟨key _ (by simp [listsOf]), key _ (by simp [listsOf]), key _ (by simp [listsOf]), key _ (by simp [listsOf]), key _ (by simp [listsOf])⟩
theorem llD_len (l : List (List (List UInt8))) : (llD l).length = l.length := by simp [llD]
theorem llD_get (l : List (List (List UInt8))) (k : Nat) (h : k < l.length) : (llD l)[((k : Nat) : Int).toNat]? = some [.sl (strsD l[k])] := by simp [llD, h]

set_option maxRecDepth 100000 in
theorem pLight_ok (p : Pol) : PureC Try.prog 24 [polA p] (.d (.bool (lightP p))) := by
  refine PureC.of rfl rfl (fn_okTE Try.wf Try.tab_ok Try.func24 (by decide +kernel) rfl rfl ?_)
  refine E.seq (E.of Try.wf Try.tab_ok ?_)
  refine E.seq (E.of Try.wf Try.tab_ok ?_)
  refine E.seq (midE (fun s' σ => s' = [(1, .ref 0 0 0), (3, .d (.int .i64 0)), (17, .d (.sl (llD (listsOf p)))), (18, .d (.int .i64 (listsOf p).length)), (19, .d (.int .i64 0))] ∧ σ = ⟨1, [(0, boxO p)]⟩) ?_ ?_)
  · refine textT Try.wf Try.tab_ok ?_
    iterate 5
      refine pstep _ rfl rfl (FinMove.refl _ _ _) ?_
      refine pstep _ rfl rfl ⟨_, rfl, _, rfl, FinMove.refl _ _ _⟩ ?_
    refine pstep (r := .d (.sl (llD (listsOf p)))) ⟨1, [(0, boxO p)]⟩ rfl rfl (fin_lit rfl rfl rfl ⟨⟨rfl, .inl ⟨rfl, box_pure p⟩⟩, trivial⟩) ?_
    refine pstep _ rfl rfl (FinMove.refl _ _ _) ?_
    refine pstep _ rfl rfl (FinMove.refl _ _ _) ?_
    exact ⟨_, _, ⟨rfl, rfl⟩, Mv.of [.old 0] rfl rfl rfl ⟨⟨rfl, .inl ⟨rfl, box_pure p⟩⟩, trivial⟩ ⟨⟨rfl, rfl, rfl⟩, rfl, rfl, rfl, rfl, trivial⟩⟩
  rintro _ _ ⟨rfl, rfl⟩
  have hn := llD_len (listsOf p)
  have hbnd : (listsOf p).length = 5 := rfl
  have hL : lightP p = ((listsOf p).all (fun l => decide (l.length ≤ 100)) && decide (wtLS (listsOf p) < 6000)) := rfl
  generalize listsOf p = L at *
  refine E.of Try.wf Try.tab_ok ?_
  refine loopT Try.wf Try.tab_ok (fun n s' σ => ∃ k : Nat, n = L.length - k ∧ k ≤ L.length ∧ (L.take k).all (fun l => decide (l.length ≤ 100)) = true ∧ wtLS (L.take k) ≤ 10000000 * k ∧ s' = [(1, .ref 0 0 0), (3, .d (.int .i64 (wtLS (L.take k)))), (17, .d (.sl (llD L))), (18, .d (.int .i64 L.length)), (19, .d (.int .i64 k))] ∧ σ = ⟨1, [(0, boxO p)]⟩)
    ⟨0, rfl, Nat.zero_le _, rfl, Nat.le_refl _, rfl, rfl⟩ (Mv.of [.old 0] rfl rfl rfl ⟨⟨rfl, .inl ⟨rfl, box_pure p⟩⟩, trivial⟩ ⟨⟨rfl, rfl, rfl⟩, rfl, rfl, rfl, rfl, trivial⟩) ?_
  rintro _ _ _ ⟨k, rfl, hk, hI, hW, rfl, rfl⟩
  refine ⟨fun h => ?_, fun h => ?_⟩
  · have hlt : k < L.length := by have := of_decide_eq_true h; omega
    clear h
    have hg := llD_get L k hlt
    have hst := all_step (fun l => decide (l.length ≤ 100)) L k hlt
    rw [hI, Bool.true_and] at hst
    have hw2 := wtLS_snoc (L.take k) L[k]
    rw [← List.take_succ_eq_append_getElem hlt] at hw2
    have no : (L.take (k + 1)).all (fun l => decide (l.length ≤ 100)) = false → lightP p = false := fun h => by rw [hL, all_pre _ _ _ h]; rfl
    clear hL
    have hm := strsD_len L[k]
    have hb := wtS_le L[k]
    generalize L[k] = l at *
    generalize wtLS (L.take k) = w at *
    repeat' (first |                   refine ⟨fun _ => ?_, fun h => absurd h (by decide)⟩ | refine ⟨fun h => absurd h (by decide), fun _ => ?_⟩ | (refine ⟨fun h => ?_, fun h => ?_⟩ <;> (try simp only [decide_eq_true_eq, decide_eq_false_iff_not, Bool.not_eq_true', Bool.not_eq_false', Bool.not_eq_true, Bool.not_eq_false, not_true_eq_false, true_and, and_true, false_or, or_false, Bool.and_true, Bool.and_eq_true, Bool.and_eq_false_iff, Bool.or_eq_true, Bool.or_eq_false_iff, List.length_cons, List.length_nil] at h) <;> (try (exfalso; omega))) | refine ⟨⟨by (first | omega | (simp only [List.length_append, List.length_cons, List.length_nil, List.length_drop, List.length_take]; omega)), by (first | omega | (simp only [List.length_append, List.length_cons, List.length_nil, List.length_drop, List.length_take]; omega))⟩, _, by assumption, by rfl, ?_⟩ | refine .inl ⟨⟨by (first | omega | (simp only [List.length_append, List.length_cons, List.length_nil, List.length_drop, List.length_take]; omega)), by (first | omega | (simp only [List.length_append, List.length_cons, List.length_nil, List.length_drop, List.length_take]; omega))⟩, ?_⟩ | refine ⟨⟨by (first | omega | (simp only [List.length_append, List.length_cons, List.length_nil, List.length_drop, List.length_take]; omega)), by (first | omega | (simp only [List.length_append, List.length_cons, List.length_nil, List.length_drop, List.length_take]; omega))⟩, ?_⟩ | refine ⟨⟨by (first | omega | (simp only [List.length_append, List.length_cons, List.length_nil, List.length_drop, List.length_take]; omega)), by (first | omega | (simp only [List.length_append, List.length_cons, List.length_nil, List.length_drop, List.length_take]; omega)), by (first | omega | (simp only [List.length_append, List.length_cons, List.length_nil, List.length_drop, List.length_take]; omega))⟩, ?_⟩ | refine ⟨.inl rfl, ?_⟩ | refine ⟨.inr (.inl (by (first | omega | (simp only [List.length_append, List.length_cons, List.length_nil, List.length_drop, List.length_take]; omega)))), ?_⟩ | refine ⟨_, rfl, rfl, by (first | exact Nat.le_refl _ | exact Nat.le_of_ble_eq_true rfl | decide), ?_⟩ | refine ⟨_, rfl, by (first | exact Nat.le_refl _ | exact Nat.le_of_ble_eq_true rfl | decide), ?_⟩ | refine ⟨by (first | exact Nat.le_refl _ | exact Nat.le_of_ble_eq_true rfl | decide), ?_⟩ | refine ⟨show _ ≤ (9223372036854775807 : Nat) by (first | omega | (simp only [List.length_append, List.length_cons, List.length_nil, List.length_drop, List.length_take]; omega)), ?_⟩ | refine ⟨show _ ≠ (0 : Int) by (first | omega | (simp only [List.length_append, List.length_cons, List.length_nil, List.length_drop, List.length_take]; omega)), ?_⟩ | refine ⟨_, rfl, _, rfl, ?_⟩ | refine ⟨_, by assumption, Nat.le_of_ble_eq_true rfl, ?_⟩ | refine ⟨_, by assumption, _, rfl, ?_⟩ | refine ⟨_, rfl, ?_⟩ | fail)
    · exact ⟨_, _, fin_out rfl, congrArg (fun b => AV.d (.bool b)) (no (by rw [hst, decide_eq_false_iff_not]; omega)).symm, rfl⟩
    have hl100 : l.length ≤ 100 := by omega
    rw [decide_eq_true hl100] at hst
    clear no h
    refine loopT Try.wf Try.tab_ok (fun n s' σ => ∃ j : Nat, n = l.length - j ∧ j ≤ l.length ∧ wtS (l.take j) ≤ 10000 * j ∧ s' = [(1, .ref 0 0 0), (3, .d (.int .i64 ((w + wtS (l.take j) : Nat) : Int))), (5, .d (.sl (strsD l))), (6, .d (.int .i64 j)), (17, .d (.sl (llD L))), (18, .d (.int .i64 L.length)), (19, .d (.int .i64 k))] ∧ σ = ⟨1, [(0, boxO p)]⟩)
      ⟨0, rfl, Nat.zero_le _, Nat.le_refl _, rfl, rfl⟩ (Mv.of [.old 0] rfl rfl rfl ⟨⟨rfl, .inl ⟨rfl, box_pure p⟩⟩, trivial⟩ ⟨⟨rfl, rfl, rfl⟩, rfl, rfl, rfl, rfl, rfl, rfl, trivial⟩) ?_
    rintro _ _ _ ⟨j, rfl, hj, hW2, rfl, rfl⟩
    refine ⟨fun h => ?_, fun h => ?_⟩
    · have hlt2 : j < l.length := by have := of_decide_eq_true h; omega
      clear h
      have hgj := strsD_get l j hlt2
      have hw3 := wtS_snoc (l.take j) l[j]
      rw [← List.take_succ_eq_append_getElem hlt2] at hw3
      generalize l[j] = s at *
      generalize wtS (l.take j) = v at *
      have e0 : (if (10000 : Int) < (s.length : Int) then (10000 : Int) else (s.length : Int)) = ((min s.length 10000 : Nat) : Int) := by split <;> omega
      have e1 : ((w + v : Nat) : Int) + ((min s.length 10000 : Nat) : Int) = ((w + wtS (l.take (j + 1)) : Nat) : Int) := by rw [hw3]; omega
      have e2 : ((w + v : Nat) : Int) + (if (10000 : Int) < (s.length : Int) then (10000 : Int) else (s.length : Int)) = ((w + wtS (l.take (j + 1)) : Nat) : Int) := by rw [e0, e1]
      clear e0 e1
      repeat' (first |                   refine ⟨fun _ => ?_, fun h => absurd h (by decide)⟩ | refine ⟨fun h => absurd h (by decide), fun _ => ?_⟩ | (refine ⟨fun h => ?_, fun h => ?_⟩ <;> (try simp only [decide_eq_true_eq, decide_eq_false_iff_not, Bool.not_eq_true', Bool.not_eq_false', Bool.not_eq_true, Bool.not_eq_false, not_true_eq_false, true_and, and_true, false_or, or_false, Bool.and_true, Bool.and_eq_true, Bool.and_eq_false_iff, Bool.or_eq_true, Bool.or_eq_false_iff, List.length_cons, List.length_nil] at h) <;> (try (exfalso; omega))) | refine ⟨⟨by (first | omega | (simp only [List.length_append, List.length_cons, List.length_nil, List.length_drop, List.length_take]; omega)), by (first | omega | (simp only [List.length_append, List.length_cons, List.length_nil, List.length_drop, List.length_take]; omega))⟩, _, by assumption, by rfl, ?_⟩ | refine .inl ⟨⟨by (first | omega | (simp only [List.length_append, List.length_cons, List.length_nil, List.length_drop, List.length_take]; omega)), by (first | omega | (simp only [List.length_append, List.length_cons, List.length_nil, List.length_drop, List.length_take]; omega))⟩, ?_⟩ | refine ⟨⟨by (first | omega | (simp only [List.length_append, List.length_cons, List.length_nil, List.length_drop, List.length_take]; omega)), by (first | omega | (simp only [List.length_append, List.length_cons, List.length_nil, List.length_drop, List.length_take]; omega))⟩, ?_⟩ | refine ⟨⟨by (first | omega | (simp only [List.length_append, List.length_cons, List.length_nil, List.length_drop, List.length_take]; omega)), by (first | omega | (simp only [List.length_append, List.length_cons, List.length_nil, List.length_drop, List.length_take]; omega)), by (first | omega | (simp only [List.length_append, List.length_cons, List.length_nil, List.length_drop, List.length_take]; omega))⟩, ?_⟩ | refine ⟨.inl rfl, ?_⟩ | refine ⟨.inr (.inl (by (first | omega | (simp only [List.length_append, List.length_cons, List.length_nil, List.length_drop, List.length_take]; omega)))), ?_⟩ | refine ⟨_, rfl, rfl, by (first | exact Nat.le_refl _ | exact Nat.le_of_ble_eq_true rfl | decide), ?_⟩ | refine ⟨_, rfl, by (first | exact Nat.le_refl _ | exact Nat.le_of_ble_eq_true rfl | decide), ?_⟩ | refine ⟨by (first | exact Nat.le_refl _ | exact Nat.le_of_ble_eq_true rfl | decide), ?_⟩ | refine ⟨show _ ≤ (9223372036854775807 : Nat) by (first | omega | (simp only [List.length_append, List.length_cons, List.length_nil, List.length_drop, List.length_take]; omega)), ?_⟩ | refine ⟨show _ ≠ (0 : Int) by (first | omega | (simp only [List.length_append, List.length_cons, List.length_nil, List.length_drop, List.length_take]; omega)), ?_⟩ | refine ⟨_, rfl, _, rfl, ?_⟩ | refine ⟨_, by assumption, Nat.le_of_ble_eq_true rfl, ?_⟩ | refine ⟨_, by assumption, _, rfl, ?_⟩ | refine ⟨_, rfl, ?_⟩ | fail)
      exact ⟨_, _, _, ⟨j + 1, rfl, hlt2, by omega, rfl, rfl⟩, by omega, Mv.of [.old 0] rfl rfl rfl ⟨⟨rfl, .inl ⟨rfl, box_pure p⟩⟩, trivial⟩ ⟨⟨rfl, rfl, rfl⟩, congrArg (fun n : Int => D.int .i64 n) e2.symm, rfl, rfl, rfl, rfl, rfl, trivial⟩⟩
    · have hj' : j = l.length := by have := of_decide_eq_false h; omega
      subst hj'
      rw [List.take_length] at hW2 ⊢
      clear h
      repeat' (first |                   refine ⟨fun _ => ?_, fun h => absurd h (by decide)⟩ | refine ⟨fun h => absurd h (by decide), fun _ => ?_⟩ | (refine ⟨fun h => ?_, fun h => ?_⟩ <;> (try simp only [decide_eq_true_eq, decide_eq_false_iff_not, Bool.not_eq_true', Bool.not_eq_false', Bool.not_eq_true, Bool.not_eq_false, not_true_eq_false, true_and, and_true, false_or, or_false, Bool.and_true, Bool.and_eq_true, Bool.and_eq_false_iff, Bool.or_eq_true, Bool.or_eq_false_iff, List.length_cons, List.length_nil] at h) <;> (try (exfalso; omega))) | refine ⟨⟨by (first | omega | (simp only [List.length_append, List.length_cons, List.length_nil, List.length_drop, List.length_take]; omega)), by (first | omega | (simp only [List.length_append, List.length_cons, List.length_nil, List.length_drop, List.length_take]; omega))⟩, _, by assumption, by rfl, ?_⟩ | refine .inl ⟨⟨by (first | omega | (simp only [List.length_append, List.length_cons, List.length_nil, List.length_drop, List.length_take]; omega)), by (first | omega | (simp only [List.length_append, List.length_cons, List.length_nil, List.length_drop, List.length_take]; omega))⟩, ?_⟩ | refine ⟨⟨by (first | omega | (simp only [List.length_append, List.length_cons, List.length_nil, List.length_drop, List.length_take]; omega)), by (first | omega | (simp only [List.length_append, List.length_cons, List.length_nil, List.length_drop, List.length_take]; omega))⟩, ?_⟩ | refine ⟨⟨by (first | omega | (simp only [List.length_append, List.length_cons, List.length_nil, List.length_drop, List.length_take]; omega)), by (first | omega | (simp only [List.length_append, List.length_cons, List.length_nil, List.length_drop, List.length_take]; omega)), by (first | omega | (simp only [List.length_append, List.length_cons, List.length_nil, List.length_drop, List.length_take]; omega))⟩, ?_⟩ | refine ⟨.inl rfl, ?_⟩ | refine ⟨.inr (.inl (by (first | omega | (simp only [List.length_append, List.length_cons, List.length_nil, List.length_drop, List.length_take]; omega)))), ?_⟩ | refine ⟨_, rfl, rfl, by (first | exact Nat.le_refl _ | exact Nat.le_of_ble_eq_true rfl | decide), ?_⟩ | refine ⟨_, rfl, by (first | exact Nat.le_refl _ | exact Nat.le_of_ble_eq_true rfl | decide), ?_⟩ | refine ⟨by (first | exact Nat.le_refl _ | exact Nat.le_of_ble_eq_true rfl | decide), ?_⟩ | refine ⟨show _ ≤ (9223372036854775807 : Nat) by (first | omega | (simp only [List.length_append, List.length_cons, List.length_nil, List.length_drop, List.length_take]; omega)), ?_⟩ | refine ⟨show _ ≠ (0 : Int) by (first | omega | (simp only [List.length_append, List.length_cons, List.length_nil, List.length_drop, List.length_take]; omega)), ?_⟩ | refine ⟨_, rfl, _, rfl, ?_⟩ | refine ⟨_, by assumption, Nat.le_of_ble_eq_true rfl, ?_⟩ | refine ⟨_, by assumption, _, rfl, ?_⟩ | refine ⟨_, rfl, ?_⟩ | fail)
      refine ⟨_, _, _, ⟨k + 1, rfl, hlt, hst, by omega, rfl, rfl⟩, by omega, Mv.of [.old 0] rfl rfl rfl ⟨⟨rfl, .inl ⟨rfl, box_pure p⟩⟩, trivial⟩ ⟨⟨rfl, rfl, rfl⟩, congrArg (fun n : Nat => D.int .i64 n) hw2, rfl, rfl, rfl, trivial⟩⟩
  · have hk' : k = L.length := by have := of_decide_eq_false h; omega
    subst hk'
    rw [List.take_length] at hI ⊢
    rw [hL, hI, Bool.true_and]
    refine E.of Try.wf Try.tab_ok ?_
    exact ⟨_, _, fin_out rfl, congrArg (fun b => AV.d (.bool b)) (by rw [decide_eq_decide]; omega), rfl⟩

def prevP (l : List Pol) (k : Nat) : Pol := match k with
  | 0 => zeroPol
  | j + 1 => (l[j]?).getD zeroPol
theorem polsD_getm (l : List Pol) (k : Nat) (h : k < l.length) : (polsD l)[(((k : Nat) : Int) - 1).toNat]? = some (polD (l[k - 1]'(by omega))) := by
  rw [show (((k : Nat) : Int) - 1).toNat = k - 1 by omega]; simp [polsD, show k - 1 < l.length by omega]

def lightL (l : List Pol) : Bool := decide (l.length ≤ 12) && l.all lightP
theorem lightL_fits {l : List Pol} (h : lightL l = true) : l.length ≤ 12 ∧ ∀ p ∈ l, Fits p := by
  unfold lightL at h
  rw [Bool.and_eq_true, decide_eq_true_eq, List.all_eq_true] at h
  exact ⟨h.1, fun p hp => light_fits (h.2 p hp)⟩
end Go.Proofs.Ytofnkpglgdfaeaa
