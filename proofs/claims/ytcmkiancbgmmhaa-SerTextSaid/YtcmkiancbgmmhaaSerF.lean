import Derived.Test.YtcmkiancbgmmhaaSerD
import Derived.Test.YtcmkiancbgmmhaaRefsK
namespace Go.Proofs.Ytcmkiancbgmmhaa
open Go.Aw
set_option maxHeartbeats 1600000
set_option linter.unusedSimpArgs false
set_option linter.unusedVariables false

def attrH (a : List UInt8 × List UInt8) : List UInt8 := [32] ++ a.1 ++ [61, 34] ++ escape true a.2 ++ [34]
def attrsH (l : List (List UInt8 × List UInt8)) : List UInt8 := l.flatMap attrH
mutual
def htN : Node → List UInt8
  | .mk nm a t k => if nm = [] then escape false t else [60] ++ nm ++ attrsH a ++ [62] ++ (if nm ∈ voids then [] else htL k ++ ([60, 47] ++ nm ++ [62]))
def htL : List Node → List UInt8
  | [] => []
  | n :: r => htN n ++ htL r
end
theorem htN_eq (n : Node) : htN n = if n.name = [] then escape false n.text else [60] ++ n.name ++ attrsH n.attrs ++ [62] ++ (if n.name ∈ voids then [] else htL n.kids ++ ([60, 47] ++ n.name ++ [62])) := by cases n; unfold htN; rfl
theorem htL_cons (n : Node) (r : List Node) : htL (n :: r) = htN n ++ htL r := by rw [htL]
theorem htL_append : ∀ a b : List Node, htL (a ++ b) = htL a ++ htL b
  | [], b => by rw [htL]; rfl
  | n :: r, b => by rw [List.cons_append, htL_cons, htL_cons, htL_append r b, List.append_assoc]
theorem attrsH_cons (a : List UInt8 × List UInt8) (r : List (List UInt8 × List UInt8)) : attrsH (a :: r) = attrH a ++ attrsH r := rfl

def partV (n : Node) : AV := if n.name = [] then .ifc 73 (.d (.str n.text)) else .ifc 74 (nodeA n)
theorem partV_pure (n : Node) : (partV n).pure = true := by unfold partV; split <;> rfl
set_option maxRecDepth 100000 in
theorem partOf_ok (n : Node) : PureC Try.prog 27 [nodeA n] (partV n) := by
  refine pure_okT Try.wf Try.tab_ok Try.func27 (by decide +kernel) rfl rfl rfl (partV_pure n) ?_
  refine ⟨_, rfl, _, rfl, ?_⟩
  by_cases h : n.name = []
  · refine ⟨fun _ => ?_, fun h' => absurd (of_decide_eq_false h') (fun h' => h' h)⟩
    refine ⟨_, rfl, _, rfl, ?_⟩
    exact ⟨_, _, fin_out rfl, by unfold partV; rw [if_pos h]; rfl⟩
  · refine ⟨fun h' => absurd (of_decide_eq_true h') h, fun _ => ?_⟩
    refine ⟨_, rfl, Nat.le_refl _, ?_⟩
    exact ⟨_, _, fin_out rfl, by unfold partV; rw [if_neg h]; rfl⟩

abbrev bldS (s : List UInt8) : Store := ⟨1, [(0, .bld 50 5 s)]⟩
set_option maxRecDepth 100000 in
theorem lay_words (w s : List UInt8) (hw : w.length ≤ 1000000000) (hs : s.length + (escape false w).length ≤ 140737488355328) : CallsAbs Try.prog 114 [.d (.str w), .ref 0 0 0] (bldS s) fun r σ' => r = .tup [] ∧ σ' = bldS (s ++ escape false w) := by
  refine fn_okTE Try.wf Try.tab_ok Try.func114 (by decide +kernel) rfl rfl ?_
  refine E.of Try.wf Try.tab_ok ?_
  refine PureC.use (Escape_ok w false (by omega)) ?_
  refine CallsAbs.frame (WriteString_ok (s) (escape false w) hs) [.old 0] ⟨Nat.zero_le _, rfl, rfl, ⟨⟨rfl, rfl, rfl⟩, trivial⟩⟩ ⟨⟨rfl, rfl, rfl⟩, rfl, trivial⟩ ?_
  rintro _ _ ⟨rfl, rfl⟩
  refine ⟨.tup [.d (.int .i64 ((escape false w : List UInt8).length : Nat)), .nili], [(0, .bld 50 5 (s ++ escape false w))], ⟨⟨rfl, rfl, rfl⟩, trivial⟩, rfl, ⟨rfl, trivial, trivial⟩, ?_⟩
  exact ⟨.tup [], bldS (s ++ escape false w), fin_mv [] rfl rfl rfl ⟨⟨rfl, rfl, rfl⟩, trivial⟩ trivial, rfl, rfl⟩

theorem lay_method_w : methodOf Try.prog 73 "verso/ser.lay" = some 114 := by decide +kernel
theorem lay_method_e : methodOf Try.prog 74 "verso/ser.lay" = some 116 := by decide +kernel
def nodeE (n : Node) : Ob := .rows (4, 74) [[.d (.str n.name), .d (.sl (attrsD n.attrs)), .d (.str n.text), .d (.sl (nodesD n.kids))]]

def attrO (a : List UInt8 × List UInt8) : Ob := .rows (2, 42) [[.d (.str a.1), .d (.str a.2)]]
theorem htN_attrs (n : Node) (h : n.name ≠ []) : (attrsH n.attrs).length + 2 * n.name.length + 2 ≤ (htN n).length + n.name.length := by
  rw [htN_eq, if_neg h]; simp only [List.length_append, List.length_cons, List.length_nil]; omega
theorem attrsH_take (l : List (List UInt8 × List UInt8)) (k : Nat) (h : k < l.length) : attrsH (l.take (k + 1)) = attrsH (l.take k) ++ attrH l[k] := by
  unfold attrsH
  rw [List.take_succ_eq_append_getElem h, List.flatMap_append]; simp
theorem htL_take (l : List Node) (k : Nat) (h : k < l.length) : htL (l.take (k + 1)) = htL (l.take k) ++ htN l[k] := by
  rw [List.take_succ_eq_append_getElem h, htL_append]
  rw [htL_cons]; show _ = _; rw [htL, List.append_nil]
theorem attrsH_take_le (l : List (List UInt8 × List UInt8)) (k : Nat) : (attrsH (l.take k)).length ≤ (attrsH l).length := by
  have : attrsH l = attrsH (l.take k) ++ attrsH (l.drop k) := by
    unfold attrsH; rw [← List.flatMap_append, List.take_append_drop]
  rw [this, List.length_append]; omega
theorem htL_take_le (l : List Node) (k : Nat) : (htL (l.take k)).length ≤ (htL l).length := by
  have : htL l = htL (l.take k) ++ htL (l.drop k) := by
    rw [← htL_append, List.take_append_drop]
  rw [this, List.length_append]; omega

set_option maxHeartbeats 1000000 in
set_option maxRecDepth 100000 in
theorem lay_elem (N : Nat) : ∀ (n : Node) (s : List UInt8), szN n ≤ N → ShN n → n.name ≠ [] → s.length + (htN n).length ≤ 100000000000 → szN n ≤ 1000000000 → CallsAbs Try.prog 116 [nodeA n, .ref 0 0 0] (bldS s) fun r σ' => r = .tup [] ∧ σ' = bldS (s ++ htN n) := by
  induction N using Nat.strongRecOn with
  | ind N ih =>
  intro n s hN hSh hne hs hB
  have hsn := (ShN_eq _).1 hSh
  have hsz := szN_eq n
  have hkl := nodesD_len n.kids
  have hal := attrsD_len n.attrs
  have hlen := sz_len n.kids
  have hatt := hsn.2.1.1
  have hht := htN_eq n
  rw [if_neg hne] at hht
  have hL := congrArg List.length hht
  simp only [List.length_append, List.length_cons, List.length_nil] at hL
  refine fn_okTE Try.wf Try.tab_ok Try.func116 (by decide +kernel) rfl rfl ?_
  refine E.seq (E.of Try.wf Try.tab_ok ?_)
  refine E.seq (E.of Try.wf Try.tab_ok ?_)
  refine ⟨_, rfl, _, rfl, ?_⟩
  refine ⟨by simp only [List.length_cons, List.length_nil]; omega, ?_⟩
  refine CallsAbs.frame (WriteString_ok (s) (([60] ++ n.name)) (by simp only [List.length_append, List.length_cons, List.length_nil]; omega)) [.old 0] ⟨Nat.zero_le _, rfl, rfl, ⟨⟨rfl, rfl, rfl⟩, trivial⟩⟩ ⟨⟨rfl, rfl, rfl⟩, rfl, trivial⟩ ?_
  rintro _ _ ⟨rfl, rfl⟩
  refine ⟨.tup [.d (.int .i64 ((([60] ++ n.name) : List UInt8).length : Nat)), .nili], [(0, .bld 50 5 (s ++ ([60] ++ n.name)))], ⟨⟨rfl, rfl, rfl⟩, trivial⟩, rfl, ⟨rfl, trivial, trivial⟩, ?_⟩
  refine midE (fun s' σ => s' = [(1, .ref 0 0 0), (2, .ref 1 0 0)] ∧ σ = ⟨2, [(0, .bld 50 5 (s ++ ([60] ++ n.name) ++ attrsH n.attrs)), (1, nodeE n)]⟩) ?_ ?_
  · refine E.seq (E.of Try.wf Try.tab_ok ?_)
    refine ⟨_, rfl, _, rfl, ?_⟩
    refine blockE ?_
    refine loopE (fun m s' σ => ∃ (k : Nat), m = n.attrs.length - k ∧ k ≤ n.attrs.length ∧ s' = [(1, .ref 0 0 0), (2, .ref 1 0 0), (14, .d (.sl (attrsD n.attrs))), (15, .d (.int .i64 n.attrs.length)), (16, .d (.int .i64 k))] ∧ σ = ⟨2, [(0, .bld 50 5 (s ++ ([60] ++ n.name) ++ attrsH (n.attrs.take k))), (1, nodeE n)]⟩)
      ⟨0, rfl, Nat.zero_le _, rfl, rfl⟩ ?_ ?_
    · exact Mv.of [.old 1] rfl rfl rfl ⟨⟨rfl, rfl, by simp [attrsH]⟩, ⟨rfl, .inl ⟨rfl, fun row h => by rw [List.mem_singleton.1 h]; rfl⟩⟩, trivial⟩ ⟨⟨rfl, rfl, rfl⟩, ⟨rfl, rfl, rfl⟩, rfl, by rw [← hal]; rfl, rfl, trivial⟩
    rintro _ _ _ ⟨k, rfl, hk, rfl, rfl⟩
    refine E.seq (E.of Try.wf Try.tab_ok ?_)
    refine E.seq (E.of Try.wf Try.tab_ok ?_)
    refine ⟨fun h => ?_, fun h => ?_⟩
    · have hlt : k < n.attrs.length := by have := of_decide_eq_true h; omega
      clear h
      have htk := attrsH_take n.attrs k hlt
      have hle := attrsH_take_le n.attrs (k + 1)
      have hsa := hsn.2.1.2 _ (List.getElem_mem hlt)
      have hel := (escape_len n.attrs[k].2.length true n.attrs[k].2 (Nat.le_refl _)).2
      rw [htk] at hle
      refine E.seq (blockE ?_)
      refine midT Try.wf Try.tab_ok (fun s' σ => s' = [(1, .ref 0 0 0), (2, .ref 1 0 0), (5, .ref 2 0 0), (14, .d (.sl (attrsD n.attrs))), (15, .d (.int .i64 n.attrs.length)), (16, .d (.int .i64 k))] ∧ σ = ⟨3, [(0, .bld 50 5 (s ++ ([60] ++ n.name) ++ attrsH (n.attrs.take k))), (1, nodeE n), (2, attrO n.attrs[k])]⟩) ?_ ?_
      · refine ⟨⟨by omega, by rw [hal]; omega⟩, _, attrsD_get n.attrs k hlt, rfl, ?_⟩
        refine ⟨Nat.le_refl _, _, rfl, rfl, Nat.le_refl _, ?_⟩
        refine ⟨_, _, ⟨rfl, rfl⟩, ?_⟩
        exact Mv.of [.old 1, .old 2] rfl rfl rfl ⟨⟨rfl, rfl, rfl⟩, ⟨rfl, .inl ⟨rfl, fun row h => by rw [List.mem_singleton.1 h]; rfl⟩⟩, ⟨rfl, .inl ⟨rfl, fun row h => by rw [List.mem_singleton.1 h]; rfl⟩⟩, trivial⟩ ⟨⟨rfl, rfl, rfl⟩, ⟨rfl, rfl, rfl⟩, ⟨rfl, rfl, rfl⟩, rfl, rfl, rfl, trivial⟩
      rintro _ _ ⟨rfl, rfl⟩
      have c1 := Escape_ok n.attrs[k].2 true (by omega)
      refine drawnZ Try.wf Try.tab_ok [10] (fun t => match t with
        | 0 => ⟨3, [(0, .bld 50 5 (s ++ ([60] ++ n.name) ++ attrsH (n.attrs.take k))), (1, nodeE n), (2, attrO n.attrs[k])]⟩
        | _ => ⟨3, [(0, .bld 50 5 (s ++ ([60] ++ n.name) ++ attrsH (n.attrs.take k) ++ attrH n.attrs[k])), (1, nodeE n), (2, attrO n.attrs[k])]⟩) rfl Try.mixed (by decide +kernel) ?_
      unfold attrH at hle
      simp only [List.length_append, List.length_cons, List.length_nil] at hle
      refine zblind (by decide +kernel) rfl rfl (fun _ => FinMove.refl _ _ _) ?_
      refine zblind (by decide +kernel) rfl rfl (fun _ => FinMove.refl _ _ _) ?_
      refine zreadL (List.range 2) (by decide +kernel) rfl rfl (by repeat' first | exact trivial | exact ⟨_, rfl, _, rfl, FinMove.refl _ _ _⟩ | refine ⟨?_, ?_⟩) ?_
      refine zblind (by decide +kernel) rfl rfl (fun _ => ⟨by simp only [List.length_append, List.length_cons, List.length_nil]; omega, FinMove.refl _ _ _⟩) ?_
      refine zblind (by decide +kernel) rfl rfl (fun _ => ⟨by simp only [List.length_append, List.length_cons, List.length_nil]; omega, FinMove.refl _ _ _⟩) ?_
      refine zblind (by decide +kernel) rfl rfl (fun _ => FinMove.refl _ _ _) ?_
      refine zreadL (List.range 2) (by decide +kernel) rfl rfl (by repeat' first | exact trivial | exact ⟨_, rfl, _, rfl, FinMove.refl _ _ _⟩ | refine ⟨?_, ?_⟩) ?_
      refine zreadL [0, 1] (by decide +kernel) rfl rfl ⟨PureC.use c1 (FinMove.refl _ _ _), PureC.use c1 (FinMove.refl _ _ _), trivial⟩ ?_
      refine zblind (by decide +kernel) rfl rfl (fun _ => ⟨by simp only [List.length_append, List.length_cons, List.length_nil]; omega, FinMove.refl _ _ _⟩) ?_
      refine zblind (by decide +kernel) rfl rfl (fun _ => ⟨by simp only [List.length_append, List.length_cons, List.length_nil]; omega, FinMove.refl _ _ _⟩) ?_
      refine zeff (r := .tup [.d (.int .i64 (attrH n.attrs[k]).length), .nili]) rfl rfl rfl ?_ ?_
      · refine CallsAbs.frame (WriteString_ok ((s ++ ([60] ++ n.name) ++ attrsH (n.attrs.take k))) (attrH n.attrs[k]) (by unfold attrH; simp only [List.length_append, List.length_cons, List.length_nil]; omega)) [.old 0] ⟨Nat.zero_le _, rfl, rfl, ⟨⟨rfl, rfl, rfl⟩, trivial⟩⟩ ⟨⟨rfl, rfl, rfl⟩, rfl, trivial⟩ ?_
        rintro _ _ ⟨rfl, rfl⟩
        refine ⟨.tup [.d (.int .i64 ((attrH n.attrs[k] : List UInt8).length : Nat)), .nili], [(0, .bld 50 5 ((s ++ ([60] ++ n.name) ++ attrsH (n.attrs.take k)) ++ attrH n.attrs[k]))], ⟨⟨rfl, rfl, rfl⟩, trivial⟩, rfl, ⟨rfl, trivial, trivial⟩, ?_⟩
        exact fin_mv [] rfl rfl rfl ⟨⟨rfl, rfl, rfl⟩, ⟨rfl, .inl ⟨rfl, fun row h => by rw [List.mem_singleton.1 h]; rfl⟩⟩, ⟨rfl, .inl ⟨rfl, fun row h => by rw [List.mem_singleton.1 h]; rfl⟩⟩, trivial⟩ ⟨rfl, trivial, trivial⟩
      refine E.of Try.wf Try.tab_ok ?_
      repeat (first | refine ⟨fun _ => ?_, fun h => absurd (of_decide_eq_false h) (by omega)⟩ | refine ⟨fun h => absurd (of_decide_eq_true h) (by omega), fun _ => ?_⟩ | refine ⟨fun _ => ?_, fun h => absurd (of_decide_eq_true h) (by omega)⟩ | refine ⟨fun h => absurd (of_decide_eq_false h) (by omega), fun _ => ?_⟩ | refine .inl ⟨⟨by omega, by omega⟩, ?_⟩ | refine ⟨⟨by omega, by omega⟩, ?_⟩)
      refine ⟨_, _, _, ⟨k + 1, rfl, hlt, rfl, rfl⟩, by omega, ?_⟩
      exact Mv.of [.old 1] rfl rfl rfl ⟨⟨rfl, rfl, by rw [htk]; simp only [List.append_assoc]⟩, ⟨rfl, .inl ⟨rfl, fun row h => by rw [List.mem_singleton.1 h]; rfl⟩⟩, trivial⟩ ⟨⟨rfl, rfl, rfl⟩, ⟨rfl, rfl, rfl⟩, rfl, rfl, rfl, trivial⟩
    · have hk' : k = n.attrs.length := by have := of_decide_eq_false h; omega
      subst hk'
      rw [List.take_length]
      exact ⟨_, _, ⟨rfl, rfl⟩, Mv.of [.old 1] rfl rfl rfl ⟨⟨rfl, rfl, rfl⟩, ⟨rfl, .inl ⟨rfl, fun row h => by rw [List.mem_singleton.1 h]; rfl⟩⟩, trivial⟩ ⟨⟨rfl, rfl, rfl⟩, ⟨rfl, rfl, rfl⟩, trivial⟩⟩
  rintro _ _ ⟨rfl, rfl⟩
  refine E.seq (E.of Try.wf Try.tab_ok ?_)
  refine CallsAbs.frame (WriteString_ok ((s ++ ([60] ++ n.name) ++ attrsH n.attrs)) ([62]) (by simp only [List.length_append, List.length_cons, List.length_nil]; omega)) [.old 0] ⟨Nat.zero_le _, rfl, rfl, ⟨⟨rfl, rfl, rfl⟩, trivial⟩⟩ ⟨⟨rfl, rfl, rfl⟩, rfl, trivial⟩ ?_
  rintro _ _ ⟨rfl, rfl⟩
  refine ⟨.tup [.d (.int .i64 (([62] : List UInt8).length : Nat)), .nili], [(0, .bld 50 5 ((s ++ ([60] ++ n.name) ++ attrsH n.attrs) ++ [62]))], ⟨⟨rfl, rfl, rfl⟩, trivial⟩, rfl, ⟨rfl, trivial, trivial⟩, ?_⟩
  have c2 := Void_ok n.name
  refine midT Try.wf Try.tab_ok (fun s' σ => n.name ∉ voids ∧ s' = [(1, .ref 0 0 0), (2, .ref 1 0 0)] ∧ σ = ⟨2, [(0, .bld 50 5 (s ++ ([60] ++ n.name) ++ attrsH n.attrs ++ [62])), (1, nodeE n)]⟩) ?_ ?_
  · refine ⟨_, rfl, _, rfl, ?_⟩
    refine PureC.use c2 ?_
    by_cases hv : n.name ∈ voids
    · rw [decide_eq_true hv]
      repeat (first | refine ⟨fun _ => ?_, fun h => absurd h (by decide)⟩ | refine ⟨fun h => absurd h (by decide), fun _ => ?_⟩)
      refine ⟨.tup [], bldS (s ++ ([60] ++ n.name) ++ attrsH n.attrs ++ [62]), fin_mv [] rfl rfl rfl ⟨⟨rfl, rfl, rfl⟩, trivial⟩ trivial, rfl, ?_⟩
      rw [hht, if_pos hv]
      simp only [List.append_assoc, List.append_nil]
    · rw [decide_eq_false hv]
      repeat (first | refine ⟨fun _ => ?_, fun h => absurd h (by decide)⟩ | refine ⟨fun h => absurd h (by decide), fun _ => ?_⟩)
      exact ⟨_, _, ⟨hv, rfl, rfl⟩, Mv.of [.old 1] rfl rfl rfl ⟨⟨rfl, rfl, rfl⟩, ⟨rfl, .inl ⟨rfl, fun row h => by rw [List.mem_singleton.1 h]; rfl⟩⟩, trivial⟩ ⟨⟨rfl, rfl, rfl⟩, ⟨rfl, rfl, rfl⟩, trivial⟩⟩
  rintro _ _ ⟨hv, rfl, rfl⟩
  rw [if_neg hv] at hht hL
  simp only [List.length_append, List.length_cons, List.length_nil] at hL
  refine midE (fun s' σ => s' = [(1, .ref 0 0 0), (2, .ref 1 0 0)] ∧ σ = ⟨2, [(0, .bld 50 5 (s ++ ([60] ++ n.name) ++ attrsH n.attrs ++ [62] ++ htL n.kids)), (1, nodeE n)]⟩) ?_ ?_
  · refine E.seq (E.of Try.wf Try.tab_ok ?_)
    refine ⟨_, rfl, _, rfl, ?_⟩
    refine blockE ?_
    refine loopE (fun m s' σ => ∃ (k : Nat), m = n.kids.length - k ∧ k ≤ n.kids.length ∧ s' = [(1, .ref 0 0 0), (2, .ref 1 0 0), (38, .d (.sl (nodesD n.kids))), (39, .d (.int .i64 n.kids.length)), (40, .d (.int .i64 k))] ∧ σ = ⟨2, [(0, .bld 50 5 (s ++ ([60] ++ n.name) ++ attrsH n.attrs ++ [62] ++ htL (n.kids.take k))), (1, nodeE n)]⟩)
      ⟨0, rfl, Nat.zero_le _, rfl, rfl⟩ ?_ ?_
    · exact Mv.of [.old 1] rfl rfl rfl ⟨⟨rfl, rfl, by simp [htL]⟩, ⟨rfl, .inl ⟨rfl, fun row h => by rw [List.mem_singleton.1 h]; rfl⟩⟩, trivial⟩ ⟨⟨rfl, rfl, rfl⟩, ⟨rfl, rfl, rfl⟩, rfl, by rw [← hkl]; rfl, rfl, trivial⟩
    rintro _ _ _ ⟨k, rfl, hk, rfl, rfl⟩
    refine E.seq (E.of Try.wf Try.tab_ok ?_)
    refine E.seq (E.of Try.wf Try.tab_ok ?_)
    refine ⟨fun h => ?_, fun h => ?_⟩
    · have hlt : k < n.kids.length := by have := of_decide_eq_true h; omega
      clear h
      have htk := htL_take n.kids k hlt
      have hle := htL_take_le n.kids (k + 1)
      have hks := sz_mem (List.getElem_mem hlt)
      have hsk := ShL_mem hsn.2.2.2 _ (List.getElem_mem hlt)
      have hsk2 := (ShN_eq _).1 hsk
      rw [htk, List.length_append] at hle
      have c3 := partOf_ok n.kids[k]
      refine E.seq (blockE ?_)
      refine midT Try.wf Try.tab_ok (fun s' σ => s' = [(1, .ref 0 0 0), (2, .ref 1 0 0), (7, .ref 2 0 0), (38, .d (.sl (nodesD n.kids))), (39, .d (.int .i64 n.kids.length)), (40, .d (.int .i64 k))] ∧ σ = ⟨3, [(0, .bld 50 5 (s ++ ([60] ++ n.name) ++ attrsH n.attrs ++ [62] ++ htL (n.kids.take k))), (1, nodeE n), (2, nodeO n.kids[k])]⟩) ?_ ?_
      · refine ⟨⟨by omega, by rw [hkl]; omega⟩, _, nodesD_get n.kids k hlt, rfl, ?_⟩
        refine ⟨Nat.le_refl _, _, rfl, rfl, Nat.le_refl _, ?_⟩
        refine ⟨_, _, ⟨rfl, rfl⟩, ?_⟩
        exact Mv.of [.old 1, .old 2] rfl rfl rfl ⟨⟨rfl, rfl, rfl⟩, ⟨rfl, .inl ⟨rfl, fun row h => by rw [List.mem_singleton.1 h]; rfl⟩⟩, ⟨rfl, .inl ⟨rfl, fun row h => by rw [List.mem_singleton.1 h]; rfl⟩⟩, trivial⟩ ⟨⟨rfl, rfl, rfl⟩, ⟨rfl, rfl, rfl⟩, ⟨rfl, rfl, rfl⟩, rfl, rfl, rfl, trivial⟩
      rintro _ _ ⟨rfl, rfl⟩
      refine E.of Try.wf Try.tab_ok ?_
      refine ⟨_, rfl, Nat.le_refl _, ?_⟩
      by_cases hne2 : n.kids[k].name = []
      · have e : partV n.kids[k] = .ifc 73 (.d (.str n.kids[k].text)) := by unfold partV; rw [if_pos hne2]
        have e2 : htN n.kids[k] = escape false n.kids[k].text := by rw [htN_eq, if_pos hne2]
        rw [e] at c3
        rw [e2] at htk hle
        refine PureC.use c3 ?_
        refine ⟨_, lay_method_w, ?_⟩
        refine CallsAbs.frame (lay_words n.kids[k].text (s ++ ([60] ++ n.name) ++ attrsH n.attrs ++ [62] ++ htL (n.kids.take k)) hsk2.2.2.1 (by simp only [List.length_append, List.length_cons, List.length_nil]; omega)) [.old 0] ⟨Nat.zero_le _, rfl, rfl, ⟨⟨rfl, rfl, rfl⟩, trivial⟩⟩ ⟨rfl, ⟨rfl, rfl, rfl⟩, trivial⟩ ?_
        rintro _ _ ⟨rfl, rfl⟩
        refine ⟨.tup [], [(0, .bld 50 5 (s ++ ([60] ++ n.name) ++ attrsH n.attrs ++ [62] ++ htL (n.kids.take k) ++ escape false n.kids[k].text))], ⟨⟨rfl, rfl, rfl⟩, trivial⟩, rfl, trivial, ?_⟩
        refine E.of Try.wf Try.tab_ok ?_
        repeat (first | refine ⟨fun _ => ?_, fun h => absurd (of_decide_eq_false h) (by omega)⟩ | refine ⟨fun h => absurd (of_decide_eq_true h) (by omega), fun _ => ?_⟩ | refine ⟨fun _ => ?_, fun h => absurd (of_decide_eq_true h) (by omega)⟩ | refine ⟨fun h => absurd (of_decide_eq_false h) (by omega), fun _ => ?_⟩ | refine .inl ⟨⟨by omega, by omega⟩, ?_⟩ | refine ⟨⟨by omega, by omega⟩, ?_⟩)
        refine ⟨_, _, _, ⟨k + 1, rfl, hlt, rfl, rfl⟩, by omega, ?_⟩
        exact Mv.of [.old 1] rfl rfl rfl ⟨⟨rfl, rfl, by rw [htk]; simp only [List.append_assoc]⟩, ⟨rfl, .inl ⟨rfl, fun row h => by rw [List.mem_singleton.1 h]; rfl⟩⟩, trivial⟩ ⟨⟨rfl, rfl, rfl⟩, ⟨rfl, rfl, rfl⟩, rfl, rfl, rfl, trivial⟩
      · have e : partV n.kids[k] = .ifc 74 (nodeA n.kids[k]) := by unfold partV; rw [if_neg hne2]
        rw [e] at c3
        refine PureC.use c3 ?_
        refine ⟨_, lay_method_e, ?_⟩
        refine CallsAbs.frame (ih (szN n.kids[k]) (by omega) n.kids[k] (s ++ ([60] ++ n.name) ++ attrsH n.attrs ++ [62] ++ htL (n.kids.take k)) (Nat.le_refl _) hsk hne2 (by simp only [List.length_append, List.length_cons, List.length_nil]; omega) (by omega)) [.old 0] ⟨Nat.zero_le _, rfl, rfl, ⟨⟨rfl, rfl, rfl⟩, trivial⟩⟩ ⟨vrel_self _ rfl, ⟨rfl, rfl, rfl⟩, trivial⟩ ?_
        rintro _ _ ⟨rfl, rfl⟩
        refine ⟨.tup [], [(0, .bld 50 5 (s ++ ([60] ++ n.name) ++ attrsH n.attrs ++ [62] ++ htL (n.kids.take k) ++ htN n.kids[k]))], ⟨⟨rfl, rfl, rfl⟩, trivial⟩, rfl, trivial, ?_⟩
        refine E.of Try.wf Try.tab_ok ?_
        repeat (first | refine ⟨fun _ => ?_, fun h => absurd (of_decide_eq_false h) (by omega)⟩ | refine ⟨fun h => absurd (of_decide_eq_true h) (by omega), fun _ => ?_⟩ | refine ⟨fun _ => ?_, fun h => absurd (of_decide_eq_true h) (by omega)⟩ | refine ⟨fun h => absurd (of_decide_eq_false h) (by omega), fun _ => ?_⟩ | refine .inl ⟨⟨by omega, by omega⟩, ?_⟩ | refine ⟨⟨by omega, by omega⟩, ?_⟩)
        refine ⟨_, _, _, ⟨k + 1, rfl, hlt, rfl, rfl⟩, by omega, ?_⟩
        exact Mv.of [.old 1] rfl rfl rfl ⟨⟨rfl, rfl, by rw [htk]; simp only [List.append_assoc]⟩, ⟨rfl, .inl ⟨rfl, fun row h => by rw [List.mem_singleton.1 h]; rfl⟩⟩, trivial⟩ ⟨⟨rfl, rfl, rfl⟩, ⟨rfl, rfl, rfl⟩, rfl, rfl, rfl, trivial⟩
    · have hk' : k = n.kids.length := by have := of_decide_eq_false h; omega
      subst hk'
      rw [List.take_length]
      exact ⟨_, _, ⟨rfl, rfl⟩, Mv.of [.old 1] rfl rfl rfl ⟨⟨rfl, rfl, rfl⟩, ⟨rfl, .inl ⟨rfl, fun row h => by rw [List.mem_singleton.1 h]; rfl⟩⟩, trivial⟩ ⟨⟨rfl, rfl, rfl⟩, ⟨rfl, rfl, rfl⟩, trivial⟩⟩
  rintro _ _ ⟨rfl, rfl⟩
  refine E.of Try.wf Try.tab_ok ?_
  refine ⟨_, rfl, _, rfl, ?_⟩
  refine ⟨by simp only [List.length_append, List.length_cons, List.length_nil]; omega, ?_⟩
  refine ⟨by simp only [List.length_append, List.length_cons, List.length_nil]; omega, ?_⟩
  refine CallsAbs.frame (WriteString_ok ((s ++ ([60] ++ n.name) ++ attrsH n.attrs ++ [62] ++ htL n.kids)) (([60, 47] ++ n.name ++ [62])) (by simp only [List.length_append, List.length_cons, List.length_nil]; omega)) [.old 0] ⟨Nat.zero_le _, rfl, rfl, ⟨⟨rfl, rfl, rfl⟩, trivial⟩⟩ ⟨⟨rfl, rfl, rfl⟩, rfl, trivial⟩ ?_
  rintro _ _ ⟨rfl, rfl⟩
  refine ⟨.tup [.d (.int .i64 ((([60, 47] ++ n.name ++ [62]) : List UInt8).length : Nat)), .nili], [(0, .bld 50 5 ((s ++ ([60] ++ n.name) ++ attrsH n.attrs ++ [62] ++ htL n.kids) ++ ([60, 47] ++ n.name ++ [62])))], ⟨⟨rfl, rfl, rfl⟩, trivial⟩, rfl, ⟨rfl, trivial, trivial⟩, ?_⟩
  refine ⟨.tup [], bldS (s ++ ([60] ++ n.name) ++ attrsH n.attrs ++ [62] ++ htL n.kids ++ ([60, 47] ++ n.name ++ [62])), fin_mv [] rfl rfl rfl ⟨⟨rfl, rfl, rfl⟩, trivial⟩ trivial, rfl, ?_⟩
  rw [hht]
  simp only [List.append_assoc]

set_option maxHeartbeats 1000000 in
set_option maxRecDepth 100000 in
theorem HTML_ok (l : List Node) (hS : ShL l) (hB : szL l ≤ 1000000000) (hs : (htL l).length ≤ 10000000000) : PureC Try.prog 13 [.d (.sl (nodesD l))] (.d (.str (htL l))) := by
  refine PureC.of rfl rfl (fn_okTE Try.wf Try.tab_ok Try.func13 (by decide +kernel) rfl rfl ?_)
  have hn := nodesD_len l
  have hsl := sz_len l
  refine E.seq (E.of Try.wf Try.tab_ok ?_)
  refine E.seq (E.of Try.wf Try.tab_ok ?_)
  refine midE (fun s' σ => s' = [(3, .ref 0 0 0)] ∧ σ = bldS (htL l)) ?_ ?_
  · refine E.seq (E.of Try.wf Try.tab_ok ?_)
    refine blockE ?_
    refine loopE (fun m s' σ => ∃ (k : Nat), m = l.length - k ∧ k ≤ l.length ∧ s' = [(3, .ref 0 0 0), (6, .d (.sl (nodesD l))), (7, .d (.int .i64 l.length)), (8, .d (.int .i64 k))] ∧ σ = bldS (htL (l.take k)))
      ⟨0, rfl, Nat.zero_le _, rfl, rfl⟩ ?_ ?_
    · exact Mv.of [.old 0] rfl rfl rfl ⟨⟨rfl, rfl, by rw [List.take_zero, htL]⟩, trivial⟩ ⟨⟨rfl, rfl, rfl⟩, rfl, by rw [← hn]; rfl, rfl, trivial⟩
    rintro _ _ _ ⟨k, rfl, hk, rfl, rfl⟩
    refine E.seq (E.of Try.wf Try.tab_ok ?_)
    refine E.seq (E.of Try.wf Try.tab_ok ?_)
    refine ⟨fun h => ?_, fun h => ?_⟩
    · have hlt : k < l.length := by have := of_decide_eq_true h; omega
      clear h
      have htk := htL_take l k hlt
      have hle := htL_take_le l (k + 1)
      have hks := sz_mem (List.getElem_mem hlt)
      have hsk := ShL_mem hS _ (List.getElem_mem hlt)
      have hsk2 := (ShN_eq _).1 hsk
      rw [htk, List.length_append] at hle
      have c3 := partOf_ok l[k]
      refine E.seq (blockE ?_)
      refine midT Try.wf Try.tab_ok (fun s' σ => s' = [(3, .ref 0 0 0), (5, .ref 1 0 0), (6, .d (.sl (nodesD l))), (7, .d (.int .i64 l.length)), (8, .d (.int .i64 k))] ∧ σ = ⟨2, [(0, .bld 50 5 (htL (l.take k))), (1, nodeO l[k])]⟩) ?_ ?_
      · refine ⟨⟨by omega, by rw [hn]; omega⟩, _, nodesD_get l k hlt, rfl, ?_⟩
        refine ⟨Nat.le_refl _, _, rfl, rfl, Nat.le_refl _, ?_⟩
        refine ⟨_, _, ⟨rfl, rfl⟩, ?_⟩
        exact Mv.of [.old 0, .old 1] rfl rfl rfl ⟨⟨rfl, rfl, rfl⟩, ⟨rfl, .inl ⟨rfl, fun row h => by rw [List.mem_singleton.1 h]; rfl⟩⟩, trivial⟩ ⟨⟨rfl, rfl, rfl⟩, ⟨rfl, rfl, rfl⟩, rfl, rfl, rfl, trivial⟩
      rintro _ _ ⟨rfl, rfl⟩
      refine E.of Try.wf Try.tab_ok ?_
      refine ⟨_, rfl, Nat.le_refl _, ?_⟩
      by_cases hne2 : l[k].name = []
      · have e : partV l[k] = .ifc 73 (.d (.str l[k].text)) := by unfold partV; rw [if_pos hne2]
        have e2 : htN l[k] = escape false l[k].text := by rw [htN_eq, if_pos hne2]
        rw [e] at c3
        rw [e2] at htk hle
        refine PureC.use c3 ?_
        refine ⟨_, lay_method_w, ?_⟩
        refine CallsAbs.frame (lay_words l[k].text (htL (l.take k)) hsk2.2.2.1 (by omega)) [.old 0] ⟨Nat.zero_le _, rfl, rfl, ⟨⟨rfl, rfl, rfl⟩, trivial⟩⟩ ⟨rfl, ⟨rfl, rfl, rfl⟩, trivial⟩ ?_
        rintro _ _ ⟨rfl, rfl⟩
        refine ⟨.tup [], [(0, .bld 50 5 (htL (l.take k) ++ escape false l[k].text))], ⟨⟨rfl, rfl, rfl⟩, trivial⟩, rfl, trivial, ?_⟩
        refine E.of Try.wf Try.tab_ok ?_
        repeat (first | refine ⟨fun _ => ?_, fun h => absurd (of_decide_eq_false h) (by omega)⟩ | refine ⟨fun h => absurd (of_decide_eq_true h) (by omega), fun _ => ?_⟩ | refine ⟨fun _ => ?_, fun h => absurd (of_decide_eq_true h) (by omega)⟩ | refine ⟨fun h => absurd (of_decide_eq_false h) (by omega), fun _ => ?_⟩ | refine .inl ⟨⟨by omega, by omega⟩, ?_⟩ | refine ⟨⟨by omega, by omega⟩, ?_⟩)
        refine ⟨_, _, _, ⟨k + 1, rfl, hlt, rfl, rfl⟩, by omega, ?_⟩
        exact Mv.of [.old 0] rfl rfl rfl ⟨⟨rfl, rfl, htk⟩, trivial⟩ ⟨⟨rfl, rfl, rfl⟩, rfl, rfl, rfl, trivial⟩
      · have e : partV l[k] = .ifc 74 (nodeA l[k]) := by unfold partV; rw [if_neg hne2]
        rw [e] at c3
        refine PureC.use c3 ?_
        refine ⟨_, lay_method_e, ?_⟩
        refine CallsAbs.frame (lay_elem (szN l[k]) l[k] (htL (l.take k)) (Nat.le_refl _) hsk hne2 (by omega) (by omega)) [.old 0] ⟨Nat.zero_le _, rfl, rfl, ⟨⟨rfl, rfl, rfl⟩, trivial⟩⟩ ⟨vrel_self _ rfl, ⟨rfl, rfl, rfl⟩, trivial⟩ ?_
        rintro _ _ ⟨rfl, rfl⟩
        refine ⟨.tup [], [(0, .bld 50 5 (htL (l.take k) ++ htN l[k]))], ⟨⟨rfl, rfl, rfl⟩, trivial⟩, rfl, trivial, ?_⟩
        refine E.of Try.wf Try.tab_ok ?_
        repeat (first | refine ⟨fun _ => ?_, fun h => absurd (of_decide_eq_false h) (by omega)⟩ | refine ⟨fun h => absurd (of_decide_eq_true h) (by omega), fun _ => ?_⟩ | refine ⟨fun _ => ?_, fun h => absurd (of_decide_eq_true h) (by omega)⟩ | refine ⟨fun h => absurd (of_decide_eq_false h) (by omega), fun _ => ?_⟩ | refine .inl ⟨⟨by omega, by omega⟩, ?_⟩ | refine ⟨⟨by omega, by omega⟩, ?_⟩)
        refine ⟨_, _, _, ⟨k + 1, rfl, hlt, rfl, rfl⟩, by omega, ?_⟩
        exact Mv.of [.old 0] rfl rfl rfl ⟨⟨rfl, rfl, htk⟩, trivial⟩ ⟨⟨rfl, rfl, rfl⟩, rfl, rfl, rfl, trivial⟩
    · have hk' : k = l.length := by have := of_decide_eq_false h; omega
      subst hk'
      rw [List.take_length]
      exact ⟨_, _, ⟨rfl, rfl⟩, Mv.of [.old 0] rfl rfl rfl ⟨⟨rfl, rfl, rfl⟩, trivial⟩ ⟨⟨rfl, rfl, rfl⟩, trivial⟩⟩
  rintro _ _ ⟨rfl, rfl⟩
  refine E.of Try.wf Try.tab_ok ?_
  refine CallsAbs.frame (String_ok (htL l) (by omega)) [.old 0] ⟨Nat.zero_le _, rfl, rfl, ⟨⟨rfl, rfl, rfl⟩, trivial⟩⟩ ⟨⟨rfl, rfl, rfl⟩, trivial⟩ ?_
  rintro _ _ ⟨rfl, rfl⟩
  refine ⟨.d (.str (htL l)), [(0, .dead)], ⟨trivial, trivial⟩, rfl, rfl, ?_⟩
  exact ⟨_, _, fin_out rfl, rfl, rfl⟩

end Go.Proofs.Ytcmkiancbgmmhaa
