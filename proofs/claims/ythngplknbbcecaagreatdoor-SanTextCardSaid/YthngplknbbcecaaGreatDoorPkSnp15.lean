/- What is proved here serves the claim: the walk over the code and the plain laws, part 15 of 18. -/
import Derived.Test.YthngplknbbcecaaGreatDoorPkSnp14
namespace Go.Proofs.YthngplknbbcecaaGreatDoor
open Go.Aw
set_option maxHeartbeats 1600000
set_option linter.unusedSimpArgs false
set_option linter.unusedVariables false
def attrH (a : List UInt8 × List UInt8) : List UInt8 := [32] ++ a.1 ++ [61, 34] ++ escape true a.2 ++ [34]
def attrsH (l : List (List UInt8 × List UInt8)) : List UInt8 := l.flatMap attrH
mutual
def htN : Node → List UInt8
 | .mk nm a t k => if nm = [] then escape false t else [60] ++ nm ++ attrsH a ++ [62] ++ (if nm ∈ voids then [] else htL k ++ ([60, 47] ++ nm ++ [62]))
def htL : List Node → List UInt8
 | [] => []
 | n :: r => htN n ++ htL r
end
theorem htN_eq (n : Node) : htN n = if n.name = [] then escape false n.text else [60] ++ n.name ++ attrsH n.attrs ++ [62] ++ (if n.name ∈ voids then [] else htL n.kids ++ ([60, 47] ++ n.name ++ [62])) := by cases n; unfold htN; rfl
theorem htL_cons (n : Node) (r : List Node) : htL (n :: r) = htN n ++ htL r := by rw [htL]
theorem htL_append : ∀ a b : List Node, htL (a ++ b) = htL a ++ htL b
 | [], b => by rw [htL]; rfl
 | n :: r, b => by rw [List.cons_append, htL_cons, htL_cons, htL_append r b, List.append_assoc]
theorem attrsH_cons (a : List UInt8 × List UInt8) (r : List (List UInt8 × List UInt8)) : attrsH (a :: r) = attrH a ++ attrsH r := rfl
def partV (n : Node) : AV := if n.name = [] then .ifc 142 (.d (.str n.text)) else .ifc 143 (nodeA n)
theorem partV_pure (n : Node) : (partV n).pure = true := by unfold partV; split <;> rfl
set_option maxRecDepth 100000 in
theorem partOf_ok (n : Node) : PureC Tryz.prog 73 [nodeA n] (partV n) := by
 refine pure_okT Tryz.wf Tryz.tab_ok Tryz.func73 (by decide +kernel) rfl rfl rfl (partV_pure n) ?_
 refine ⟨_, rfl, _, rfl, ?_⟩
 by_cases h : n.name = []
 ·refine ⟨fun _ => ?_, fun h' => absurd (of_decide_eq_false h') (fun h' => h' h)⟩
  refine ⟨_, rfl, _, rfl, ?_⟩
  exact ⟨_, _, fin_out rfl, by unfold partV; rw [if_pos h]; rfl⟩
 ·refine ⟨fun h' => absurd (of_decide_eq_true h') h, fun _ => ?_⟩
  refine ⟨_, rfl, Nat.le_refl _, ?_⟩
  exact ⟨_, _, fin_out rfl, by unfold partV; rw [if_neg h]; rfl⟩
abbrev bldS (s : List UInt8) : Store := ⟨1, [(0, .bld 75 5 s)]⟩
set_option maxRecDepth 100000 in
theorem lay_words (w s : List UInt8) (hw : w.length ≤ 1000000000) (hs : s.length + (escape false w).length ≤ 140737488355328) : CallsAbs Tryz.prog 235 [.d (.str w), .ref 0 0 0] (bldS s) fun r σ' => r = .tup [] ∧ σ' = bldS (s ++ escape false w) := by
 refine fn_okTE Tryz.wf Tryz.tab_ok Tryz.func235 (by decide +kernel) rfl rfl ?_
 refine E.of Tryz.wf Tryz.tab_ok ?_
 refine PureC.use (Escape_ok w false (by omega)) ?_
 refine CallsAbs.frame (WriteString_ok (s) (escape false w) hs) [.old 0] ⟨Nat.zero_le _, rfl, rfl, ⟨⟨rfl, rfl, rfl⟩, trivial⟩⟩ ⟨⟨rfl, rfl, rfl⟩, rfl, trivial⟩ ?_
 rintro _ _ ⟨rfl, rfl⟩
 refine ⟨.tup [.d (.int .i64 ((escape false w : List UInt8).length : Nat)), .nili], [(0, .bld 75 5 (s ++ escape false w))], ⟨⟨rfl, rfl, rfl⟩, trivial⟩, rfl, ⟨rfl, trivial, trivial⟩, ?_⟩
 exact ⟨.tup [], bldS (s ++ escape false w), fin_mv [] rfl rfl rfl ⟨⟨rfl, rfl, rfl⟩, trivial⟩ trivial, rfl, rfl⟩
theorem lay_method_w : methodOf Tryz.prog 142 "verso/ser.lay" = some 235 := by decide +kernel
theorem lay_method_e : methodOf Tryz.prog 143 "verso/ser.lay" = some 236 := by decide +kernel
def nodeE (n : Node) : Ob := .rows (4, 143) [[.d (.str n.name), .d (.sl (attrsD n.attrs)), .d (.str n.text), .d (.sl (nodesD n.kids))]]
def attrO (a : List UInt8 × List UInt8) : Ob := .rows (2, 118) [[.d (.str a.1), .d (.str a.2)]]
theorem attrsH_take (l : List (List UInt8 × List UInt8)) (k : Nat) (h : k < l.length) : attrsH (l.take (k + 1)) = attrsH (l.take k) ++ attrH l[k] := by
 unfold attrsH
 rw [List.take_succ_eq_append_getElem h, List.flatMap_append]; simp
theorem htL_take (l : List Node) (k : Nat) (h : k < l.length) : htL (l.take (k + 1)) = htL (l.take k) ++ htN l[k] := by
 rw [List.take_succ_eq_append_getElem h, htL_append]
 rw [htL_cons]; show _ = _; rw [htL, List.append_nil]
theorem attrsH_take_le (l : List (List UInt8 × List UInt8)) (k : Nat) : (attrsH (l.take k)).length ≤ (attrsH l).length := by
 have : attrsH l = attrsH (l.take k) ++ attrsH (l.drop k) := by
  unfold attrsH; rw [← List.flatMap_append, List.take_append_drop]
 rw [this, List.length_append]; omega
theorem htL_take_le (l : List Node) (k : Nat) : (htL (l.take k)).length ≤ (htL l).length := by
 have : htL l = htL (l.take k) ++ htL (l.drop k) := by
  rw [← htL_append, List.take_append_drop]
 rw [this, List.length_append]; omega
set_option maxHeartbeats 1000000 in
set_option maxRecDepth 100000 in
theorem lay_elem (N : Nat) : ∀ (n : Node) (s : List UInt8), szN n ≤ N → ShN n → n.name ≠ [] → s.length + (htN n).length ≤ 100000000000 → szN n ≤ 1000000000 → CallsAbs Tryz.prog 236 [nodeA n, .ref 0 0 0] (bldS s) fun r σ' => r = .tup [] ∧ σ' = bldS (s ++ htN n) := by
 induction N using Nat.strongRecOn with
 | ind N ih =>
 intro n s hN hSh hne hs hB
 have hsn := (ShN_eq _).1 hSh
 have hsz := szN_eq n
 have hkl := nodesD_len n.kids
 have hal := attrsD_len n.attrs
 have hlen := sz_len n.kids
 have hatt := hsn.2.1.1
 have hht := htN_eq n
 rw [if_neg hne] at hht
 have hL := congrArg List.length hht
 simp only [List.length_append, List.length_cons, List.length_nil] at hL
 refine fn_okTE Tryz.wf Tryz.tab_ok Tryz.func236 (by decide +kernel) rfl rfl ?_
 refine E.seq (E.of Tryz.wf Tryz.tab_ok ?_)
 refine E.seq (E.of Tryz.wf Tryz.tab_ok ?_)
 refine ⟨_, rfl, _, rfl, ?_⟩
 refine ⟨by simp only [List.length_cons, List.length_nil]; omega, ?_⟩
 refine CallsAbs.frame (WriteString_ok (s) (([60] ++ n.name)) (by simp only [List.length_append, List.length_cons, List.length_nil]; omega)) [.old 0] ⟨Nat.zero_le _, rfl, rfl, ⟨⟨rfl, rfl, rfl⟩, trivial⟩⟩ ⟨⟨rfl, rfl, rfl⟩, rfl, trivial⟩ ?_
 rintro _ _ ⟨rfl, rfl⟩
 refine ⟨.tup [.d (.int .i64 ((([60] ++ n.name) : List UInt8).length : Nat)), .nili], [(0, .bld 75 5 (s ++ ([60] ++ n.name)))], ⟨⟨rfl, rfl, rfl⟩, trivial⟩, rfl, ⟨rfl, trivial, trivial⟩, ?_⟩
 refine midE (fun s' σ => s' = [(1, .ref 0 0 0), (2, .ref 1 0 0)] ∧ σ = ⟨2, [(0, .bld 75 5 (s ++ ([60] ++ n.name) ++ attrsH n.attrs)), (1, nodeE n)]⟩) ?_ ?_
 ·refine E.seq (E.of Tryz.wf Tryz.tab_ok ?_)
  refine ⟨_, rfl, _, rfl, ?_⟩
  refine blockE ?_
  refine loopE (fun m s' σ => ∃ (k : Nat), m = n.attrs.length - k ∧ k ≤ n.attrs.length ∧ s' = [(1, .ref 0 0 0), (2, .ref 1 0 0), (14, .d (.sl (attrsD n.attrs))), (15, .d (.int .i64 n.attrs.length)), (16, .d (.int .i64 k))] ∧ σ = ⟨2, [(0, .bld 75 5 (s ++ ([60] ++ n.name) ++ attrsH (n.attrs.take k))), (1, nodeE n)]⟩)
   ⟨0, rfl, Nat.zero_le _, rfl, rfl⟩ ?_ ?_
  ·exact Mv.of [.old 1] rfl rfl rfl ⟨⟨rfl, rfl, by simp [attrsH]⟩, ⟨rfl, .inl ⟨rfl, fun row h => by rw [List.mem_singleton.1 h]; rfl⟩⟩, trivial⟩ ⟨⟨rfl, rfl, rfl⟩, ⟨rfl, rfl, rfl⟩, rfl, by rw [← hal]; rfl, rfl, trivial⟩
  rintro _ _ _ ⟨k, rfl, hk, rfl, rfl⟩
  refine E.seq (E.of Tryz.wf Tryz.tab_ok ?_)
  refine E.seq (E.of Tryz.wf Tryz.tab_ok ?_)
  refine ⟨fun h => ?_, fun h => ?_⟩
  ·have hlt : k < n.attrs.length := by have := of_decide_eq_true h; omega
   clear h
   have htk := attrsH_take n.attrs k hlt
   have hle := attrsH_take_le n.attrs (k + 1)
   have hsa := hsn.2.1.2 _ (List.getElem_mem hlt)
   have hel := (escape_len n.attrs[k].2.length true n.attrs[k].2 (Nat.le_refl _)).2
   rw [htk] at hle
   refine E.seq (blockE ?_)
   refine midT Tryz.wf Tryz.tab_ok (fun s' σ => s' = [(1, .ref 0 0 0), (2, .ref 1 0 0), (5, .ref 2 0 0), (14, .d (.sl (attrsD n.attrs))), (15, .d (.int .i64 n.attrs.length)), (16, .d (.int .i64 k))] ∧ σ = ⟨3, [(0, .bld 75 5 (s ++ ([60] ++ n.name) ++ attrsH (n.attrs.take k))), (1, nodeE n), (2, attrO n.attrs[k])]⟩) ?_ ?_
   ·refine ⟨⟨by omega, by rw [hal]; omega⟩, _, attrsD_get n.attrs k hlt, rfl, ?_⟩
    refine ⟨Nat.le_refl _, _, rfl, rfl, Nat.le_refl _, ?_⟩
    refine ⟨_, _, ⟨rfl, rfl⟩, ?_⟩
    exact Mv.of [.old 1, .old 2] rfl rfl rfl ⟨⟨rfl, rfl, rfl⟩, ⟨rfl, .inl ⟨rfl, fun row h => by rw [List.mem_singleton.1 h]; rfl⟩⟩, ⟨rfl, .inl ⟨rfl, fun row h => by rw [List.mem_singleton.1 h]; rfl⟩⟩, trivial⟩ ⟨⟨rfl, rfl, rfl⟩, ⟨rfl, rfl, rfl⟩, ⟨rfl, rfl, rfl⟩, rfl, rfl, rfl, trivial⟩
   rintro _ _ ⟨rfl, rfl⟩
   have c1 := Escape_ok n.attrs[k].2 true (by omega)
   refine drawnZ Tryz.wf Tryz.tab_ok [10] (fun t => match t with
    | 0 => ⟨3, [(0, .bld 75 5 (s ++ ([60] ++ n.name) ++ attrsH (n.attrs.take k))), (1, nodeE n), (2, attrO n.attrs[k])]⟩
    | _ => ⟨3, [(0, .bld 75 5 (s ++ ([60] ++ n.name) ++ attrsH (n.attrs.take k) ++ attrH n.attrs[k])), (1, nodeE n), (2, attrO n.attrs[k])]⟩) rfl Tryz.mixed (by decide +kernel) ?_
   unfold attrH at hle
   simp only [List.length_append, List.length_cons, List.length_nil] at hle
   refine zblind (by decide +kernel) rfl rfl (fun _ => FinMove.refl _ _ _) ?_
   refine zblind (by decide +kernel) rfl rfl (fun _ => FinMove.refl _ _ _) ?_
   refine zreadL (List.range 2) (by decide +kernel) rfl rfl (by repeat' first | exact trivial | exact ⟨_, rfl, _, rfl, FinMove.refl _ _ _⟩ | refine ⟨?_, ?_⟩) ?_
   refine zblind (by decide +kernel) rfl rfl (fun _ => ⟨by simp only [List.length_append, List.length_cons, List.length_nil]; omega, FinMove.refl _ _ _⟩) ?_
   refine zblind (by decide +kernel) rfl rfl (fun _ => ⟨by simp only [List.length_append, List.length_cons, List.length_nil]; omega, FinMove.refl _ _ _⟩) ?_
   refine zblind (by decide +kernel) rfl rfl (fun _ => FinMove.refl _ _ _) ?_
   refine zreadL (List.range 2) (by decide +kernel) rfl rfl (by repeat' first | exact trivial | exact ⟨_, rfl, _, rfl, FinMove.refl _ _ _⟩ | refine ⟨?_, ?_⟩) ?_
   refine zreadL [0, 1] (by decide +kernel) rfl rfl ⟨PureC.use c1 (FinMove.refl _ _ _), PureC.use c1 (FinMove.refl _ _ _), trivial⟩ ?_
   refine zblind (by decide +kernel) rfl rfl (fun _ => ⟨by simp only [List.length_append, List.length_cons, List.length_nil]; omega, FinMove.refl _ _ _⟩) ?_
   refine zblind (by decide +kernel) rfl rfl (fun _ => ⟨by simp only [List.length_append, List.length_cons, List.length_nil]; omega, FinMove.refl _ _ _⟩) ?_
   refine zeff (r := .tup [.d (.int .i64 (attrH n.attrs[k]).length), .nili]) rfl rfl rfl ?_ ?_
   ·refine CallsAbs.frame (WriteString_ok ((s ++ ([60] ++ n.name) ++ attrsH (n.attrs.take k))) (attrH n.attrs[k]) (by unfold attrH; simp only [List.length_append, List.length_cons, List.length_nil]; omega)) [.old 0] ⟨Nat.zero_le _, rfl, rfl, ⟨⟨rfl, rfl, rfl⟩, trivial⟩⟩ ⟨⟨rfl, rfl, rfl⟩, rfl, trivial⟩ ?_
    rintro _ _ ⟨rfl, rfl⟩
    refine ⟨.tup [.d (.int .i64 ((attrH n.attrs[k] : List UInt8).length : Nat)), .nili], [(0, .bld 75 5 ((s ++ ([60] ++ n.name) ++ attrsH (n.attrs.take k)) ++ attrH n.attrs[k]))], ⟨⟨rfl, rfl, rfl⟩, trivial⟩, rfl, ⟨rfl, trivial, trivial⟩, ?_⟩
    exact fin_mv [] rfl rfl rfl ⟨⟨rfl, rfl, rfl⟩, ⟨rfl, .inl ⟨rfl, fun row h => by rw [List.mem_singleton.1 h]; rfl⟩⟩, ⟨rfl, .inl ⟨rfl, fun row h => by rw [List.mem_singleton.1 h]; rfl⟩⟩, trivial⟩ ⟨rfl, trivial, trivial⟩
   refine E.of Tryz.wf Tryz.tab_ok ?_
   repeat refine wD ?_
   refine ⟨_, _, _, ⟨k + 1, rfl, hlt, rfl, rfl⟩, by omega, ?_⟩
   exact Mv.of [.old 1] rfl rfl rfl ⟨⟨rfl, rfl, by rw [htk]; simp only [List.append_assoc]⟩, ⟨rfl, .inl ⟨rfl, fun row h => by rw [List.mem_singleton.1 h]; rfl⟩⟩, trivial⟩ ⟨⟨rfl, rfl, rfl⟩, ⟨rfl, rfl, rfl⟩, rfl, rfl, rfl, trivial⟩
  ·have hk' : k = n.attrs.length := by have := of_decide_eq_false h; omega
   subst hk'
   rw [List.take_length]
   exact ⟨_, _, ⟨rfl, rfl⟩, Mv.of [.old 1] rfl rfl rfl ⟨⟨rfl, rfl, rfl⟩, ⟨rfl, .inl ⟨rfl, fun row h => by rw [List.mem_singleton.1 h]; rfl⟩⟩, trivial⟩ ⟨⟨rfl, rfl, rfl⟩, ⟨rfl, rfl, rfl⟩, trivial⟩⟩
 rintro _ _ ⟨rfl, rfl⟩
 refine E.seq (E.of Tryz.wf Tryz.tab_ok ?_)
 refine CallsAbs.frame (WriteString_ok ((s ++ ([60] ++ n.name) ++ attrsH n.attrs)) ([62]) (by simp only [List.length_append, List.length_cons, List.length_nil]; omega)) [.old 0] ⟨Nat.zero_le _, rfl, rfl, ⟨⟨rfl, rfl, rfl⟩, trivial⟩⟩ ⟨⟨rfl, rfl, rfl⟩, rfl, trivial⟩ ?_
 rintro _ _ ⟨rfl, rfl⟩
 refine ⟨.tup [.d (.int .i64 (([62] : List UInt8).length : Nat)), .nili], [(0, .bld 75 5 ((s ++ ([60] ++ n.name) ++ attrsH n.attrs) ++ [62]))], ⟨⟨rfl, rfl, rfl⟩, trivial⟩, rfl, ⟨rfl, trivial, trivial⟩, ?_⟩
 have c2 := Void_ok n.name
 refine midT Tryz.wf Tryz.tab_ok (fun s' σ => n.name ∉ voids ∧ s' = [(1, .ref 0 0 0), (2, .ref 1 0 0)] ∧ σ = ⟨2, [(0, .bld 75 5 (s ++ ([60] ++ n.name) ++ attrsH n.attrs ++ [62])), (1, nodeE n)]⟩) ?_ ?_
 ·refine ⟨_, rfl, _, rfl, ?_⟩
  refine PureC.use c2 ?_
  by_cases hv : n.name ∈ voids
  ·rw [decide_eq_true hv]
   repeat refine wO ?_
   refine ⟨.tup [], bldS (s ++ ([60] ++ n.name) ++ attrsH n.attrs ++ [62]), fin_mv [] rfl rfl rfl ⟨⟨rfl, rfl, rfl⟩, trivial⟩ trivial, rfl, ?_⟩
   rw [hht, if_pos hv]
   simp only [List.append_assoc, List.append_nil]
  ·rw [decide_eq_false hv]
   repeat refine wO ?_
   exact ⟨_, _, ⟨hv, rfl, rfl⟩, Mv.of [.old 1] rfl rfl rfl ⟨⟨rfl, rfl, rfl⟩, ⟨rfl, .inl ⟨rfl, fun row h => by rw [List.mem_singleton.1 h]; rfl⟩⟩, trivial⟩ ⟨⟨rfl, rfl, rfl⟩, ⟨rfl, rfl, rfl⟩, trivial⟩⟩
 rintro _ _ ⟨hv, rfl, rfl⟩
 rw [if_neg hv] at hht hL
 simp only [List.length_append, List.length_cons, List.length_nil] at hL
 refine midE (fun s' σ => s' = [(1, .ref 0 0 0), (2, .ref 1 0 0)] ∧ σ = ⟨2, [(0, .bld 75 5 (s ++ ([60] ++ n.name) ++ attrsH n.attrs ++ [62] ++ htL n.kids)), (1, nodeE n)]⟩) ?_ ?_
 ·refine E.seq (E.of Tryz.wf Tryz.tab_ok ?_)
  refine ⟨_, rfl, _, rfl, ?_⟩
  refine blockE ?_
  refine loopE (fun m s' σ => ∃ (k : Nat), m = n.kids.length - k ∧ k ≤ n.kids.length ∧ s' = [(1, .ref 0 0 0), (2, .ref 1 0 0), (38, .d (.sl (nodesD n.kids))), (39, .d (.int .i64 n.kids.length)), (40, .d (.int .i64 k))] ∧ σ = ⟨2, [(0, .bld 75 5 (s ++ ([60] ++ n.name) ++ attrsH n.attrs ++ [62] ++ htL (n.kids.take k))), (1, nodeE n)]⟩)
   ⟨0, rfl, Nat.zero_le _, rfl, rfl⟩ ?_ ?_
  ·exact Mv.of [.old 1] rfl rfl rfl ⟨⟨rfl, rfl, by simp [htL]⟩, ⟨rfl, .inl ⟨rfl, fun row h => by rw [List.mem_singleton.1 h]; rfl⟩⟩, trivial⟩ ⟨⟨rfl, rfl, rfl⟩, ⟨rfl, rfl, rfl⟩, rfl, by rw [← hkl]; rfl, rfl, trivial⟩
  rintro _ _ _ ⟨k, rfl, hk, rfl, rfl⟩
  refine E.seq (E.of Tryz.wf Tryz.tab_ok ?_)
  refine E.seq (E.of Tryz.wf Tryz.tab_ok ?_)
  refine ⟨fun h => ?_, fun h => ?_⟩
  ·have hlt : k < n.kids.length := by have := of_decide_eq_true h; omega
   clear h
   have htk := htL_take n.kids k hlt
   have hle := htL_take_le n.kids (k + 1)
   have hks := sz_mem (List.getElem_mem hlt)
   have hsk := ShL_mem hsn.2.2.2 _ (List.getElem_mem hlt)
   have hsk2 := (ShN_eq _).1 hsk
   rw [htk, List.length_append] at hle
   have c3 := partOf_ok n.kids[k]
   refine E.seq (blockE ?_)
   refine midT Tryz.wf Tryz.tab_ok (fun s' σ => s' = [(1, .ref 0 0 0), (2, .ref 1 0 0), (7, .ref 2 0 0), (38, .d (.sl (nodesD n.kids))), (39, .d (.int .i64 n.kids.length)), (40, .d (.int .i64 k))] ∧ σ = ⟨3, [(0, .bld 75 5 (s ++ ([60] ++ n.name) ++ attrsH n.attrs ++ [62] ++ htL (n.kids.take k))), (1, nodeE n), (2, nodeO n.kids[k])]⟩) ?_ ?_
   ·refine ⟨⟨by omega, by rw [hkl]; omega⟩, _, nodesD_get n.kids k hlt, rfl, ?_⟩
    refine ⟨Nat.le_refl _, _, rfl, rfl, Nat.le_refl _, ?_⟩
    refine ⟨_, _, ⟨rfl, rfl⟩, ?_⟩
    exact Mv.of [.old 1, .old 2] rfl rfl rfl ⟨⟨rfl, rfl, rfl⟩, ⟨rfl, .inl ⟨rfl, fun row h => by rw [List.mem_singleton.1 h]; rfl⟩⟩, ⟨rfl, .inl ⟨rfl, fun row h => by rw [List.mem_singleton.1 h]; rfl⟩⟩, trivial⟩ ⟨⟨rfl, rfl, rfl⟩, ⟨rfl, rfl, rfl⟩, ⟨rfl, rfl, rfl⟩, rfl, rfl, rfl, trivial⟩
   rintro _ _ ⟨rfl, rfl⟩
   refine E.of Tryz.wf Tryz.tab_ok ?_
   refine ⟨_, rfl, Nat.le_refl _, ?_⟩
   by_cases hne2 : n.kids[k].name = []
   ·have e : partV n.kids[k] = .ifc 142 (.d (.str n.kids[k].text)) := by unfold partV; rw [if_pos hne2]
    have e2 : htN n.kids[k] = escape false n.kids[k].text := by rw [htN_eq, if_pos hne2]
    rw [e] at c3
    rw [e2] at htk hle
    refine PureC.use c3 ?_
    refine ⟨_, lay_method_w, ?_⟩
    refine CallsAbs.frame (lay_words n.kids[k].text (s ++ ([60] ++ n.name) ++ attrsH n.attrs ++ [62] ++ htL (n.kids.take k)) hsk2.2.2.1 (by simp only [List.length_append, List.length_cons, List.length_nil]; omega)) [.old 0] ⟨Nat.zero_le _, rfl, rfl, ⟨⟨rfl, rfl, rfl⟩, trivial⟩⟩ ⟨rfl, ⟨rfl, rfl, rfl⟩, trivial⟩ ?_
    rintro _ _ ⟨rfl, rfl⟩
    refine ⟨.tup [], [(0, .bld 75 5 (s ++ ([60] ++ n.name) ++ attrsH n.attrs ++ [62] ++ htL (n.kids.take k) ++ escape false n.kids[k].text))], ⟨⟨rfl, rfl, rfl⟩, trivial⟩, rfl, trivial, ?_⟩
    refine E.of Tryz.wf Tryz.tab_ok ?_
    repeat refine wD ?_
    refine ⟨_, _, _, ⟨k + 1, rfl, hlt, rfl, rfl⟩, by omega, ?_⟩
    exact Mv.of [.old 1] rfl rfl rfl ⟨⟨rfl, rfl, by rw [htk]; simp only [List.append_assoc]⟩, ⟨rfl, .inl ⟨rfl, fun row h => by rw [List.mem_singleton.1 h]; rfl⟩⟩, trivial⟩ ⟨⟨rfl, rfl, rfl⟩, ⟨rfl, rfl, rfl⟩, rfl, rfl, rfl, trivial⟩
   ·have e : partV n.kids[k] = .ifc 143 (nodeA n.kids[k]) := by unfold partV; rw [if_neg hne2]
    rw [e] at c3
    refine PureC.use c3 ?_
    refine ⟨_, lay_method_e, ?_⟩
    refine CallsAbs.frame (ih (szN n.kids[k]) (by omega) n.kids[k] (s ++ ([60] ++ n.name) ++ attrsH n.attrs ++ [62] ++ htL (n.kids.take k)) (Nat.le_refl _) hsk hne2 (by simp only [List.length_append, List.length_cons, List.length_nil]; omega) (by omega)) [.old 0] ⟨Nat.zero_le _, rfl, rfl, ⟨⟨rfl, rfl, rfl⟩, trivial⟩⟩ ⟨vrel_self _ rfl, ⟨rfl, rfl, rfl⟩, trivial⟩ ?_
    rintro _ _ ⟨rfl, rfl⟩
    refine ⟨.tup [], [(0, .bld 75 5 (s ++ ([60] ++ n.name) ++ attrsH n.attrs ++ [62] ++ htL (n.kids.take k) ++ htN n.kids[k]))], ⟨⟨rfl, rfl, rfl⟩, trivial⟩, rfl, trivial, ?_⟩
    refine E.of Tryz.wf Tryz.tab_ok ?_
    repeat refine wD ?_
    refine ⟨_, _, _, ⟨k + 1, rfl, hlt, rfl, rfl⟩, by omega, ?_⟩
    exact Mv.of [.old 1] rfl rfl rfl ⟨⟨rfl, rfl, by rw [htk]; simp only [List.append_assoc]⟩, ⟨rfl, .inl ⟨rfl, fun row h => by rw [List.mem_singleton.1 h]; rfl⟩⟩, trivial⟩ ⟨⟨rfl, rfl, rfl⟩, ⟨rfl, rfl, rfl⟩, rfl, rfl, rfl, trivial⟩
  ·have hk' : k = n.kids.length := by have := of_decide_eq_false h; omega
   subst hk'
   rw [List.take_length]
   exact ⟨_, _, ⟨rfl, rfl⟩, Mv.of [.old 1] rfl rfl rfl ⟨⟨rfl, rfl, rfl⟩, ⟨rfl, .inl ⟨rfl, fun row h => by rw [List.mem_singleton.1 h]; rfl⟩⟩, trivial⟩ ⟨⟨rfl, rfl, rfl⟩, ⟨rfl, rfl, rfl⟩, trivial⟩⟩
 rintro _ _ ⟨rfl, rfl⟩
 refine E.of Tryz.wf Tryz.tab_ok ?_
 refine ⟨_, rfl, _, rfl, ?_⟩
 refine ⟨by simp only [List.length_append, List.length_cons, List.length_nil]; omega, ?_⟩
 refine ⟨by simp only [List.length_append, List.length_cons, List.length_nil]; omega, ?_⟩
 refine CallsAbs.frame (WriteString_ok ((s ++ ([60] ++ n.name) ++ attrsH n.attrs ++ [62] ++ htL n.kids)) (([60, 47] ++ n.name ++ [62])) (by simp only [List.length_append, List.length_cons, List.length_nil]; omega)) [.old 0] ⟨Nat.zero_le _, rfl, rfl, ⟨⟨rfl, rfl, rfl⟩, trivial⟩⟩ ⟨⟨rfl, rfl, rfl⟩, rfl, trivial⟩ ?_
 rintro _ _ ⟨rfl, rfl⟩
 refine ⟨.tup [.d (.int .i64 ((([60, 47] ++ n.name ++ [62]) : List UInt8).length : Nat)), .nili], [(0, .bld 75 5 ((s ++ ([60] ++ n.name) ++ attrsH n.attrs ++ [62] ++ htL n.kids) ++ ([60, 47] ++ n.name ++ [62])))], ⟨⟨rfl, rfl, rfl⟩, trivial⟩, rfl, ⟨rfl, trivial, trivial⟩, ?_⟩
 refine ⟨.tup [], bldS (s ++ ([60] ++ n.name) ++ attrsH n.attrs ++ [62] ++ htL n.kids ++ ([60, 47] ++ n.name ++ [62])), fin_mv [] rfl rfl rfl ⟨⟨rfl, rfl, rfl⟩, trivial⟩ trivial, rfl, ?_⟩
 rw [hht]
 simp only [List.append_assoc]
set_option maxHeartbeats 1000000 in
set_option maxRecDepth 100000 in
theorem HTML_ok (l : List Node) (hS : ShL l) (hB : szL l ≤ 1000000000) (hs : (htL l).length ≤ 10000000000) : PureC Tryz.prog 31 [.d (.sl (nodesD l))] (.d (.str (htL l))) := by
 refine PureC.of rfl rfl (fn_okTE Tryz.wf Tryz.tab_ok Tryz.func31 (by decide +kernel) rfl rfl ?_)
 have hn := nodesD_len l
 have hsl := sz_len l
 refine E.seq (E.of Tryz.wf Tryz.tab_ok ?_)
 refine E.seq (E.of Tryz.wf Tryz.tab_ok ?_)
 refine midE (fun s' σ => s' = [(3, .ref 0 0 0)] ∧ σ = bldS (htL l)) ?_ ?_
 ·refine E.seq (E.of Tryz.wf Tryz.tab_ok ?_)
  refine blockE ?_
  refine loopE (fun m s' σ => ∃ (k : Nat), m = l.length - k ∧ k ≤ l.length ∧ s' = [(3, .ref 0 0 0), (6, .d (.sl (nodesD l))), (7, .d (.int .i64 l.length)), (8, .d (.int .i64 k))] ∧ σ = bldS (htL (l.take k)))
   ⟨0, rfl, Nat.zero_le _, rfl, rfl⟩ ?_ ?_
  ·exact Mv.of [.old 0] rfl rfl rfl ⟨⟨rfl, rfl, by rw [List.take_zero, htL]⟩, trivial⟩ ⟨⟨rfl, rfl, rfl⟩, rfl, by rw [← hn]; rfl, rfl, trivial⟩
  rintro _ _ _ ⟨k, rfl, hk, rfl, rfl⟩
  refine E.seq (E.of Tryz.wf Tryz.tab_ok ?_)
  refine E.seq (E.of Tryz.wf Tryz.tab_ok ?_)
  refine ⟨fun h => ?_, fun h => ?_⟩
  ·have hlt : k < l.length := by have := of_decide_eq_true h; omega
   clear h
   have htk := htL_take l k hlt
   have hle := htL_take_le l (k + 1)
   have hks := sz_mem (List.getElem_mem hlt)
   have hsk := ShL_mem hS _ (List.getElem_mem hlt)
   have hsk2 := (ShN_eq _).1 hsk
   rw [htk, List.length_append] at hle
   have c3 := partOf_ok l[k]
   refine E.seq (blockE ?_)
   refine midT Tryz.wf Tryz.tab_ok (fun s' σ => s' = [(3, .ref 0 0 0), (5, .ref 1 0 0), (6, .d (.sl (nodesD l))), (7, .d (.int .i64 l.length)), (8, .d (.int .i64 k))] ∧ σ = ⟨2, [(0, .bld 75 5 (htL (l.take k))), (1, nodeO l[k])]⟩) ?_ ?_
   ·refine ⟨⟨by omega, by rw [hn]; omega⟩, _, nodesD_get l k hlt, rfl, ?_⟩
    refine ⟨Nat.le_refl _, _, rfl, rfl, Nat.le_refl _, ?_⟩
    refine ⟨_, _, ⟨rfl, rfl⟩, ?_⟩
    exact Mv.of [.old 0, .old 1] rfl rfl rfl ⟨⟨rfl, rfl, rfl⟩, ⟨rfl, .inl ⟨rfl, fun row h => by rw [List.mem_singleton.1 h]; rfl⟩⟩, trivial⟩ ⟨⟨rfl, rfl, rfl⟩, ⟨rfl, rfl, rfl⟩, rfl, rfl, rfl, trivial⟩
   rintro _ _ ⟨rfl, rfl⟩
   refine E.of Tryz.wf Tryz.tab_ok ?_
   refine ⟨_, rfl, Nat.le_refl _, ?_⟩
   by_cases hne2 : l[k].name = []
   ·have e : partV l[k] = .ifc 142 (.d (.str l[k].text)) := by unfold partV; rw [if_pos hne2]
    have e2 : htN l[k] = escape false l[k].text := by rw [htN_eq, if_pos hne2]
    rw [e] at c3
    rw [e2] at htk hle
    refine PureC.use c3 ?_
    refine ⟨_, lay_method_w, ?_⟩
    refine CallsAbs.frame (lay_words l[k].text (htL (l.take k)) hsk2.2.2.1 (by omega)) [.old 0] ⟨Nat.zero_le _, rfl, rfl, ⟨⟨rfl, rfl, rfl⟩, trivial⟩⟩ ⟨rfl, ⟨rfl, rfl, rfl⟩, trivial⟩ ?_
    rintro _ _ ⟨rfl, rfl⟩
    refine ⟨.tup [], [(0, .bld 75 5 (htL (l.take k) ++ escape false l[k].text))], ⟨⟨rfl, rfl, rfl⟩, trivial⟩, rfl, trivial, ?_⟩
    refine E.of Tryz.wf Tryz.tab_ok ?_
    repeat refine wD ?_
    refine ⟨_, _, _, ⟨k + 1, rfl, hlt, rfl, rfl⟩, by omega, ?_⟩
    exact Mv.of [.old 0] rfl rfl rfl ⟨⟨rfl, rfl, htk⟩, trivial⟩ ⟨⟨rfl, rfl, rfl⟩, rfl, rfl, rfl, trivial⟩
   ·have e : partV l[k] = .ifc 143 (nodeA l[k]) := by unfold partV; rw [if_neg hne2]
    rw [e] at c3
    refine PureC.use c3 ?_
    refine ⟨_, lay_method_e, ?_⟩
    refine CallsAbs.frame (lay_elem (szN l[k]) l[k] (htL (l.take k)) (Nat.le_refl _) hsk hne2 (by omega) (by omega)) [.old 0] ⟨Nat.zero_le _, rfl, rfl, ⟨⟨rfl, rfl, rfl⟩, trivial⟩⟩ ⟨vrel_self _ rfl, ⟨rfl, rfl, rfl⟩, trivial⟩ ?_
    rintro _ _ ⟨rfl, rfl⟩
    refine ⟨.tup [], [(0, .bld 75 5 (htL (l.take k) ++ htN l[k]))], ⟨⟨rfl, rfl, rfl⟩, trivial⟩, rfl, trivial, ?_⟩
    refine E.of Tryz.wf Tryz.tab_ok ?_
    repeat refine wD ?_
    refine ⟨_, _, _, ⟨k + 1, rfl, hlt, rfl, rfl⟩, by omega, ?_⟩
    exact Mv.of [.old 0] rfl rfl rfl ⟨⟨rfl, rfl, htk⟩, trivial⟩ ⟨⟨rfl, rfl, rfl⟩, rfl, rfl, rfl, trivial⟩
  ·have hk' : k = l.length := by have := of_decide_eq_false h; omega
   subst hk'
   rw [List.take_length]
   exact ⟨_, _, ⟨rfl, rfl⟩, Mv.of [.old 0] rfl rfl rfl ⟨⟨rfl, rfl, rfl⟩, trivial⟩ ⟨⟨rfl, rfl, rfl⟩, trivial⟩⟩
 rintro _ _ ⟨rfl, rfl⟩
 refine E.of Tryz.wf Tryz.tab_ok ?_
 refine CallsAbs.frame (String_ok (htL l) (by omega)) [.old 0] ⟨Nat.zero_le _, rfl, rfl, ⟨⟨rfl, rfl, rfl⟩, trivial⟩⟩ ⟨⟨rfl, rfl, rfl⟩, trivial⟩ ?_
 rintro _ _ ⟨rfl, rfl⟩
 refine ⟨.d (.str (htL l)), [(0, .dead)], ⟨trivial, trivial⟩, rfl, rfl, ?_⟩
 exact ⟨_, _, fin_out rfl, rfl, rfl⟩
end Go.Proofs.YthngplknbbcecaaGreatDoor

namespace Go.Proofs.YthngplknbbcecaaGreatDoor
open Go.Aw
set_option maxHeartbeats 1600000
set_option linter.unusedSimpArgs false
set_option linter.unusedVariables false
abbrev Attr := List UInt8 × List UInt8
structure Tok where
 kd : Int
 nm : List UInt8
 ats : List (List UInt8 × List UInt8)
 cl : Bool
 tx : List UInt8
 deriving DecidableEq
def tokD (t : Tok) : List D := [.int .i64 t.kd, .str t.nm, .sl (attrsD t.ats), .bool t.cl, .str t.tx]
def toksD (l : List Tok) : List (List D) := l.map tokD
theorem toksD_len (l : List Tok) : (toksD l).length = l.length := by simp [toksD]
theorem toksD_get (l : List Tok) (k : Nat) (h : k < l.length) : (toksD l)[((k : Nat) : Int).toNat]? = some (tokD l[k]) := by
 rw [Int.toNat_natCast]; simp [toksD, h]
def blkB (c : UInt8) : Bool := decide (c.toNat = 9) || (decide (c.toNat = 10) || (decide (c.toNat = 12) || (decide (c.toNat = 13) || decide (c.toNat = 32))))
def ltrB (c : UInt8) : Bool := (decide (97 ≤ c.toNat) && decide (c.toNat ≤ 122)) || (decide (65 ≤ c.toNat) && decide (c.toNat ≤ 90))
def hdB (p : UInt8 → Bool) : List UInt8 → Bool
 | c :: _ => p c
 | [] => false
def runN (p : List UInt8 → Bool) : List UInt8 → Nat
 | [] => 0
 | c :: r => if p (c :: r) then runN p r + 1 else 0
theorem runN_le (p : List UInt8 → Bool) : ∀ s : List UInt8, runN p s ≤ s.length
 | [] => Nat.le_refl _
 | c :: r => by
  have := runN_le p r
  unfold runN
  split <;> simp <;> omega
theorem runN_in (p : List UInt8 → Bool) : ∀ (s : List UInt8) (j : Nat), j < runN p s → p (s.drop j) = true
 | [], j, h => by simp [runN] at h
 | c :: r, j, h => by
  unfold runN at h
  split at h
  ·rename_i hp
   cases j with
   | zero => exact hp
   | succ j => exact runN_in p r j (by omega)
  ·omega
theorem runN_stop (p : List UInt8 → Bool) : ∀ (s : List UInt8), runN p s < s.length → p (s.drop (runN p s)) = false
 | [], h => by simp [runN] at h
 | c :: r, h => by
  unfold runN at h ⊢
  split
  ·rename_i hp
   rw [if_pos hp] at h
   exact runN_stop p r (by simp at h; omega)
  ·rename_i hp
   simpa using hp
theorem runN_eq (p : List UInt8 → Bool) (s : List UInt8) (k : Nat) (hk : k ≤ s.length) (h1 : ∀ j, j < k → p (s.drop j) = true) (h2 : k < s.length → p (s.drop k) = false) : runN p s = k := by
 have h3 := runN_le p s
 rcases Nat.lt_trichotomy (runN p s) k with h | h | h
 ·have := runN_stop p s (by omega)
  rw [h1 _ h] at this; cases this
 ·exact h
 ·have := runN_in p s k h
  rw [h2 (by omega)] at this; cases this
theorem runN_more (p : List UInt8 → Bool) (s : List UInt8) (k : Nat) (hk : k ≤ runN p s) (hl : k < s.length) (h : p (s.drop k) = true) : k + 1 ≤ runN p s := by
 rcases Nat.lt_or_ge k (runN p s) with h1 | h1
 ·exact h1
 ·have : k = runN p s := by omega
  have h2 := runN_stop p s (by omega)
  rw [← this, h] at h2; cases h2
theorem runN_done (p : List UInt8 → Bool) (s : List UInt8) (k : Nat) (hk : k ≤ runN p s) (h : k < s.length → p (s.drop k) = false) : k = runN p s := by
 rcases Nat.lt_or_ge k (runN p s) with h1 | h1
 ·have h2 := runN_in p s k h1
  have := runN_le p s
  rw [h (by omega)] at h2; cases h2
 ·omega
def kindL (s : List UInt8) : Nat := match s with
 | a :: c :: r => if a = 60 then
   (if hasPre (c :: r) [33, 45, 45] then 1 else if c = 33 ∨ c = 63 then 3 else if ltrB c then 4 else if c = 47 then (match r with
    | [] => 0
    | d :: _ => if d = 62 then 2 else if ltrB d then 5 else 3) else 0)
  else 0
 | _ => 0
def plainB (s : List UInt8) : Bool := decide (kindL s = 0)
def nameC (c : UInt8) : Bool := !(blkB c || (decide (c = 47) || decide (c = 62)))
def attrC (c : UInt8) : Bool := !(blkB c || (decide (c = 47) || (decide (c = 62) || decide (c = 61))))
def bareC (c : UInt8) : Bool := !(blkB c || decide (c = 62))
def skipB (s : List UInt8) : List UInt8 := s.drop (runN (hdB blkB) s)
def valueAt (s : List UInt8) : Option (List UInt8 × List UInt8) := match s with
 | [] => some ([], [])
 | c :: r => if c = 34 ∨ c = 39 then
   (if runN (hdB fun x => !decide (x = c)) r = r.length then none else some (r.take (runN (hdB fun x => !decide (x = c)) r), r.drop (runN (hdB fun x => !decide (x = c)) r + 1)))
  else some ((c :: r).take (runN (hdB bareC) (c :: r)), (c :: r).drop (runN (hdB bareC) (c :: r)))
def addA (ats : List (List UInt8 × List UInt8)) (a : List UInt8 × List UInt8) : List (List UInt8 × List UInt8) := if a.1 ∈ ats.map (·.1) then ats else ats ++ [a]
def attrAt (c : UInt8) (r : List UInt8) : Option ((List UInt8 × List UInt8) × List UInt8) :=
 match skipB (r.drop (runN (hdB attrC) r)) with
 | [] => some ((lower (c :: r.take (runN (hdB attrC) r)), []), [])
 | d :: r1 => if d = 61 then (valueAt (skipB r1)).map fun v => ((lower (c :: r.take (runN (hdB attrC) r)), resolve v.1), v.2)
  else some ((lower (c :: r.take (runN (hdB attrC) r)), []), d :: r1)
def tagF : Nat → List UInt8 → Bool → List (List UInt8 × List UInt8) → Option (Bool × List (List UInt8 × List UInt8) × List UInt8)
 | 0, _, _, _ => none
 | _ + 1, [], _, _ => none
 | n + 1, c :: r, cl, ats =>
  if blkB c then tagF n r cl ats
  else if c = 47 then tagF n r (cl || hdB (fun x => decide (x = 62)) r) ats
  else if c = 62 then some (cl, ats, r)
  else match attrAt c r with
   | none => none
   | some (a, r') => tagF n r' cl (addA ats a)
theorem skipB_le (s : List UInt8) : (skipB s).length ≤ s.length := by unfold skipB; simp
theorem valueAt_le {s v r : List UInt8} (h : valueAt s = some (v, r)) : r.length ≤ s.length := by
 unfold valueAt at h
 split at h
 ·cases h; simp
 ·split at h
  ·split at h
   ·cases h
   ·cases h; simp; omega
  ·cases h; simp
theorem attrAt_le {c : UInt8} {r r' : List UInt8} {a : List UInt8 × List UInt8} (h : attrAt c r = some (a, r')) : r'.length ≤ r.length := by
 have h1 := skipB_le (r.drop (runN (hdB attrC) r))
 rw [List.length_drop] at h1
 unfold attrAt at h
 split at h
 ·cases h; simp
 ·rename_i d r1 e
  rw [e, List.length_cons] at h1
  split at h
  ·cases hv : valueAt (skipB r1) with
   | none => rw [hv] at h; cases h
   | some v =>
    rw [hv] at h
    cases h
    have := valueAt_le (v := v.1) (r := v.2) hv
    have := skipB_le r1
    omega
  ·cases h; simp; omega
theorem tagF_fuel : ∀ (n m : Nat) (s : List UInt8) (cl : Bool) (ats : List (List UInt8 × List UInt8)), s.length < n → s.length < m → tagF n s cl ats = tagF m s cl ats
 | 0, _, _, _, _, h, _ => by omega
 | _ + 1, 0, _, _, _, _, h => by omega
 | n + 1, m + 1, [], _, _, _, _ => rfl
 | n + 1, m + 1, c :: r, cl, ats, h1, h2 => by
  simp at h1 h2
  unfold tagF
  rw [tagF_fuel n m r _ _ h1 h2, tagF_fuel n m r _ _ h1 h2]
  cases e : attrAt c r with
  | none => rfl
  | some x =>
   obtain ⟨a, r'⟩ := x
   have := attrAt_le e
   dsimp only
   rw [tagF_fuel n m r' _ _ (by omega) (by omega)]
def between (s : List UInt8) (cl : Bool) (ats : List (List UInt8 × List UInt8)) : Option (Bool × List (List UInt8 × List UInt8) × List UInt8) := tagF (s.length + 1) s cl ats
theorem between_nil (cl : Bool) (ats : List (List UInt8 × List UInt8)) : between [] cl ats = none := rfl
theorem between_cons (c : UInt8) (r : List UInt8) (cl : Bool) (ats : List (List UInt8 × List UInt8)) : between (c :: r) cl ats =
  if blkB c then between r cl ats
  else if c = 47 then between r (cl || hdB (fun x => decide (x = 62)) r) ats
  else if c = 62 then some (cl, ats, r)
  else match attrAt c r with
   | none => none
   | some (a, r') => between r' cl (addA ats a) := by
 show tagF (r.length + 1 + 1) (c :: r) cl ats = _
 rw [tagF]
 repeat' split
 all_goals first | rfl | skip
 rename_i a r' e
 have := attrAt_le e
 exact tagF_fuel _ _ _ _ _ (by omega) (by omega)
theorem tagF_le : ∀ (n : Nat) (s : List UInt8) (cl : Bool) (ats : List (List UInt8 × List UInt8)) {x : Bool} {y : List (List UInt8 × List UInt8)} {r : List UInt8}, tagF n s cl ats = some (x, y, r) → r.length < s.length
 | 0, _, _, _, _, _, _, h => by cases h
 | n + 1, [], _, _, _, _, _, h => by cases h
 | n + 1, c :: r, cl, ats, x, y, r', h => by
  unfold tagF at h
  rw [List.length_cons]
  split at h
  ·have := tagF_le n _ _ _ h; omega
  ·split at h
   ·have := tagF_le n _ _ _ h; omega
   ·split at h
    ·cases h; omega
    ·split at h
     ·cases h
     ·rename_i e
      have := attrAt_le e
      have := tagF_le n _ _ _ h; omega
def tagAt (s : List UInt8) : Option (List UInt8 × Bool × List (List UInt8 × List UInt8) × List UInt8) :=
 (between (s.drop (runN (hdB nameC) s)) false []).map fun t => (lower (s.take (runN (hdB nameC) s)), t.1, t.2.1, t.2.2)
theorem tagAt_le {s nm r : List UInt8} {cl : Bool} {ats : List (List UInt8 × List UInt8)} (h : tagAt s = some (nm, cl, ats, r)) : r.length < s.length := by
 unfold tagAt at h
 cases e : between (s.drop (runN (hdB nameC) s)) false [] with
 | none => rw [e] at h; cases h
 | some t =>
  rw [e] at h
  cases h
  have := tagF_le _ _ _ _ (x := t.1) (y := t.2.1) (r := t.2.2) e
  simp at this
  omega
def plaintext : List UInt8 := [112, 108, 97, 105, 110, 116, 101, 120, 116]
def rawEnd (nm s : List UInt8) : Bool := !decide (nm = plaintext) && (hasPre s [60, 47] && (decide (nm.length + 2 < s.length) && (decide (lower ((s.drop 2).take nm.length) = nm) && hdB (fun c => blkB c || (decide (c = 47) || decide (c = 62))) (s.drop (nm.length + 2)))))
def rawN (nm s : List UInt8) : Nat := runN (fun x => !rawEnd nm x) s
def textT (x : List UInt8) : Tok := ⟨1, [], [], false, x⟩
def noteT (x : List UInt8) : Tok := ⟨4, [], [], false, x⟩
def endT (x : List UInt8) : Tok := ⟨3, x, [], false, []⟩
def startT (nm : List UInt8) (cl : Bool) (ats : List (List UInt8 × List UInt8)) : Tok := ⟨2, nm, ats, cl, []⟩
def softB (nm : List UInt8) : Bool := decide (nm ∉ raws) && decide (nm ∈ softs)
def rawText (nm s : List UInt8) : List UInt8 := if softB nm then resolve (s.take (rawN nm s)) else s.take (rawN nm s)
def step (s : List UInt8) : Option (List Tok × List UInt8) := match kindL s with
 | 0 => some ([textT (resolve (s.take (runN plainB s)))], s.drop (runN plainB s))
 | 1 => some ([noteT ((s.drop 4).take (runN (fun x => !hasPre x [45, 45, 62]) (s.drop 4)))], (s.drop 4).drop (runN (fun x => !hasPre x [45, 45, 62]) (s.drop 4) + 3))
 | 2 => some ([], s.drop 3)
 | 3 => some ([], s.drop (runN (fun x => !hasPre x [62]) s + 1))
 | 4 => match tagAt (s.drop 1) with
  | none => none
  | some (nm, cl, ats, r) => if rawB nm then some (startT nm cl ats :: (if rawText nm r = [] then [] else [textT (rawText nm r)]), r.drop (rawN nm r)) else some ([startT nm cl ats], r)
 | _ => match tagAt (s.drop 2) with
  | none => none
  | some (nm, _, _, r) => some ([endT nm], r)
theorem plain_pos {s : List UInt8} (h : s ≠ []) (hk : kindL s = 0) : 1 ≤ runN plainB s := by
 cases s with
 | nil => exact absurd rfl h
 | cons c r =>
  unfold runN
  rw [if_pos (by unfold plainB; rw [hk]; rfl)]
  omega
theorem kind_pos {s : List UInt8} (hk : kindL s ≠ 0) : ∃ c r, s = 60 :: c :: r := by
 unfold kindL at hk
 split at hk
 ·split at hk
  ·rename_i h; subst h; exact ⟨_, _, rfl⟩
  ·exact absurd rfl hk
 ·exact absurd rfl hk
theorem step_lt {s r : List UInt8} {e : List Tok} (hs : s ≠ []) (h : step s = some (e, r)) : r.length < s.length := by
 have hp : 0 < s.length := List.length_pos_iff.2 hs
 unfold step at h
 split at h
 ·rename_i hk
  have := plain_pos hs hk
  cases h; simp; omega
 ·cases h; simp; omega
 ·cases h; simp; omega
 ·cases h; simp; omega
 ·split at h
  ·cases h
  ·rename_i e
   have := tagAt_le e
   simp at this
   split at h
   ·cases h; simp; omega
   ·cases h; omega
 ·split at h
  ·cases h
  ·rename_i e
   have := tagAt_le e
   simp at this
   cases h; omega
def toksF : Nat → List UInt8 → List Tok
 | 0, _ => []
 | n + 1, s => if s = [] then [] else match step s with
  | none => []
  | some (e, r) => e ++ toksF n r
theorem toksF_fuel : ∀ (n m : Nat) (s : List UInt8), s.length < n → s.length < m → toksF n s = toksF m s
 | 0, _, _, h, _ => by omega
 | _ + 1, 0, _, _, h => by omega
 | n + 1, m + 1, s, h1, h2 => by
  unfold toksF
  split
  ·rfl
  ·rename_i hs
   cases e : step s with
   | none => rfl
   | some x =>
    obtain ⟨t, r⟩ := x
    have := step_lt hs e
    dsimp only
    rw [toksF_fuel n m r (by omega) (by omega)]
def toks (s : List UInt8) : List Tok := toksF (s.length + 1) s
theorem toks_nil : toks [] = [] := rfl
theorem toks_none {s : List UInt8} (h : step s = none) : toks s = [] := by
 unfold toks toksF
 split
 ·rfl
 ·rw [h]
theorem toks_some {s r : List UInt8} {e : List Tok} (hs : s ≠ []) (h : step s = some (e, r)) : toks s = e ++ toks r := by
 have := step_lt hs h
 show toksF (s.length + 1) s = _
 rw [toksF, if_neg hs, h]
 exact congrArg (e ++ ·) (toksF_fuel _ _ _ (by omega) (by omega))
theorem u8eq (c : UInt8) (n : Nat) (h : n < 256) : (decide (c = UInt8.ofNat n)) = decide ((c.toNat : Int) = n) := by
 rw [decide_eq_decide]
 constructor
 ·intro e; subst e; rw [UInt8.toNat_ofNat_of_lt' h]
 ·intro e; apply UInt8.toNat_inj.1; rw [UInt8.toNat_ofNat_of_lt' h]; omega
set_option maxRecDepth 100000 in
theorem blank_ok (c : UInt8) : PureC Tryz.prog 155 [.d (.int .u8 c.toNat)] (.d (.bool (blkB c))) := by
 have hu := c.toNat_lt
 refine pure_okT Tryz.wf Tryz.tab_ok Tryz.func155 (by decide +kernel) rfl rfl rfl rfl ?_
 repeat' (first | refine wO ?_ | (refine ⟨fun h => ?_, fun h => ?_⟩ <;> (try simp only [wS, List.length_cons, List.length_nil] at h) <;> (try exact wX h)) | refine wP ?_ | fail)
 all_goals exact ⟨_, _, fin_out rfl, congrArg (fun b => AV.d (.bool b)) (by unfold blkB; (rw [Bool.eq_iff_iff]; simp only [Bool.or_eq_true, Bool.and_eq_true, Bool.not_eq_true', decide_eq_true_eq, decide_eq_false_iff_not, iff_true, iff_false, true_iff, false_iff, not_and, Bool.false_eq_true, reduceCtorEq, and_false, false_and, and_true, true_and, not_false_eq_true, false_or, or_false] <;> omega))⟩
set_option maxRecDepth 100000 in
theorem letter_ok (c : UInt8) : PureC Tryz.prog 109 [.d (.int .u8 c.toNat)] (.d (.bool (ltrB c))) := by
 have hu := c.toNat_lt
 refine pure_okT Tryz.wf Tryz.tab_ok Tryz.func109 (by decide +kernel) rfl rfl rfl rfl ?_
 repeat' (first | refine wO ?_ | (refine ⟨fun h => ?_, fun h => ?_⟩ <;> (try simp only [wS, List.length_cons, List.length_nil] at h) <;> (try exact wX h)) | refine wP ?_ | fail)
 all_goals exact ⟨_, _, fin_out rfl, congrArg (fun b => AV.d (.bool b)) (by unfold ltrB; (rw [Bool.eq_iff_iff]; simp only [Bool.or_eq_true, Bool.and_eq_true, Bool.not_eq_true', decide_eq_true_eq, decide_eq_false_iff_not, iff_true, iff_false, true_iff, false_iff, not_and, Bool.false_eq_true, reduceCtorEq, and_false, false_and, and_true, true_and, not_false_eq_true, false_or, or_false] <;> omega))⟩
set_option maxRecDepth 100000 in
theorem cls1_ok (c : UInt8) : PureC Tryz.prog 154 [.d (.int .u8 c.toNat)] (.d (.bool (nameC c))) := by
 have hc1 := blank_ok c
 have e1 := u8eq c 47 (by decide)
 have e2 := u8eq c 62 (by decide)
 unfold nameC
 rw [show (47 : UInt8) = UInt8.ofNat 47 from rfl, show (62 : UInt8) = UInt8.ofNat 62 from rfl, e1, e2]
 clear e1 e2
 generalize blkB c = b1 at *
 refine pure_okT Tryz.wf Tryz.tab_ok Tryz.func154 (by decide +kernel) rfl rfl rfl rfl ?_
 repeat' (first | refine PureC.use hc1 ?_ | refine wO ?_ | (refine ⟨fun h => ?_, fun h => ?_⟩ <;> (try simp only [wS, List.length_cons, List.length_nil] at h) <;> (try exact wX h)) | refine wP ?_ | fail)
 all_goals exact ⟨_, _, fin_out rfl, congrArg (fun b => AV.d (.bool b)) (by ((          try clear hc1;             skip); first | rfl | (subst_vars; rfl) | (simp_all; done) | (simp_all; omega) | (simp_all; grind)))⟩
theorem cls2_ok (c : UInt8) : PureC Tryz.prog 156 [.d (.int .u8 c.toNat)] (.d (.bool (blkB c))) := by
 refine pure_okT Tryz.wf Tryz.tab_ok Tryz.func156 (by decide +kernel) rfl rfl rfl rfl ?_
 exact PureC.use (blank_ok c) ⟨_, _, fin_out rfl, rfl⟩
theorem cls4_ok (c : UInt8) : PureC Tryz.prog 158 [.d (.int .u8 c.toNat)] (.d (.bool (blkB c))) := by
 refine pure_okT Tryz.wf Tryz.tab_ok Tryz.func158 (by decide +kernel) rfl rfl rfl rfl ?_
 exact PureC.use (blank_ok c) ⟨_, _, fin_out rfl, rfl⟩
theorem cls5_ok (c : UInt8) : PureC Tryz.prog 159 [.d (.int .u8 c.toNat)] (.d (.bool (blkB c))) := by
 refine pure_okT Tryz.wf Tryz.tab_ok Tryz.func159 (by decide +kernel) rfl rfl rfl rfl ?_
 exact PureC.use (blank_ok c) ⟨_, _, fin_out rfl, rfl⟩
set_option maxRecDepth 100000 in
theorem cls3_ok (c : UInt8) : PureC Tryz.prog 157 [.d (.int .u8 c.toNat)] (.d (.bool (attrC c))) := by
 have hc1 := blank_ok c
 have e1 := u8eq c 47 (by decide)
 have e2 := u8eq c 62 (by decide)
 have e3 := u8eq c 61 (by decide)
 unfold attrC
 rw [show (47 : UInt8) = UInt8.ofNat 47 from rfl, show (62 : UInt8) = UInt8.ofNat 62 from rfl, show (61 : UInt8) = UInt8.ofNat 61 from rfl, e1, e2, e3]
 clear e1 e2 e3
 generalize blkB c = b1 at *
 refine pure_okT Tryz.wf Tryz.tab_ok Tryz.func157 (by decide +kernel) rfl rfl rfl rfl ?_
 repeat' (first | refine PureC.use hc1 ?_ | refine wO ?_ | (refine ⟨fun h => ?_, fun h => ?_⟩ <;> (try simp only [wS, List.length_cons, List.length_nil] at h) <;> (try exact wX h)) | refine wP ?_ | fail)
 all_goals exact ⟨_, _, fin_out rfl, congrArg (fun b => AV.d (.bool b)) (by ((          try clear hc1;             skip); first | rfl | (subst_vars; rfl) | (simp_all; done) | (simp_all; omega) | (simp_all; grind)))⟩
set_option maxRecDepth 100000 in
theorem cls6_ok (c : UInt8) : PureC Tryz.prog 160 [.d (.int .u8 c.toNat)] (.d (.bool (bareC c))) := by
 have hc1 := blank_ok c
 have e2 := u8eq c 62 (by decide)
 unfold bareC
 rw [show (62 : UInt8) = UInt8.ofNat 62 from rfl, e2]
 clear e2
 generalize blkB c = b1 at *
 refine pure_okT Tryz.wf Tryz.tab_ok Tryz.func160 (by decide +kernel) rfl rfl rfl rfl ?_
 repeat' (first | refine PureC.use hc1 ?_ | refine wO ?_ | (refine ⟨fun h => ?_, fun h => ?_⟩ <;> (try simp only [wS, List.length_cons, List.length_nil] at h) <;> (try exact wX h)) | refine wP ?_ | fail)
 all_goals exact ⟨_, _, fin_out rfl, congrArg (fun b => AV.d (.bool b)) (by ((          try clear hc1;             skip); first | rfl | (subst_vars; rfl) | (simp_all; done) | (simp_all; omega) | (simp_all; grind)))⟩
def rdR (s : List UInt8) (n : Nat) (l : List Tok) : List D := [.str s, .int .i64 n, .sl (toksD l)]
theorem drop_of (s : List UInt8) (n : Nat) : (s.take ((s.length : Nat) : Int).toNat).drop ((n : Nat) : Int).toNat = s.drop n := by
 rw [Int.toNat_natCast, Int.toNat_natCast, List.take_length]
set_option maxRecDepth 100000 in
theorem left_pure (s : List UInt8) (n : Nat) (l : List Tok) (hn : n ≤ s.length) : PureC Tryz.prog 105 [.ip (rdR s n l) 0] (.d (.str (s.drop n))) := by
 refine pure_okT Tryz.wf Tryz.tab_ok Tryz.func105 (by decide +kernel) rfl rfl rfl rfl ?_
 refine drawnT Tryz.wf Tryz.tab_ok Tryz.mixed (by decide +kernel) ?_; repeat' (first | refine qO ?_ | refine qP ?_ | fail)
 exact ⟨_, _, fin_out rfl, congrArg (fun x => AV.d (.str x)) (drop_of s n)⟩
theorem plain_cons (a : UInt8) (c : UInt8) (r : List UInt8) : plainB (a :: c :: r) = (!decide (a = 60) || (if c = 47 then decide (r = []) else !(decide (c = 33) || (decide (c = 63) || ltrB c)))) := by
 unfold plainB kindL
 by_cases h : a = 60
 ·subst h
  simp only [if_true, decide_true, Bool.not_true, Bool.false_or]
  by_cases h47 : c = 47
  ·subst h47
   rw [if_pos rfl]
   have e1 : hasPre (47 :: r) [33, 45, 45] = false := by simp [hasPre]
   rw [e1]
   cases r with
   | nil => decide
   | cons d t =>
    have : ltrB 47 = false := by decide
    rw [this]
    simp only [Bool.false_eq_true, if_false, if_true]
    by_cases h1 : d = 62
    ·simp [h1]
    ·by_cases h2 : ltrB d = true <;> simp [h1, h2]
  ·rw [if_neg h47]
   by_cases h33 : c = 33
   ·subst h33
    by_cases h1 : hasPre (33 :: r) [33, 45, 45] = true <;> simp [h1]
   ·have e1 : hasPre (c :: r) [33, 45, 45] = false := by simp [hasPre]; intro _ e; exact absurd e h33
    rw [e1]
    by_cases h63 : c = 63
    ·simp [h63]
    ·by_cases h2 : ltrB c = true <;> simp [h33, h63, h2, h47]
 ·simp [h]
set_option maxRecDepth 100000 in
theorem plain_pure (s : List UInt8) (n : Nat) (l : List Tok) (hn : n < s.length) : PureC Tryz.prog 106 [.ip (rdR s n l) 0] (.d (.bool (plainB (s.drop n)))) := by
 have hc1 := left_pure s n l (by omega)
 have hl : (s.drop n).length = s.length - n := by simp
 generalize s.drop n = x at *
 cases x with
 | nil => simp at hl; omega
 | cons a r =>
 cases r with
 | nil =>
  have hb : plainB [a] = true := rfl
  rw [hb]
  refine pure_okT Tryz.wf Tryz.tab_ok Tryz.func106 (by decide +kernel) rfl rfl rfl rfl ?_
  repeat' (first | refine PureC.use hc1 ?_ | refine PureC.use hc2 ?_ | refine wO ?_ | (refine ⟨fun h => ?_, fun h => ?_⟩ <;> (try simp only [wS, List.length_cons, List.length_nil] at h) <;> (try exact wX h)) | refine wP ?_ | fail)
  all_goals exact ⟨_, _, fin_out rfl, rfl⟩
 | cons c r =>
  rw [plain_cons]
  have hc2 := letter_ok c
  have e1 := u8eq a 60 (by decide)
  have e2 := u8eq c 33 (by decide)
  have e3 := u8eq c 63 (by decide)
  have e4 : (c = 47) = ((c.toNat : Int) = 47) := by have := u8eq c 47 (by decide); rw [decide_eq_decide] at this; exact propext this
  rw [show (60 : UInt8) = UInt8.ofNat 60 from rfl, show (33 : UInt8) = UInt8.ofNat 33 from rfl, show (63 : UInt8) = UInt8.ofNat 63 from rfl, e1, e2, e3]
  simp only [e4]
  have e5 : decide (r = []) = decide (((r.length + 1 + 1 : Nat) : Int) = 2) := by
   rw [decide_eq_decide, ← List.length_eq_zero_iff]; omega
  rw [e5]
  clear e1 e2 e3 e4 e5
  generalize ltrB c = b1 at *
  refine pure_okT Tryz.wf Tryz.tab_ok Tryz.func106 (by decide +kernel) rfl rfl rfl rfl ?_
  repeat' (first | refine PureC.use hc1 ?_ | refine PureC.use hc2 ?_ | refine wO ?_ | (refine ⟨fun h => ?_, fun h => ?_⟩ <;> (try simp only [wS, List.length_cons, List.length_nil] at h) <;> (try exact wX h)) | refine wP ?_ | fail)
  all_goals exact ⟨_, _, fin_out rfl, congrArg (fun b => AV.d (.bool b)) (by ((          try clear hc1; try clear hc2;       try clear hl;     skip); first | rfl | (subst_vars; rfl) | (simp_all; done) | (simp_all; omega) | (simp_all; grind)))⟩
def rdO (s : List UInt8) (n : Nat) (m : Nat) : Ob := .rows (3, 88) [[.d (.str s), .d (.int .i64 n), .own 1 0 m]]
def outO (l : List Tok) : Ob := .rows (5, 45) ((toksD l).map fun r => r.map AV.d)
abbrev rdS (s : List UInt8) (n : Nat) (l : List Tok) : Store := ⟨2, [(1, outO l), (0, rdO s n l.length)]⟩
theorem hd_drop (p : UInt8 → Bool) (s : List UInt8) (k : Nat) (h : k < s.length) : hdB p (s.drop k) = p s[k] := by
 rw [List.drop_eq_getElem_cons h]; rfl
set_option maxRecDepth 100000 in
theorem pass_ok (f : FuncId) (p : UInt8 → Bool) (hf : ∀ c : UInt8, PureC Tryz.prog f [.d (.int .u8 c.toNat)] (.d (.bool (p c)))) (s : List UInt8) (n : Nat) (l : List Tok) (hn : n ≤ s.length) (hs : s.length ≤ 4611686018427387904) :
  CallsAbs Tryz.prog 153 [.ref 0 0 0, .fn (.func f) [] []] (rdS s n l) fun r σ' => r = .d (.str ((s.drop n).take (runN (hdB p) (s.drop n)))) ∧ σ' = rdS s (n + runN (hdB p) (s.drop n)) l := by
 refine fn_okT Tryz.wf Tryz.tab_ok Tryz.func153 (by decide +kernel) rfl rfl ?_
 refine wR (k := ?_)
 have hdl : (s.drop n).length = s.length - n := by simp
 have hle := runN_le (hdB p) (s.drop n)
 refine loopT Tryz.wf Tryz.tab_ok (fun m s' σ => ∃ k : Nat, m = s.length - (n + k) ∧ k ≤ runN (hdB p) (s.drop n) ∧ s' = [(0, .ref 0 0 0), (1, .fn (.func f) [] []), (5, .d (.int .i64 n))] ∧ σ = rdS s (n + k) l)
  ⟨0, rfl, Nat.zero_le _, rfl, rfl⟩ (Mv.of [] rfl rfl rfl ⟨⟨rfl, .inl ⟨rfl, dataA_pure _⟩⟩, ⟨rfl, .inr ⟨⟨rfl, rfl, ⟨rfl, rfl, rfl⟩, trivial⟩, trivial⟩⟩, trivial⟩ ⟨⟨rfl, rfl, rfl⟩, ⟨rfl, trivial, trivial⟩, rfl, trivial⟩) ?_
 rintro _ _ _ ⟨k, rfl, hk, rfl, rfl⟩
 have mv : ∀ m : Nat, (n : Int) + m = ((n + m : Nat) : Int) := fun m => by omega
 have fin : ∀ k : Nat, k = runN (hdB p) (s.drop n) → AV.d (.str ((s.take ((n + k : Nat) : Int).toNat).drop ((n : Nat) : Int).toNat)) = AV.d (.str ((s.drop n).take (runN (hdB p) (s.drop n)))) := fun k e => by
  rw [← e, Int.toNat_natCast, Int.toNat_natCast, List.drop_take, Nat.add_sub_cancel_left]
 have endm : ∀ k : Nat, k = runN (hdB p) (s.drop n) → ∃ r' σ', FinMove (rdS s n l) (AV.d (.str ((s.take ((n + k : Nat) : Int).toNat).drop ((n : Nat) : Int).toNat))) (rdS s (n + k) l) r' σ' ∧ r' = .d (.str ((s.drop n).take (runN (hdB p) (s.drop n)))) ∧ σ' = rdS s (n + runN (hdB p) (s.drop n)) l := fun k e => by
  refine ⟨_, _, FinMove.refl _ _ _, fin k e, by rw [e]⟩
 by_cases hlt : n + k < s.length
 ·have hc1 := hf s[n + k]
  have hg := getD_at s (n + k) hlt
  have hd : hdB p ((s.drop n).drop k) = p s[n + k] := by rw [List.drop_drop, hd_drop p s (n + k) hlt]
  cases hp : p s[n + k] with
  | true =>
   have hk1 := runN_more (hdB p) (s.drop n) k hk (by omega) (by rw [hd, hp])
   rw [hp, ← hg] at hc1
   clear hp hg hd hf fin endm
   refine wR (k := ?_)
   refine drawnT Tryz.wf Tryz.tab_ok Tryz.mixed (by decide +kernel) ?_
   repeat' (first | refine qO ?_ | refine qP ?_ | fail)
   refine wR (k := ?_)
   exact ⟨_, _, _, ⟨k + 1, rfl, hk1, rfl, rfl⟩, by omega, Mv.of [] rfl rfl rfl ⟨⟨rfl, .inl ⟨rfl, dataA_pure _⟩⟩, ⟨rfl, .inr ⟨⟨rfl, congrArg (D.int .i64) (show ((n + (k + 1) : Nat) : Int) = ((n + k : Nat) : Int) + 1 by omega), ⟨rfl, rfl, rfl⟩, trivial⟩, trivial⟩⟩, trivial⟩ ⟨⟨rfl, rfl, rfl⟩, ⟨rfl, trivial, trivial⟩, rfl, trivial⟩⟩
  | false =>
   have hk1 := runN_done (hdB p) (s.drop n) k hk (fun _ => by rw [hd, hp])
   rw [hp, ← hg] at hc1
   have em := endm k hk1
   clear hp hg hd hf fin endm
   refine wR (k := ?_)
   refine drawnT Tryz.wf Tryz.tab_ok Tryz.mixed (by decide +kernel) ?_
   repeat' (first | refine qO ?_ | refine qP ?_ | fail)
   refine wR (k := ?_)
   refine drawnT Tryz.wf Tryz.tab_ok Tryz.mixed (by decide +kernel) ?_
   repeat' (first | refine qO ?_ | refine qP ?_ | fail)
   refine wR (k := ?_)
   exact em
 ·have hk1 := runN_done (hdB p) (s.drop n) k hk (fun _ => by omega)
  have em := endm k hk1
  refine wR (k := ?_)
  refine drawnT Tryz.wf Tryz.tab_ok Tryz.mixed (by decide +kernel) ?_
  repeat' (first | refine qO ?_ | refine qP ?_ | fail)
  refine wR (k := ?_)
  refine drawnT Tryz.wf Tryz.tab_ok Tryz.mixed (by decide +kernel) ?_
  repeat' (first | refine qO ?_ | refine qP ?_ | fail)
  refine wR (k := ?_)
  exact em
end Go.Proofs.YthngplknbbcecaaGreatDoor
