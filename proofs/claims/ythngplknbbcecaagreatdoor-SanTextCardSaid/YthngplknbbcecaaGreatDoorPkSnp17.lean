/- What is proved here serves the claim: the walk over the code and the plain laws, part 17 of 18. -/
import Derived.Test.YthngplknbbcecaaGreatDoorPkSnp16
namespace Go.Proofs.YthngplknbbcecaaGreatDoor
open Go.Aw
set_option maxHeartbeats 1600000
set_option linter.unusedSimpArgs false
set_option linter.unusedVariables false
theorem drops_never : ∀ s ∈ droppedL, s ∈ nevers := by decide
theorem el_facts {p : Pol} (h : rightB p = true) {nm : List UInt8} (hm : nm ∈ p.el) : small nm [45] = true ∧ rawB nm = false ∧ dropB nm = false := by
 have h1 := list_all (right_all h).2.1 nm hm
 unfold elemOk wordB at h1
 simp only [Bool.and_eq_true, Bool.not_eq_true'] at h1
 have h2 : neverB nm = false := h1.2
 unfold neverB at h2
 rw [Bool.or_eq_false_iff, decide_eq_false_iff_not] at h2
 refine ⟨h1.1.1, h2.2, ?_⟩
 unfold dropB
 rw [h2.2, decide_eq_false (fun hd => h2.1 (drops_never _ hd))]; rfl
theorem attrV_fst (p : Pol) (a : At) : (attrV p a).1 = a.1 := by
 unfold attrV
 split
 ·rfl
 ·split <;> rfl
theorem keepA_sub (p : Pol) (el : List UInt8) : ∀ l : List At, ((keepA p el l).map Prod.fst).Sublist (l.map Prod.fst)
 | [] => List.Sublist.slnil
 | b :: r => by
  rw [keepA]
  by_cases hb : staysB p el b = true
  ·rw [if_pos hb, List.map_cons, List.map_cons, attrV_fst]
   exact (keepA_sub p el r).cons_cons _
  ·rw [if_neg hb, List.map_cons]
   exact (keepA_sub p el r).cons _
def Ctx (p : Pol) (li LI : Bool) : Prop := li = true → LI = true ∧ [108, 105] ∈ p.el
theorem Ctx.kept {p : Pol} {li LI : Bool} (h : Ctx p li LI) {nm : List UInt8} (hm : nm ∈ p.el) : Ctx p (inLi li nm) (inLi LI nm) := fun h1 => by
 refine ⟨inLi_mono nm (fun h2 => (h h2).1) h1, ?_⟩
 unfold inLi at h1
 split at h1
 ·rename_i e; rw [← e]; exact hm
 ·split at h1
  ·cases h1
  ·exact (h h1).2
theorem Ctx.out {p : Pol} (hr : rightB p = true) {li LI : Bool} (h : Ctx p li LI) {nm : List UInt8} (hm : nm ∉ p.el) : Ctx p li (inLi LI nm) := fun h1 => by
 obtain ⟨h2, h3⟩ := h h1
 refine ⟨?_, h3⟩
 have h4 := (right_all hr).2.2.2.2.2.2
 unfold pliB at h4
 rw [decide_eq_true h3] at h4
 simp only [Bool.not_true, Bool.false_or, Bool.and_eq_true, decide_eq_true_eq] at h4
 unfold inLi
 split
 ·rfl
 ·split
  ·rename_i h5
   rcases h5 with h5 | h5
   ·exact absurd (h5 ▸ h4.1) hm
   ·exact absurd (h5 ▸ h4.2) hm
  ·exact h2
theorem owB_parts {n : Node} (h : owB n = true) : n.text = [] ∧ (n.name ∈ voids → n.kids = []) ∧ (n.attrs.map Prod.fst).Nodup := by
 unfold owB at h
 simp only [Bool.and_eq_true, Bool.not_eq_true', decide_eq_true_eq, Bool.and_eq_false_iff, decide_eq_false_iff_not, Bool.not_eq_false'] at h
 refine ⟨h.1, fun hv => ?_, h.2.2⟩
 rcases h.2.1 with h1 | h1
 ·exact absurd hv h1
 ·exact h1
theorem clsF_id (cl : List (List UInt8)) : ∀ (parts seen : List (List UInt8)), clsB cl seen parts = true → clsF cl seen parts = parts
 | [], _, _ => rfl
 | c :: r, seen, h => by
  rw [clsB, Bool.and_eq_true] at h
  rw [clsF, if_pos h.1, clsF_id cl r _ h.2]
theorem join_split (c : UInt8) : ∀ v : List UInt8, joinB [c] (splitB c v) = v
 | [] => rfl
 | x :: r => by
  have ih := join_split c r
  rw [splitB]
  cases hs : splitB c r with
  | nil => have := splitB_len c r; rw [hs] at this; simp at this
  | cons q qs =>
   rw [hs] at ih
   by_cases hx : x = c
   ·rw [if_pos hx, joinB_more]
    rw [joinB_more] at ih
    rw [hx, ← ih]; simp [moreB]
   ·rw [if_neg hx]
    show joinB [c] ((x :: q) :: qs) = _
    rw [joinB_more]
    rw [joinB_more] at ih
    rw [List.cons_append, ih]
theorem attrV_id {p : Pol} {el : List UInt8} {a : At} (h : valueP p el a = true) (hn : a.1 ≠ relN) : attrV p a = a := by
 unfold valueP at h
 rw [Bool.and_eq_true, if_neg hn] at h
 have h := h.2
 unfold attrV
 by_cases k2 : a.1 = styN
 ·rw [if_pos k2] at h ⊢
  rw [Bool.and_eq_true, decide_eq_true_eq] at h
  rw [h.2]
 ·rw [if_neg k2] at h ⊢
  by_cases k3 : a.1 = clsN
  ·rw [if_pos k3] at h ⊢
   simp only [Bool.and_eq_true] at h
   unfold clsT
   rw [clsF_id p.cl _ [] h.2.2, join_split]
  ·rw [if_neg k3]
theorem keepA_id {p : Pol} {el : List UInt8} : ∀ {l : List At}, (∀ a ∈ l, valueP p el a = true ∧ a.1 ≠ relN) → keepA p el l = l
 | [], _ => rfl
 | a :: r, h => by
  have ha := h a (by simp)
  have e := attrV_id ha.1 ha.2
  have hs : staysB p el a = true := by
   unfold staysB
   rw [e, ha.1, decide_eq_false ha.2]; rfl
  rw [keepA, if_pos hs, e, keepA_id (fun b hb => h b (by simp [hb]))]
theorem keepA_app (p : Pol) (el : List UInt8) : ∀ a b : List At, keepA p el (a ++ b) = keepA p el a ++ keepA p el b
 | [], b => rfl
 | x :: a, b => by
  rw [List.cons_append, keepA, keepA, keepA_app p el a b]
  split <;> rfl
theorem attrs_id {p : Pol} {el : List UInt8} {l : List At} (h : ∀ a ∈ l, valueP p el a = true) (hn : (l.map Prod.fst).Nodup) (hl : el = aN → linkB l = true) : attrsP p el l = l := by
 by_cases he : el = aN
 ·have hk := hl he
  unfold linkB at hk
  by_cases hh : hasA hrefN l = true
  ·rw [if_pos hh, decide_eq_true_eq] at hk
   rcases List.eq_nil_or_concat l with rfl | ⟨r, x, rfl⟩
   ·cases hk
   ·rw [List.concat_eq_append] at *
    rw [List.map_append] at hk hn
    simp only [List.map_cons, List.map_nil, List.getLast?_concat, Option.some.injEq] at hk
    have hx := h x (by simp)
    have hx2 : x = relA := by
     unfold valueP at hx
     rw [if_pos hk, Bool.and_eq_true, Bool.and_eq_true, decide_eq_true_eq, decide_eq_true_eq] at hx
     exact Prod.ext hk (of_decide_eq_true hx.2.2)
    rw [List.nodup_append] at hn
    have hr : ∀ a ∈ r, valueP p el a = true ∧ a.1 ≠ relN := fun a ha => ⟨h a (by simp [ha]), fun e => hn.2.2 a.1 (List.mem_map.2 ⟨a, ha, rfl⟩) x.1 (by simp) (e.trans hk.symm)⟩
    have hkx : keepA p el [x] = [] := by
     have : staysB p el x = false := by unfold staysB; rw [decide_eq_true hk]; rfl
     rw [keepA, this]; rfl
    have hhr : hasA hrefN r = true := by
     unfold hasA at hh ⊢
     rw [decide_eq_true_eq, List.map_append] at hh
     rw [decide_eq_true_eq]
     rcases List.mem_append.1 hh with hh | hh
     ·exact hh
     ·simp only [List.map_cons, List.map_nil, List.mem_singleton] at hh
      rw [hk] at hh; exact absurd hh (by decide)
    unfold attrsP
    rw [keepA_app, keepA_id hr, hkx, List.append_nil, if_pos ⟨he, hhr⟩, hx2]
  ·rw [if_neg hh] at hk
   have hr : ∀ a ∈ l, valueP p el a = true ∧ a.1 ≠ relN := fun a ha => ⟨h a ha, fun e => by
    unfold hasA at hk
    rw [Bool.not_eq_true', decide_eq_false_iff_not] at hk
    exact hk (List.mem_map.2 ⟨a, ha, e⟩)⟩
   unfold attrsP
   rw [keepA_id hr, if_neg (fun h2 => hh h2.2), List.append_nil]
 ·have hr : ∀ a ∈ l, valueP p el a = true ∧ a.1 ≠ relN := fun a ha => ⟨h a ha, fun e => by
   have := h a ha
   unfold valueP at this
   rw [if_pos e, Bool.and_eq_true, Bool.and_eq_true, decide_eq_true_eq, decide_eq_true_eq] at this
   exact he this.2.1⟩
  unfold attrsP
  rw [keepA_id hr, if_neg (fun h2 => he h2.1), List.append_nil]
theorem from_nodup : ∀ (l : List At) (seen : List (List UInt8)), attrsFrom seen l = true → (l.map Prod.fst).Nodup ∧ ∀ a ∈ l, a.1 ∉ seen
 | [], _, _ => ⟨List.nodup_nil, fun _ h => by cases h⟩
 | a :: r, seen, h => by
  rw [attrsFrom, Bool.and_eq_true, Bool.and_eq_true, Bool.not_eq_true', decide_eq_false_iff_not] at h
  obtain ⟨h1, h2⟩ := from_nodup r _ h.2
  refine ⟨List.nodup_cons.2 ⟨fun hm => ?_, h1⟩, fun b hb => ?_⟩
  ·obtain ⟨x, hx, e⟩ := List.mem_map.1 hm
   exact h2 x hx (by rw [e]; simp)
  ·rcases List.mem_cons.1 hb with rfl | hb
   ·exact h.1.2
   ·exact fun hm => h2 b hb (List.mem_append_left _ hm)
mutual
theorem clN_id {p : Pol} (hr : rightB p = true) : ∀ (n : Node) (q li : Bool) (out : List Node), n.name ≠ [] → stN q li n = true → innN p n = true → clN p out n = out ++ [n]
 | .mk nm a t k, q, li, out, h0, hs, hi => by
  have h0' : ¬ nm = [] := h0
  rw [stN] at hs
  simp only [Bool.and_eq_true] at hs
  obtain ⟨o1, o2, o3, o4, o5⟩ := ownB_parts hs.1.1.1
  dsimp only [Node.name, Node.text, Node.kids, Node.attrs] at o1 o2 o3 o4 o5
  rw [innN, decide_eq_false h0', Bool.false_or, Bool.and_eq_true] at hi
  have he := hi.1
  have e : elemP p (.mk nm a t k) = (a.all (valueP p nm) && ((!decide (nm = aN) || linkB a) && decide (nm ∈ p.el))) := rfl
  rw [e] at he
  simp only [Bool.and_eq_true, List.all_eq_true, decide_eq_true_eq, Bool.or_eq_true, Bool.not_eq_true', decide_eq_false_iff_not] at he
  obtain ⟨v1, v2, v3⟩ := he
  have hd := (el_facts hr v3).2.2
  have hat := attrs_id v1 (from_nodup a [] o5).1 (fun h => v2.resolve_left (fun h2 => h2 h))
  have hk := clL_id hr k false _ _ [] hs.2 hi.2 (fun h => by simp [textB] at h)
  rw [clN, if_neg h0', hd, if_neg Bool.false_ne_true, if_pos v3, putN_el (show (Node.mk nm (attrsP p nm a) [] (clL p [] k)).name ≠ [] from h0'), hat, hk, o3, List.nil_append]
theorem clL_id {p : Pol} (hr : rightB p = true) : ∀ (l : List Node) (tx q li : Bool) (out : List Node), stL tx q li l = true → innL p l = true → (textB out = true → tx = true) → clL p out l = out ++ l
 | [], _, _, _, out, _, _, _ => by rw [clL, List.append_nil]
 | n :: r, tx, q, li, out, hs, hi, ht => by
  rw [stL_cons] at hs
  rw [innL_cons, Bool.and_eq_true] at hi
  rw [clL_cons]
  have hap : out ++ n :: r = (out ++ [n]) ++ r := by simp
  by_cases h0 : n.name = []
  ·rw [if_pos h0] at hs
   simp only [Bool.and_eq_true, Bool.not_eq_true', decide_eq_true_eq, decide_eq_false_iff_not] at hs
   obtain ⟨⟨⟨⟨h1, h2⟩, h3⟩, h4⟩, h5⟩ := hs
   have hnode : n = .mk [] [] n.text [] := by
    cases n; dsimp only [Node.name, Node.text, Node.kids, Node.attrs] at *; rw [h0, h3, h4]
   have hl : lastT out = false := by
    cases hh : lastT out with
    | false => rfl
    | true => rw [ht hh] at h1; cases h1
   have hc : clN p out n = out ++ [n] := by
    rw [clN_eq, if_pos h0, putN_new h0 h2 hl, ← hnode]
   rw [hc, clL_id hr r true q li (out ++ [n]) h5 hi.2 (fun _ => rfl), hap]
  ·rw [if_neg h0, Bool.and_eq_true] at hs
   rw [clN_id hr n q li out h0 hs.1 hi.1, clL_id hr r false q li (out ++ [n]) hs.2 hi.2 (fun hh => by rw [textB_snoc, decide_eq_false h0] at hh; cases hh), hap]
end
theorem tree_id {p : Pol} (hr : rightB p = true) {l : List Node} (h : safeB p l = true) : treeB p l = l := by
 obtain ⟨_, _, h3, h4⟩ := safe_parts.1 h
 have := clL_id hr l false false false [] h3.2.2 h4 (fun h => by simp [textB] at h)
 exact this
end Go.Proofs.YthngplknbbcecaaGreatDoor

namespace Go.Proofs.YthngplknbbcecaaGreatDoor
open Go.Aw
set_option maxHeartbeats 1600000
set_option linter.unusedSimpArgs false
set_option linter.unusedVariables false
def wPr (l : List Pair) : Nat := (l.map fun p => p.1.length + p.2.length + 4).sum
theorem wP_cons (p : Pair) (l : List Pair) : wPr (p :: l) = p.1.length + p.2.length + 4 + wPr l := rfl
theorem wP_lasts : ∀ l : List Pair, wPr (lastsL l) ≤ wPr l
 | [] => Nat.le_refl _
 | p :: r => by
  have := wP_lasts r
  rw [lastsL, wP_cons]
  split
  ·omega
  ·rw [wP_cons]; omega
theorem wP_filter (f : Pair → Bool) : ∀ l : List Pair, wPr (l.filter f) ≤ wPr l
 | [] => Nat.le_refl _
 | p :: r => by
  have := wP_filter f r
  rw [List.filter_cons, wP_cons]
  split
  ·rw [wP_cons]; omega
  ·omega
theorem more_len : ∀ l : List Pair, (moreB [59, 32] (l.map txtB)).length ≤ wPr l
 | [] => Nat.le_refl _
 | p :: r => by
  have ih := more_len r
  have e : moreB [59, 32] ((p :: r).map txtB) = [59, 32] ++ txtB p ++ moreB [59, 32] (r.map txtB) := by simp [moreB]
  rw [e, wP_cons]
  simp only [List.length_append, txtB, List.length_cons, List.length_nil]
  omega
theorem join_len : ∀ l : List Pair, (joinB [59, 32] (l.map txtB)).length ≤ wPr l
 | [] => Nat.le_refl _
 | p :: r => by
  have ih := more_len r
  rw [List.map_cons, joinB_more, wP_cons]
  simp only [List.length_append, txtB, List.length_cons, List.length_nil]
  omega
theorem part_len2 {p : List UInt8} {q : Pair} (h : partB p = some q) : q.1.length + q.2.length + 1 ≤ p.length := by
 unfold partB at h
 cases hc : cutAt 58 p with
 | none => rw [hc] at h; cases h
 | some xy =>
  rw [hc] at h
  cases h
  have h1 := congrArg List.length (cutAt_len hc)
  rw [List.length_append, List.length_cons] at h1
  have h2 := bareB_len xy.1
  have h3 := bareB_len xy.2
  dsimp only; omega
theorem wP_parts2 : ∀ l : List (List UInt8), wPr (l.filterMap partB) ≤ 2 * (lensB l + l.length)
 | [] => Nat.le_refl _
 | x :: r => by
  have := wP_parts2 r
  have e : lensB (x :: r) = x.length + lensB r := by simp [lensB]
  rw [List.filterMap_cons, e, List.length_cons]
  split
  ·omega
  ·rename_i q hq
   have := part_len2 hq
   rw [wP_cons]; omega
theorem lens_split2 (c : UInt8) : ∀ s : List UInt8, lensB (splitB c s) + (splitB c s).length ≤ s.length + 1
 | [] => by simp [splitB, lensB]
 | x :: r => by
  have ih := lens_split2 c r
  rw [splitB, List.length_cons]
  split
  ·have e : lensB ([] :: splitB c r) = lensB (splitB c r) := by simp [lensB]
   rw [e, List.length_cons]; omega
  ·split
   ·rename_i p ps hp
    rw [hp] at ih
    have e1 : lensB (p :: ps) = p.length + lensB ps := by simp [lensB]
    have e2 : lensB ((x :: p) :: ps) = p.length + 1 + lensB ps := by simp [lensB]
    rw [e2, List.length_cons]
    rw [e1, List.length_cons] at ih
    omega
   ·simp [lensB]
theorem filter_len2 (props : List (List UInt8)) (s : List UInt8) : (filterB props s).length ≤ 2 * s.length + 2 := by
 rw [filter_join]
 have h1 := join_len (lastsL (keptP props s))
 have h2 := wP_lasts (keptP props s)
 have h3 := wP_filter (keepB props) (pairsB s)
 have h4 := wP_parts2 (splitB 59 s)
 have h5 := lens_split2 59 s
 unfold keptP at *
 unfold pairsB at *
 omega
theorem clsF_sub (cl : List (List UInt8)) : ∀ (parts seen : List (List UInt8)), (clsF cl seen parts).Sublist parts
 | [], _ => List.Sublist.slnil
 | d :: r, seen => by
  rw [clsF]
  split
  ·exact (clsF_sub cl r _).cons_cons _
  ·exact (clsF_sub cl r _).cons _
theorem lensB_sub {a b : List (List UInt8)} (h : a.Sublist b) : lensB a + a.length ≤ lensB b + b.length := by
 induction h with
 | slnil => exact Nat.le_refl _
 | cons x _ ih =>
  have e : ∀ l : List (List UInt8), lensB (x :: l) = x.length + lensB l := fun l => by simp [lensB]
  rw [e, List.length_cons]; omega
 | cons_cons x _ ih =>
  have e : ∀ l : List (List UInt8), lensB (x :: l) = x.length + lensB l := fun l => by simp [lensB]
  rw [e, e, List.length_cons, List.length_cons]; omega
theorem joinB_len : ∀ l : List (List UInt8), (joinB [32] l).length ≤ lensB l + l.length ∧ lensB l + l.length ≤ (joinB [32] l).length + 1
 | [] => by simp [joinB, lensB]
 | a :: r => by
  have e : lensB (a :: r) = a.length + lensB r := by simp [lensB]
  rw [joinB_more, List.length_append, moreB_len, e]; simp only [List.length_cons, List.length_nil]; omega
theorem clsT_len (cl : List (List UInt8)) (v : List UInt8) : (clsT cl v).length ≤ v.length + 1 := by
 have h1 := (joinB_len (clsF cl [] (splitB 32 v))).1
 have h2 := lensB_sub (clsF_sub cl (splitB 32 v) [])
 have h3 := (joinB_len (splitB 32 v)).2
 rw [join_split] at h3
 unfold clsT; omega
def atB (p : Pol) (nm v : List UInt8) : List (Nat × Ob) := [(2, .rows (2, 118) [[.d (.str []), .d (.str [])]]), (1, .rows (2, 118) [[.d (.str nm), .d (.str v)]]), (0, .rows (9, 62) [(polD p).map .d])]
def atO (i : Nat) (nm v : List UInt8) : Nat × Ob := (i, .rows (2, 118) [[.d (.str nm), .d (.str v)]])
set_option maxRecDepth 100000 in
set_option maxHeartbeats 1000000 in
theorem sattr_ok (p : Pol) (el nm v : List UInt8) (hp : Fits p) (he : el.length ≤ 1000000) (h1 : nm.length ≤ 1000000) (h2 : v.length ≤ 50000) : PureC Tryz.prog 137 [polA p, .d (.str el), .agg [.d (.str nm), .d (.str v)]] (.tup [.agg [.d (.str (attrV p (nm, v)).1), .d (.str (attrV p (nm, v)).2)], .d (.bool (staysB p el (nm, v)))]) := by
 have hv := Value2_ok p el nm (attrV p (nm, v)).2 hp he h1
 unfold staysB
 by_cases hr : nm = relN
 ·subst hr
  have e : attrV p (relN, v) = (relN, v) := rfl
  rw [e, decide_eq_true rfl]
  clear hv
  refine pure_okT Tryz.wf Tryz.tab_ok Tryz.func137 (by decide +kernel) rfl rfl rfl rfl ?_
  refine wR (k := ?_)
  exact ⟨_, _, fin_out rfl, rfl⟩
 ·have hr' : ¬ nm = [114, 101, 108] := hr
  have hd : decide ((nm, v).1 = relN) = false := decide_eq_false hr
  rw [hd, Bool.not_false, Bool.true_and]
  by_cases hs : nm = styN
  ·subst hs
   have e : attrV p (styN, v) = (styN, filterB p.pr v) := rfl
   rw [e] at hv ⊢
   have hc2 := Filter_ok p.pr v (by have := hp.pr.1; omega) (by omega)
   have hc1 := hv (by have := filter_len2 p.pr v; dsimp only; omega)
   generalize filterB p.pr v = w at *
   refine pure_okT Tryz.wf Tryz.tab_ok Tryz.func137 (by decide +kernel) rfl rfl rfl rfl ?_
   refine wR (k := ?_)
   show E _ _ _ _ _ _ _
   refine drawnZ Tryz.wf Tryz.tab_ok [6] (fun t => match t with
    | 0 => ⟨3, (atO 1 styN w :: atB p styN v)⟩
    | _ => ⟨3, atO 2 styN w :: (atO 1 styN w :: atB p styN v)⟩) rfl Tryz.mixed (by decide +kernel) ?_
   refine zreadL [0] (by decide +kernel) rfl rfl ⟨⟨_, rfl, Nat.le_of_ble_eq_true rfl, FinMove.refl _ _ _⟩, trivial⟩ ?_
   repeat' (first | refine zO ?_ | fail)
   refine zreadL (List.range 2) (by decide +kernel) rfl rfl ⟨⟨_, rfl, Nat.le_of_ble_eq_true rfl, FinMove.refl _ _ _⟩, ⟨_, rfl, Nat.le_of_ble_eq_true rfl, FinMove.refl _ _ _⟩, trivial⟩ ?_
   repeat' (first | refine zO ?_ | fail)
   refine zreadL (List.range 2) (by decide +kernel) rfl rfl ⟨⟨_, rfl, Nat.le_of_ble_eq_true rfl, FinMove.refl _ _ _⟩, ⟨_, rfl, Nat.le_of_ble_eq_true rfl, FinMove.refl _ _ _⟩, trivial⟩ ?_
   repeat' (first | refine zO ?_ | fail)
   refine zeff (r := .top) rfl rfl rfl ⟨_, rfl, rfl, Nat.le_of_ble_eq_true rfl, FinMove.refl _ _ _⟩ ?_
   repeat' (first | refine zO ?_ | fail)
   refine wR (k := ?_)
   exact ⟨_, _, fin_out rfl, rfl⟩
  ·have hs' : ¬ nm = [115, 116, 121, 108, 101] := hs
   by_cases hk : nm = clsN
   ·subst hk
    have e : attrV p (clsN, v) = (clsN, clsT p.cl v) := rfl
    rw [e] at hv ⊢
    have hc2 := sclasses_ok v p.cl (by omega) (by have := hp.cl.1; omega)
    have hc1 := hv (by have := clsT_len p.cl v; dsimp only; omega)
    generalize clsT p.cl v = w at *
    refine pure_okT Tryz.wf Tryz.tab_ok Tryz.func137 (by decide +kernel) rfl rfl rfl rfl ?_
    refine wR (k := ?_)
    show E _ _ _ _ _ _ _
    refine drawnZ Tryz.wf Tryz.tab_ok [6] (fun t => match t with
     | 0 => ⟨3, (atO 1 clsN w :: atB p clsN v)⟩
     | _ => ⟨3, atO 2 clsN w :: (atO 1 clsN w :: atB p clsN v)⟩) rfl Tryz.mixed (by decide +kernel) ?_
    refine zreadL [0] (by decide +kernel) rfl rfl ⟨⟨_, rfl, Nat.le_of_ble_eq_true rfl, FinMove.refl _ _ _⟩, trivial⟩ ?_
    repeat' (first | refine zO ?_ | fail)
    refine zreadL (List.range 2) (by decide +kernel) rfl rfl ⟨⟨_, rfl, Nat.le_of_ble_eq_true rfl, FinMove.refl _ _ _⟩, ⟨_, rfl, Nat.le_of_ble_eq_true rfl, FinMove.refl _ _ _⟩, trivial⟩ ?_
    repeat' (first | refine zO ?_ | fail)
    refine zreadL (List.range 2) (by decide +kernel) rfl rfl ⟨⟨_, rfl, Nat.le_of_ble_eq_true rfl, FinMove.refl _ _ _⟩, ⟨_, rfl, Nat.le_of_ble_eq_true rfl, FinMove.refl _ _ _⟩, trivial⟩ ?_
    repeat' (first | refine zO ?_ | fail)
    refine zeff (r := .top) rfl rfl rfl ⟨_, rfl, rfl, Nat.le_of_ble_eq_true rfl, FinMove.refl _ _ _⟩ ?_
    repeat' (first | refine zO ?_ | fail)
    refine wR (k := ?_)
    exact ⟨_, _, fin_out rfl, rfl⟩
   ·have hk' : ¬ nm = [99, 108, 97, 115, 115] := hk
    have e : attrV p (nm, v) = (nm, v) := by unfold attrV; rw [if_neg hs, if_neg hk]
    rw [e] at hv ⊢
    have hc1 := hv (by dsimp only; omega)
    clear hr hd hs hk
    refine pure_okT Tryz.wf Tryz.tab_ok Tryz.func137 (by decide +kernel) rfl rfl rfl rfl ?_
    refine wR (k := ?_)
    show E _ _ _ _ _ _ _
    refine drawnZ Tryz.wf Tryz.tab_ok [6] (fun t => match t with
     | 0 => ⟨3, atB p nm v⟩
     | _ => ⟨3, atO 2 nm v :: atB p nm v⟩) rfl Tryz.mixed (by decide +kernel) ?_
    refine zreadL [0] (by decide +kernel) rfl rfl ⟨⟨_, rfl, Nat.le_of_ble_eq_true rfl, FinMove.refl _ _ _⟩, trivial⟩ ?_
    repeat' (first | refine zO ?_ | fail)
    refine zreadL (List.range 2) (by decide +kernel) rfl rfl ⟨⟨_, rfl, Nat.le_of_ble_eq_true rfl, FinMove.refl _ _ _⟩, ⟨_, rfl, Nat.le_of_ble_eq_true rfl, FinMove.refl _ _ _⟩, trivial⟩ ?_
    repeat' (first | refine zO ?_ | fail)
    refine zreadL (List.range 2) (by decide +kernel) rfl rfl ⟨⟨_, rfl, Nat.le_of_ble_eq_true rfl, FinMove.refl _ _ _⟩, ⟨_, rfl, Nat.le_of_ble_eq_true rfl, FinMove.refl _ _ _⟩, trivial⟩ ?_
    repeat' (first | refine zO ?_ | fail)
    refine zeff (r := .top) rfl rfl rfl ⟨_, rfl, rfl, Nat.le_of_ble_eq_true rfl, FinMove.refl _ _ _⟩ ?_
    repeat' (first | refine zO ?_ | fail)
    refine wR (k := ?_)
    exact ⟨_, _, fin_out rfl, rfl⟩
abbrev OV := {v : Value // v.oneCell' = true}
def boxB (j m c : Nat) (f : Bool) : Ob := .rows (3, 94) [[.own j 0 m, .d (.int .i64 c), .d (.bool f)]]
def kidsO (k : List Node) : Ob := .rows (4, 58) ((nodesD k).map fun r => r.map AV.d)
def rowO (o : Op) (v : AV) : List AV := [.d (.str o.1), .d (.sl (attrsD o.2.1)), .d (.str []), v, .d (.str o.1)]
def rowsO : List Op → List OV → List (List AV)
 | o :: r, v :: vs => rowsO r vs ++ [rowO o (.lit v.1)]
 | _, _ => []
def kinL : List Op → List OV → List (Value × List (List D))
 | o :: r, v :: vs => (v.1, nodesD o.2.2) :: kinL r vs
 | _, _ => []
def openR (i : Nat) (vs : List OV) (o : Op) (r : List Op) : List (List AV) := rowsO r vs ++ [rowO o (.own i 0 o.2.2.length)]
def openO (i : Nat) (vs : List OV) (o : Op) (r : List Op) : Ob := .rows (5, 91) (openR i vs o r)
def kinO (vs : List OV) (r : List Op) : Ob := .kin (4, 58) (kinL r vs)
abbrev B0 (vs : List OV) (o : Op) (r : List Op) (c : Nat) (f : Bool) : Store := ⟨4, [(3, kinO vs r), (2, kidsO o.2.2), (1, openO 2 vs o r), (0, boxB 1 (r.length + 1) c f)]⟩
abbrev B3 (vs : List OV) (o : Op) (r : List Op) (c : Nat) (f : Bool) : Store := ⟨7, [(6, kinO vs r), (5, kidsO o.2.2), (4, openO 5 vs o r), (0, boxB 4 (r.length + 1) c f)]⟩
theorem rowsO_len : ∀ {r : List Op} {vs : List OV}, vs.length = r.length → (rowsO r vs).length = r.length
 | [], [], _ => rfl
 | o :: r, v :: vs, h => by
  rw [rowsO, List.length_append, rowsO_len (by simpa using h)]; rfl
 | [], _ :: _, h => by simp at h
 | _ :: _, [], h => by simp at h
theorem rowsO_pure : ∀ (r : List Op) (vs : List OV), ∀ row ∈ rowsO r vs, pureL row = true
 | o :: r, v :: vs, row, h => by
  rw [rowsO] at h
  rcases List.mem_append.1 h with h | h
  ·exact rowsO_pure r vs row h
  ·rw [List.mem_singleton.1 h]; rfl
 | [], _, row, h => by simp [rowsO] at h
 | _ :: _, [], row, h => by simp [rowsO] at h
theorem openR_rel {f : Nat → Option VE} {i i' : Nat} (h : f i' = some (.old i)) (vs : List OV) (o : Op) (r : List Op) : rrel f (openR i' vs o r) (openR i vs o r) :=
 rrel_app _ (rowsO_pure r vs) ⟨⟨rfl, rfl, rfl, ⟨h, rfl, rfl⟩, rfl, trivial⟩, trivial⟩
theorem openO_rel {f : Nat → Option VE} {i i' : Nat} (h : f i' = some (.old i)) (vs : List OV) (o : Op) (r : List Op) : orel f (openO i' vs o r) (openO i vs o r) := ⟨rfl, .inr (openR_rel h vs o r)⟩
theorem kidsO_rel {f : Nat → Option VE} (k : List Node) : orel f (kidsO k) (kidsO k) := ⟨rfl, .inl ⟨rfl, dataA_pure _⟩⟩
theorem kinO_rel {f : Nat → Option VE} (vs : List OV) (r : List Op) : orel f (kinO vs r) (kinO vs r) := ⟨rfl, rfl⟩
theorem boxB_rel {f : Nat → Option VE} {j j' : Nat} (h : f j' = some (.old j)) (m c : Nat) (b : Bool) : orel f (boxB j' m c b) (boxB j m c b) := ⟨rfl, .inr ⟨⟨⟨h, rfl, rfl⟩, rfl, rfl, trivial⟩, trivial⟩⟩
theorem B_up {σ0 : Store} {r r' : AV} (vs : List OV) (o : Op) (q : List Op) (c : Nat) (f : Bool) (hr : vrel (upf 4 [1, 2, 3]) r' r) : FinMove σ0 r (B0 vs o q c f) r' (B3 vs o q c f) :=
 fin_ups [1, 2, 3] rfl (by decide) ⟨rfl, rfl, rfl, trivial⟩ ⟨fun h => (by cases h), fun h => (by cases h), fun h => (by cases h), trivial⟩
  ⟨kinO_rel (f := upf 4 [1, 2, 3]) vs q, kidsO_rel (f := upf 4 [1, 2, 3]) o.2.2, openO_rel (f := upf 4 [1, 2, 3]) rfl vs o q, boxB_rel (f := upf 4 [1, 2, 3]) rfl _ _ _, trivial⟩ hr
def Bp (ops : List Op) (c : Nat) (f : Bool) (σ' : Store) : Prop := ∃ o r vs, ops = o :: r ∧ vs.length = r.length ∧ σ' = B3 vs o r c f
def Meth (P : Program) (g : FuncId) (args : List AV) (res : AV) (s s' : Bs) : Prop :=
 ∀ o r vs, s.ops = o :: r → vs.length = r.length → CallsAbs P g args (B0 vs o r s.cnt s.full) fun x σ' => x = res ∧ Bp s'.ops s'.cnt s'.full σ'
theorem Meth.use {P : Program} {g : FuncId} {args args0 : List AV} {res : AV} {s s' : Bs} (hm : Meth P g args0 res s s') {σ : Store} {K : AV → Store → Prop} {o : Op} {r : List Op} {vs : List OV} (j i l n0 n1 n2 n3 : Nat)
  (ho : s.ops = o :: r) (hv : vs.length = r.length) (hres : res.pure = true) (e0 : σ.n = n0) (e1 : n0 + 1 = n1) (e2 : n0 + 2 = n2) (e3 : n0 + 3 = n3)
  (hg : goodr 0 σ.n [.old 0, .old j, .old i, .old l] = true) (h0 : σ.get 0 = boxB j (r.length + 1) s.cnt s.full) (h1 : σ.get j = openO i vs o r) (h2 : σ.get i = kidsO o.2.2) (h3 : σ.get l = kinO vs r)
  (ha : vrelL (phi 0 [.old 0, .old j, .old i, .old l]) args0 args)
  (hK : ∀ o' r' vs', s'.ops = o' :: r' → vs'.length = r'.length → K res ⟨n3, (0, boxB n0 (r'.length + 1) s'.cnt s'.full) :: (n0, openO n1 vs' o' r') :: (n1, kidsO o'.2.2) :: (n2, kinO vs' r') :: (j, .dead) :: (i, .dead) :: (l, .dead) :: σ.objs⟩) : CallsAbs P g args σ K := by
 subst e0; subst e1; subst e2; subst e3
 have p1 : phi 0 [.old 0, .old j, .old i, .old l] 1 = some (.old j) := rfl
 have p2 : phi 0 [.old 0, .old j, .old i, .old l] 2 = some (.old i) := rfl
 have p3 : phi 0 [.old 0, .old j, .old i, .old l] 3 = some (.old l) := rfl
 have p0 : phi 0 [.old 0, .old j, .old i, .old l] 0 = some (.old 0) := rfl
 have hpos : 0 < σ.n := by
  have := good_nth (r := [.old 0, .old j, .old i, .old l]) (j := 0) (k := 0) hg rfl
  omega
 have hjn : j < σ.n := (good_nth (r := [.old 0, .old j, .old i, .old l]) (j := 1) hg rfl).2
 have hin : i < σ.n := (good_nth (r := [.old 0, .old j, .old i, .old l]) (j := 2) hg rfl).2
 have hln : l < σ.n := (good_nth (r := [.old 0, .old j, .old i, .old l]) (j := 3) hg rfl).2
 have x1 := idx_of_nth (B := 0) (n := σ.n) (r := [.old 0, .old j, .old i, .old l]) (j := 1) (k := j) (a := 0) hg rfl
 have x2 := idx_of_nth (B := 0) (n := σ.n) (r := [.old 0, .old j, .old i, .old l]) (j := 2) (k := i) (a := 0) hg rfl
 have x3 := idx_of_nth (B := 0) (n := σ.n) (r := [.old 0, .old j, .old i, .old l]) (j := 3) (k := l) (a := 0) hg rfl
 have x0 := idx_of_nth (B := 0) (n := σ.n) (r := [.old 0, .old j, .old i, .old l]) (j := 0) (k := 0) (a := 0) hg rfl
 refine CallsAbs.frame (hm o r vs ho hv) [.old 0, .old j, .old i, .old l] ⟨Nat.zero_le _, rfl, hg, ⟨?_, ?_, ?_, ?_, trivial⟩⟩ ha ?_
 ·show entry _ _ 3 _; unfold entry; rw [p3]; dsimp only; rw [h3]; exact kinO_rel _ _
 ·show entry _ _ 2 _; unfold entry; rw [p2]; dsimp only; rw [h2]; exact kidsO_rel _
 ·show entry _ _ 1 _; unfold entry; rw [p1]; dsimp only; rw [h1]; exact openO_rel p2 _ _ _
 ·show entry _ _ 0 _; unfold entry; rw [p0]; dsimp only; rw [h0]; exact boxB_rel p1 _ _ _
 ·rintro _ _ ⟨rfl, o', r', vs', q1, q2, rfl⟩
  have b0 : back [.old 0, .old j, .old i, .old l] σ.n 4 7 0 = some (.old 0) := by
   unfold back
   have : Nat.ble σ.n 0 = false := by
    cases hb : Nat.ble σ.n 0 with
    | false => rfl
    | true => have := Nat.le_of_ble_eq_true hb; omega
   rw [this]; dsimp only; rw [x0]
  have bl : ∀ k m, k < σ.n → idx [.old 0, .old j, .old i, .old l] k 0 = some m → back [.old 0, .old j, .old i, .old l] σ.n 4 7 k = some (.old m) := fun k m hk hx => by
   unfold back
   have : Nat.ble σ.n k = false := by
    cases hb : Nat.ble σ.n k with
    | false => rfl
    | true => have := Nat.le_of_ble_eq_true hb; omega
   rw [this]; dsimp only; rw [hx]
  have bh : ∀ m, m < 3 → back [.old 0, .old j, .old i, .old l] σ.n 4 7 (σ.n + m) = some (.old (4 + m)) := fun m hm => by
   unfold back
   rw [Nat.ble_eq_true_of_le (by omega : σ.n ≤ σ.n + m)]
   dsimp only
   rw [Nat.ble_eq_true_of_le (by omega : σ.n + m + 4 + 1 ≤ 7 + σ.n)]
   dsimp only
   rw [show σ.n + m + 4 - σ.n = 4 + m by omega]
  refine ⟨_, [(0, boxB σ.n (r'.length + 1) s'.cnt s'.full), (σ.n, openO (σ.n + 1) vs' o' r'), (σ.n + 1, kidsO o'.2.2), (σ.n + 2, kinO vs' r'), (j, .dead), (i, .dead), (l, .dead)], ⟨?_, ?_, ?_, ?_, ?_, ?_, ?_, trivial⟩, ?_, vrel_self _ hres, hK o' r' vs' q1 q2⟩
  ·unfold entry; rw [b0]; exact boxB_rel (bh 0 (by omega)) _ _ _
  ·unfold entry; rw [show back _ σ.n 4 7 σ.n = some (.old 4) from bh 0 (by omega)]; exact openO_rel (bh 1 (by omega)) _ _ _
  ·unfold entry; rw [bh 1 (by omega)]; exact kidsO_rel _
  ·unfold entry; rw [bh 2 (by omega)]; exact kinO_rel _ _
  ·unfold entry; rw [bl j _ hjn x1]; trivial
  ·unfold entry; rw [bl i _ hin x2]; trivial
  ·unfold entry; rw [bl l _ hln x3]; trivial
  ·have hb : ∀ k, Nat.beq k k = true := Nat.beq_refl
   simp [covers, keys, hb]
set_option maxRecDepth 100000 in
theorem last_7 (a b : Ob) (rows : List (List AV)) (m c : Nat) (f : Bool) (hm : 1 ≤ m) (hm2 : m ≤ 1000000) : CallsAbs Tryz.prog 112 [.ref 0 0 0] ⟨7, [(6, a), (5, b), (4, .rows (5, 91) rows), (0, boxB 4 m c f)]⟩ fun r σ' => r = .ref 4 (m - 1) 0 ∧ σ' = ⟨7, [(6, a), (5, b), (4, .rows (5, 91) rows), (0, boxB 4 m c f)]⟩ := by
 refine fn_okT Tryz.wf Tryz.tab_ok Tryz.func112 (by decide +kernel) rfl rfl ?_
 refine wR (k := ?_)
 refine drawnT Tryz.wf Tryz.tab_ok Tryz.mixed (by decide +kernel) ?_
 repeat' (first | refine qO ?_ | refine qP ?_ | fail)
 refine wR (k := ?_)
 exact ⟨_, _, FinMove.refl _ _ _, congrArg (fun x => AV.ref 4 x 0) (by omega), rfl⟩
set_option maxRecDepth 100000 in
theorem last_8 (x a b : Ob) (rows : List (List AV)) (m c : Nat) (f : Bool) (hm : 1 ≤ m) (hm2 : m ≤ 1000000) : CallsAbs Tryz.prog 112 [.ref 0 0 0] ⟨8, [(7, x), (6, a), (5, b), (4, .rows (5, 91) rows), (0, boxB 4 m c f)]⟩ fun r σ' => r = .ref 4 (m - 1) 0 ∧ σ' = ⟨8, [(7, x), (6, a), (5, b), (4, .rows (5, 91) rows), (0, boxB 4 m c f)]⟩ := by
 refine fn_okT Tryz.wf Tryz.tab_ok Tryz.func112 (by decide +kernel) rfl rfl ?_
 refine wR (k := ?_)
 refine drawnT Tryz.wf Tryz.tab_ok Tryz.mixed (by decide +kernel) ?_
 repeat' (first | refine qO ?_ | refine qP ?_ | fail)
 refine wR (k := ?_)
 exact ⟨_, _, FinMove.refl _ _ _, congrArg (fun x => AV.ref 4 x 0) (by omega), rfl⟩
def totO : List Op → Nat
 | [] => 0
 | o :: r => o.2.2.length + 1 + totO r
theorem totO_len : ∀ ops : List Op, ops.length ≤ totO ops
 | [] => Nat.le_refl _
 | o :: r => by have := totO_len r; rw [totO, List.length_cons]; omega
abbrev nodA (n : Node) : AV := .agg [.d (.str n.name), .d (.sl (attrsD n.attrs)), .d (.str n.text), .d (.sl (nodesD n.kids))]
theorem nodeD_len (n : Node) : (nodeD n).length = 4 := by rw [nodeD_eq]; rfl
theorem nodesA_len (k : List Node) : ((nodesD k).map fun r => r.map AV.d).length = k.length := by rw [List.length_map, nodesD_len]
theorem nodesRows (k : List Node) : ∀ row ∈ (nodesD k).map (fun r => r.map AV.d), row.length = 4 ∧ ∀ a ∈ row, a.one = true := dataRows fun r hr => by
 rw [nodesD_map] at hr
 obtain ⟨n, _, rfl⟩ := List.mem_map.1 hr
 exact nodeD_len n
theorem nodes_snoc (k : List Node) (n : Node) : (nodesD (k ++ [n])).map (fun r => r.map AV.d) = ((nodesD k).map fun r => r.map AV.d) ++ [(nodeD n).map .d] := by
 rw [nodesD_map, nodesD_map]; simp
theorem openR_get (i : Nat) (vs : List OV) (o : Op) (r : List Op) (hv : vs.length = r.length) : (openR i vs o r)[r.length]? = some (rowO o (.own i 0 o.2.2.length)) := by
 unfold openR
 rw [List.getElem?_append_right (by rw [rowsO_len hv]; exact Nat.le_refl _), rowsO_len hv, Nat.sub_self]; rfl
theorem openR_set (i j len : Nat) (vs : List OV) (o o' : Op) (r : List Op) (hv : vs.length = r.length) (h1 : o'.1 = o.1) (h2 : o'.2.1 = o.2.1) (h3 : o'.2.2.length = len) :
  (openR i vs o r).set r.length [.d (.str o.1), .d (.sl (attrsD o.2.1)), .d (.str []), .own j 0 len, .d (.str o.1)] = openR j vs o' r := by
 unfold openR
 rw [List.set_append_right _ _ (by rw [rowsO_len hv]; exact Nat.le_refl _), rowsO_len hv, Nat.sub_self]
 rw [rowO, rowO, h1, h2, h3]; rfl
theorem openR_len (i : Nat) (vs : List OV) (o : Op) (r : List Op) (hv : vs.length = r.length) : (openR i vs o r).length = r.length + 1 := by
 unfold openR; rw [List.length_append, rowsO_len hv]; rfl
def nodR (n : Node) : Ob := .rows (4, 58) [[.d (.str n.name), .d (.sl (attrsD n.attrs)), .d (.str n.text), .d (.sl (nodesD n.kids))]]
theorem kids_app (i : Nat) (k : List Node) (n : Node) (σ : Store) (K : AV → Store → Prop) (h1 : σ.get i = kidsO k) (hl : k.length ≤ 1000000) (hK : K (.own σ.n 0 (k ++ [n]).length) ⟨σ.n + 1, (σ.n, kidsO (k ++ [n])) :: (i, .dead) :: σ.objs⟩) :
  aappend Tryz.tab σ [32, 32] (.own i 0 k.length) (.d (.sl [nodeD n])) K := by
 have hml := nodesA_len k
 have e1 := nodes_snoc k n
 have e2 : ((nodesD k).map fun r => r.map AV.d).length + 1 = (k ++ [n]).length := by rw [hml]; simp
 refine ⟨(nodesD k).map (fun r : List D => List.map AV.d r), [(nodeD n).map AV.d], ?_, rfl, (show srcLen (.own i 0 k.length) _ from hml), trivial, (by rw [hml]; show (k.length + 1) * 80 ≤ 140737488355328; omega), Nat.le_of_ble_eq_true rfl, Nat.le_of_ble_eq_true rfl, rfl, rfl, nodesRows k, (by have := nodesRows [n]; rwa [nodesD_map] at this), ?_⟩
 ·show (match σ.get i with | .rows _ rs => some ((rs.drop 0).take k.length) | _ => none) = _
  rw [h1]
  exact congrArg some (takeAll hml)
 ·show chk (isRowsE 4 58 (σ.get i)) _
  rw [h1]
  show K (.own σ.n 0 (((nodesD k).map fun r => r.map AV.d).length + 1)) ⟨σ.n + 1, (σ.n, .rows (4, 58) (((nodesD k).map fun r => r.map AV.d) ++ [(nodeD n).map AV.d])) :: (i, .dead) :: σ.objs⟩
  rw [← e1, e2]
  exact hK
theorem kids_set (k : List Node) (z n : Node) : ((nodesD (k ++ [z])).map fun r => r.map AV.d).set k.length [.d (.str n.name), .d (.sl (attrsD n.attrs)), .d (.str n.text), .d (.sl (nodesD n.kids))] = (nodesD (k ++ [n])).map fun r => r.map AV.d := by
 rw [nodes_snoc, nodes_snoc, List.set_append_right _ _ (by rw [nodesA_len]; exact Nat.le_refl _), nodesA_len, Nat.sub_self, nodeD_eq n]; rfl
theorem kids_last (k : List Node) (z : Node) : ((nodesD (k ++ [z])).map fun r => r.map AV.d)[k.length]? = some [.d (.str z.name), .d (.sl (attrsD z.attrs)), .d (.str z.text), .d (.sl (nodesD z.kids))] := by
 rw [nodes_snoc, List.getElem?_append_right (by rw [nodesA_len]; exact Nat.le_refl _), nodesA_len, Nat.sub_self, nodeD_eq z]; rfl
theorem fin_st {σ0 σ σ' : Store} {r : AV} (h : σ = σ') : FinMove σ0 r σ r σ' := h ▸ FinMove.refl _ _ _
theorem get_swap {n a b : Nat} {x y : Ob} {l : List (Nat × Ob)} (h : a ≠ b) (i : Nat) : (Store.mk n ((a, x) :: (b, y) :: l)).get i = (Store.mk n ((b, y) :: (a, x) :: l)).get i := by
 simp only [Store.get, look_cons]
 by_cases h1 : a = i
 ·subst h1; rw [if_pos rfl, if_neg (Ne.symm h), if_pos rfl]
 ·rw [if_neg h1, if_neg h1]
def nodO5 (o : Op) : Ob := .rows (4, 58) [[.d (.str o.1), .d (.sl (attrsD o.2.1)), .d (.str []), .own 5 0 o.2.2.length]]
abbrev pS0 (n : Node) (vs : List OV) (o : Op) (r : List Op) (c : Nat) (f : Bool) : Store := ⟨8, (7, nodR n) :: (B3 vs o r c f).objs⟩
abbrev pS1 (n : Node) (vs : List OV) (o : Op) (r : List Op) (c : Nat) (f : Bool) : Store := ⟨9, (8, kidsO (o.2.2 ++ [.mk [] [] [] []])) :: (5, .dead) :: (pS0 n vs o r c f).objs⟩
abbrev pS2 (n : Node) (vs : List OV) (o : Op) (r : List Op) (c : Nat) (f : Bool) : Store := ⟨9, (8, kidsO (o.2.2 ++ [n])) :: (pS1 n vs o r c f).objs⟩
abbrev pS4 (n : Node) (vs : List OV) (o : Op) (r : List Op) (c : Nat) (f : Bool) : Store := ⟨9, (4, openO 8 vs (o.1, o.2.1, o.2.2 ++ [n]) r) :: (pS1 n vs o r c f).objs⟩
abbrev pS6 (n : Node) (vs : List OV) (o : Op) (r : List Op) (c : Nat) (f : Bool) : Store := ⟨9, (4, openO 8 vs (o.1, o.2.1, o.2.2 ++ [n]) r) :: (pS2 n vs o r c f).objs⟩
set_option maxRecDepth 100000 in
theorem put_ok (n : Node) (s : Bs) (hs : totO s.ops ≤ 1000000) : Meth Tryz.prog 113 [.ref 0 0 0, nodA n] (.tup []) s ⟨putO n s.ops, s.cnt, s.full⟩ := by
 intro o r vs ho hv
 rw [ho] at hs ⊢
 have hlen := totO_len (o :: r)
 rw [List.length_cons] at hlen
 have hk : o.2.2.length ≤ 1000000 := by rw [totO] at hs; omega
 generalize s.cnt = c
 generalize s.full = f
 have hd1 := last_8 (.rows (4, 58) [[.d (.str n.name), .d (.sl (attrsD n.attrs)), .d (.str n.text), .d (.sl (nodesD n.kids))]]) (kinO vs r) (kidsO o.2.2) (openR 5 vs o r) (r.length + 1) c f (by omega) (by omega)
 rw [Nat.add_sub_cancel] at hd1
 have hrow := openR_get 5 vs o r hv
 have hkl := kids_last o.2.2 (.mk [] [] [] [])
 have hks := kids_set o.2.2 (.mk [] [] [] []) n
 have hrs := openR_set 5 8 (o.2.2 ++ [n]).length vs o (o.1, o.2.1, o.2.2 ++ [n]) r hv rfl rfl rfl
 refine fn_okTE Tryz.wf Tryz.tab_ok Tryz.func113 (by decide +kernel) rfl rfl ?_
 refine E.fm (s' := [(0, .ref 0 0 0), (1, nodA n)]) (σ' := B3 vs o r c f) (B_up vs o r _ _ ⟨⟨rfl, rfl, rfl⟩, ⟨rfl, rfl, rfl, rfl, trivial⟩, trivial⟩) ?_
 refine E.of Tryz.wf Tryz.tab_ok ?_
 repeat' (first | refine CallsAbs.use1 hd1 ?_ | refine wO ?_ | (refine ⟨fun h => ?_, fun h => ?_⟩ <;> (try simp only [wS, List.length_cons, List.length_nil] at h) <;> (try exact wX h)) | refine wP ?_ | fail)
 refine drawnM Tryz.wf Tryz.tab_ok [8, 10, 14] (fun t => match t with
  | [true, false, false] => pS1 n vs o r c f
  | [true, true, false] => pS2 n vs o r c f
  | [true, false, true] => pS4 n vs o r c f
  | [true, true, true] => pS6 n vs o r c f
  | _ => pS0 n vs o r c f) rfl Tryz.mixed (by decide +kernel) ?_
 iterate 4 refine mblind (by decide +kernel) rfl rfl (fun _ => FinMove.refl _ _ _) ?_
 refine mreadL [[false, false, false]] (by decide +kernel) rfl rfl ⟨⟨_, hrow, _, rfl, FinMove.refl _ _ _⟩, trivial⟩ ?_
 refine mreadL (r := nodA n) [[false, false, false]] (by decide +kernel) rfl rfl ⟨⟨_, rfl, Nat.le_of_ble_eq_true rfl, FinMove.refl _ _ _⟩, trivial⟩ ?_
 refine mblind (by decide +kernel) rfl rfl (fun _ => FinMove.refl _ _ _) ?_
 refine mreadL (r := .d (.sl [nodeD (.mk [] [] [] [])])) [[false, false, false]] (by decide +kernel) rfl rfl ⟨fin_lit rfl rfl rfl ⟨⟨rfl, .inl ⟨rfl, fun row h => by rw [List.mem_singleton.1 h]; rfl⟩⟩, ⟨rfl, rfl⟩, ⟨rfl, .inl ⟨rfl, dataA_pure _⟩⟩, ⟨rfl, .inr (openR_rel rfl _ _ _)⟩, ⟨rfl, .inr ⟨⟨⟨rfl, rfl, rfl⟩, rfl, rfl, trivial⟩, trivial⟩⟩, trivial⟩, trivial⟩ ?_
 refine meff (r := .own 8 0 (o.2.2 ++ [n]).length) 0 [[false, false, false]] (by decide +kernel) rfl rfl rfl rfl ⟨?_, trivial⟩ ?_
 ·refine kids_app 5 o.2.2 (.mk [] [] [] []) (pS0 n vs o r c f) (fun v σ' => FinMove (pS0 n vs o r c f) v σ' (.own 8 0 (o.2.2 ++ [n]).length) (pS1 n vs o r c f)) rfl hk ?_
  rw [show (o.2.2 ++ [Node.mk [] [] [] []]).length = (o.2.2 ++ [n]).length by simp]
  exact FinMove.refl _ _ _
 refine mreadL (r := .ref 8 o.2.2.length 0) [[true, false, false], [true, false, true]] (by decide +kernel) rfl rfl ⟨⟨⟨by omega, by simp only [List.length_append, List.length_cons, List.length_nil]; omega⟩, fin_eq (congrArg (fun x => AV.ref 8 x 0) (by omega))⟩, ⟨⟨by omega, by simp only [List.length_append, List.length_cons, List.length_nil]; omega⟩, fin_eq (congrArg (fun x => AV.ref 8 x 0) (by omega))⟩, trivial⟩ ?_
 refine meff (r := .top) 1 [[true, false, false], [true, false, true]] (by decide +kernel) rfl rfl rfl rfl ⟨⟨_, hkl, rfl, Nat.le_of_ble_eq_true rfl, ?_⟩, ⟨_, hkl, rfl, Nat.le_of_ble_eq_true rfl, ?_⟩, trivial⟩ ?_
 ·exact fin_st (congrArg (fun x => Store.mk 9 ((8, Ob.rows (4, 58) x) :: (pS1 n vs o r c f).objs)) hks)
 ·refine (fin_st (congrArg (fun x => Store.mk 9 ((8, Ob.rows (4, 58) x) :: (pS4 n vs o r c f).objs)) hks)).trans (fin_same rfl (get_swap (by decide)))
 iterate 3 refine mblind (by decide +kernel) rfl rfl (fun _ => FinMove.refl _ _ _) ?_
 refine meff (r := .top) 2 [[true, false, false], [true, true, false]] (by decide +kernel) rfl rfl rfl rfl ⟨⟨_, hrow, rfl, Nat.le_of_ble_eq_true rfl, ?_⟩, ⟨_, hrow, rfl, Nat.le_of_ble_eq_true rfl, ?_⟩, trivial⟩ ?_
 ·exact fin_st (congrArg (fun x => Store.mk 9 ((4, Ob.rows (5, 91) x) :: (pS1 n vs o r c f).objs)) hrs)
 ·exact fin_st (congrArg (fun x => Store.mk 9 ((4, Ob.rows (5, 91) x) :: (pS2 n vs o r c f).objs)) hrs)
 exact ⟨.tup [], B3 vs (o.1, o.2.1, o.2.2 ++ [n]) r c f, fin_mv [.old 4, .old 8, .old 6] rfl rfl rfl ⟨⟨rfl, rfl⟩, ⟨rfl, .inl ⟨rfl, dataA_pure _⟩⟩, ⟨rfl, .inr (openR_rel rfl _ _ _)⟩, ⟨rfl, .inr ⟨⟨⟨rfl, rfl, rfl⟩, rfl, rfl, trivial⟩, trivial⟩⟩, trivial⟩ trivial, rfl, _, r, vs, rfl, hv, rfl⟩
theorem openR_cut (i : Nat) (vs : List OV) (o : Op) (r : List Op) (hv : vs.length = r.length) : rowsO r vs = (openR i vs o r).take r.length := by
 unfold openR
 rw [List.take_append_of_le_length (by rw [rowsO_len hv]; exact Nat.le_refl _), List.take_of_length_le (by rw [rowsO_len hv]; exact Nat.le_refl _)]
theorem krows_open (i : Nat) (v : OV) (vs : List OV) (p : Op) (r : List Op)   : krows v.1 (.own i 0 (nodesD p.2.2).length) (openR i vs p r) (rowsO (p :: r) (v :: vs)) := by
 rw [nodesD_len]
 unfold openR
 rw [rowsO]
 exact krows_app _ ⟨⟨.inl rfl, .inl rfl, .inl rfl, .inr ⟨rfl, rfl⟩, .inl rfl, trivial⟩, trivial⟩
set_option maxRecDepth 100000 in
theorem shut_ok (s : Bs) (hs : totO s.ops ≤ 1000000) (h2 : 2 ≤ s.ops.length) : Meth Tryz.prog 69 [.ref 0 0 0] (.tup []) s ⟨shutO s.ops, s.cnt, s.full⟩ := by
 intro o r vs ho hv
 rw [ho] at hs h2 ⊢
 obtain ⟨p, r, rfl⟩ : ∃ p q, r = p :: q := by cases r with
  | nil => simp at h2
  | cons p q => exact ⟨p, q, rfl⟩
 obtain ⟨v, vs, rfl⟩ : ∃ v q, vs = v :: q := by cases vs with
  | nil => simp at hv
  | cons p q => exact ⟨p, q, rfl⟩
 have hlen := totO_len (o :: p :: r)
 simp only [List.length_cons] at hlen
 have hv' : vs.length = r.length := by simpa using hv
 have hsp : totO (p :: r) ≤ 1000000 := by rw [totO] at hs; omega
 generalize s.cnt = c
 generalize s.full = f
 have hm := put_ok (.mk o.1 o.2.1 [] o.2.2) ⟨p :: r, c, f⟩ hsp
 have hd1 := last_7 (kinO (v :: vs) (p :: r)) (kidsO o.2.2) (openR 5 (v :: vs) o (p :: r)) ((p :: r).length + 1) c f (by omega) (by simp only [List.length_cons]; omega)
 rw [Nat.add_sub_cancel] at hd1
 have hrow := openR_get 5 (v :: vs) o (p :: r) hv
 refine fn_okTE Tryz.wf Tryz.tab_ok Tryz.func69 (by decide +kernel) rfl rfl ?_
 refine E.fm (s' := [(0, .ref 0 0 0)]) (σ' := B3 (v :: vs) o (p :: r) c f) (B_up (v :: vs) o (p :: r) _ _ ⟨⟨rfl, rfl, rfl⟩, trivial⟩) ?_
 refine E.seq (E.of Tryz.wf Tryz.tab_ok ?_)
 repeat' (first | refine CallsAbs.use1 hd1 ?_ | refine wO ?_ | (refine ⟨fun h => ?_, fun h => ?_⟩ <;> (try simp only [wS, List.length_cons, List.length_nil] at h) <;> (try exact wX h)) | refine wP ?_ | fail)
 refine E.seq (drawnZ Tryz.wf Tryz.tab_ok [14] (fun t => match t with
  | 0 => ⟨8, (7, nodO5 o) :: (7, .rows (4, 58) [[.d (.str []), .nil, .d (.str []), .nil]]) :: (B3 (v :: vs) o (p :: r) c f).objs⟩
  | _ => ⟨8, (0, boxB 4 (p :: r).length c f) :: (7, nodO5 o) :: (7, .rows (4, 58) [[.d (.str []), .nil, .d (.str []), .nil]]) :: (B3 (v :: vs) o (p :: r) c f).objs⟩) rfl Tryz.mixed (by decide +kernel) ?_)
 repeat' (first | refine zO ?_ | fail)
 refine zblind (r := .own 4 0 (p :: r).length) (by decide +kernel) rfl rfl (fun _ => ⟨⟨by (first | omega | (simp only [lenS]; omega)), by (first | omega | (simp only [lenS]; omega)), by (first | omega | (simp only [lenS]; omega))⟩, .inl ⟨rfl, fin_eq (congrArg (fun x => AV.own 4 0 x) (by (first | omega | (simp only [lenS]; omega))))⟩⟩) ?_
 repeat' (first | refine zO ?_ | fail)
 refine zeff (r := .top) rfl rfl rfl ⟨_, rfl, rfl, Nat.le_of_ble_eq_true rfl, FinMove.refl _ _ _⟩ ?_
 refine E.fm (s' := [(0, .ref 0 0 0), (2, .ref 7 0 0)]) (fin_cut (j := 4) (rs := openR 5 (v :: vs) o (p :: r)) (rs' := rowsO (p :: r) (v :: vs)) rfl (p :: r).length (openR_cut 5 (v :: vs) o (p :: r) hv)) ?_
 refine E.kinOut (s' := [(0, .ref 0 0 0), (2, .ref 7 0 0)]) (i := 6) (j := 4) (v := v.1) (rows := nodesD p.2.2) (l := kinL r vs) (rs := rowsO (p :: r) (v :: vs)) (rs' := openR 8 vs p r) rfl rfl (krows_open 8 v vs p r) ⟨.inl rfl, .inl rfl, trivial⟩ (.inr trivial) ?_
 refine E.of Tryz.wf Tryz.tab_ok ?_
 repeat' (first | refine CallsAbs.use1 hd1 ?_ | refine wO ?_ | (refine ⟨fun h => ?_, fun h => ?_⟩ <;> (try simp only [wS, List.length_cons, List.length_nil] at h) <;> (try exact wX h)) | refine wP ?_ | fail)
 refine CallsAbs.freezeTo (args' := [.ref 0 0 0, nodA (.mk o.1 o.2.1 [] o.2.2)]) (ds := nodesD o.2.2) 5 rfl (rowsD_d _) ⟨trivial, ⟨trivial, trivial, trivial, (fun _ => by rw [nodesA_len]; exact Nat.le_of_eq (Nat.zero_add _)), trivial⟩, trivial⟩ ?_ ?_
 ·show [AV.ref 0 0 0, .agg [.d (.str o.1), .d (.sl (attrsD o.2.1)), .d (.str []), frz 5 (nodesD o.2.2) (.own 5 0 o.2.2.length)]] = _
  rw [frz_whole 5 _ _ (nodesD_len _).symm]; rfl
 refine hm.use (o := p) (r := r) (vs := vs) 4 8 6 9 10 11 12 rfl hv' rfl rfl rfl rfl rfl rfl rfl rfl rfl rfl ⟨⟨rfl, rfl, rfl⟩, ⟨rfl, rfl, rfl, rfl, trivial⟩, trivial⟩ fun o' r' vs' q1 q2 => ?_
 repeat' (first | refine CallsAbs.use1 hd1 ?_ | refine wO ?_ | (refine ⟨fun h => ?_, fun h => ?_⟩ <;> (try simp only [wS, List.length_cons, List.length_nil] at h) <;> (try exact wX h)) | refine wP ?_ | fail)
 exact ⟨.tup [], B3 vs' o' r' c f, fin_mv [.old 9, .old 10, .old 11] rfl rfl rfl ⟨⟨rfl, rfl⟩, ⟨rfl, .inl ⟨rfl, dataA_pure _⟩⟩, ⟨rfl, .inr (openR_rel rfl _ _ _)⟩, ⟨rfl, .inr ⟨⟨⟨rfl, rfl, rfl⟩, rfl, rfl, trivial⟩, trivial⟩⟩, trivial⟩ trivial, rfl, _, _, vs', q1, q2, rfl⟩
theorem over_eq (n c : Nat) : (false || (decide (65 < n + 1) || decide (2000 < c + 1))) = !(decide (((n + 1 : Nat) : Int) - 1 = if 64 < ((n + 1 : Nat) : Int) - 1 then 64 else ((n + 1 : Nat) : Int) - 1) && (decide (((c + 1 : Nat) : Int) = if 2000 < ((c + 1 : Nat) : Int) then 2000 else ((c + 1 : Nat) : Int)) && true)) := by
 by_cases h1 : 64 < n <;> by_cases h2 : 2000 < c + 1
 all_goals
  simp only [show (64 < ((n + 1 : Nat) : Int) - 1) ↔ (64 < n) by omega, show ((2000 : Int) < ((c + 1 : Nat) : Int)) ↔ (2000 < c + 1) by omega, h1, h2, if_true, if_false, show (65 < n + 1) ↔ (64 < n) by omega, decide_true, decide_false]
  first | rfl | (rw [decide_eq_false (by omega)]; rfl) | (rw [decide_eq_false (p := ((n + 1 : Nat) : Int) - 1 = 64) (by omega)]; rfl) | (simp; omega)
set_option maxRecDepth 100000 in
theorem count_ok (s : Bs) (hs : s.ops.length ≤ 1000000) (hc : s.cnt ≤ 1000000) : Meth Tryz.prog 114 [.ref 0 0 0] (.tup []) s (countS s) := by
 intro o r vs ho hv
 unfold countS
 rw [ho] at hs ⊢
 dsimp only
 generalize s.cnt = c at *
 generalize s.full = f
 have hlen : (o :: r).length = r.length + 1 := rfl
 rw [hlen] at hs ⊢
 refine fn_okTE Tryz.wf Tryz.tab_ok Tryz.func114 (by decide +kernel) rfl rfl ?_
 refine E.fm (s' := [(0, .ref 0 0 0)]) (σ' := B3 vs o r c f) (B_up vs o r _ _ ⟨⟨rfl, rfl, rfl⟩, trivial⟩) ?_
 refine E.seq (E.of Tryz.wf Tryz.tab_ok ?_)
 refine wR (k := ?_)
 refine E.view (s' := [(0, .ref 0 0 0)]) (σ' := B3 vs o r (c + 1) f) (Mv.of [.old 4, .old 5, .old 6] rfl rfl rfl ⟨⟨rfl, rfl⟩, ⟨rfl, .inl ⟨rfl, dataA_pure _⟩⟩, ⟨rfl, .inr (openR_rel rfl _ _ _)⟩, ⟨rfl, .inr ⟨⟨⟨rfl, rfl, rfl⟩, rfl, rfl, trivial⟩, trivial⟩⟩, trivial⟩ ⟨⟨rfl, rfl, rfl⟩, trivial⟩) ?_
 refine E.seq (drawnZ Tryz.wf Tryz.tab_ok [11, 12] (fun t => match t with
  | 0 => B3 vs o r (c + 1) f
  | 1 => ⟨8, (7, .rows (2, 164) [[.d (.int .i64 0), .d (.int .i64 0)]]) :: (B3 vs o r (c + 1) f).objs⟩
  | _ => ⟨8, (7, .rows (2, 164) [[.d (.int .i64 (((r.length + 1 : Nat) : Int) - 1)), .d (.int .i64 ((c + 1 : Nat) : Int))]]) :: (7, .rows (2, 164) [[.d (.int .i64 0), .d (.int .i64 0)]]) :: (B3 vs o r (c + 1) f).objs⟩) rfl Tryz.mixed (by decide +kernel) ?_)
 repeat' (first | refine zO ?_ | fail)
 refine zreadL (List.range 3) (by decide +kernel) rfl rfl (by repeat' first | exact trivial | exact ⟨_, rfl, _, rfl, FinMove.refl _ _ _⟩ | refine ⟨?_, ?_⟩) ?_
 repeat' (first | refine zO ?_ | fail)
 refine zreadL (List.range 3) (by decide +kernel) rfl rfl (by repeat' first | exact trivial | exact ⟨_, rfl, _, rfl, FinMove.refl _ _ _⟩ | refine ⟨?_, ?_⟩) ?_
 repeat' (first | refine zO ?_ | fail)
 refine zeff (r := .ref 7 0 0) rfl rfl rfl (FinMove.refl _ _ _) ?_
 refine zeff (r := .top) rfl rfl rfl ⟨_, rfl, rfl, Nat.le_of_ble_eq_true rfl, FinMove.refl _ _ _⟩ ?_
 refine E.of Tryz.wf Tryz.tab_ok ?_
 cases f with
 | true =>
  refine wR (k := ?_)
  exact ⟨.tup [], B3 vs o r (c + 1) _, fin_mv [.old 4, .old 5, .old 6] rfl rfl rfl ⟨⟨rfl, rfl⟩, ⟨rfl, .inl ⟨rfl, dataA_pure _⟩⟩, ⟨rfl, .inr (openR_rel rfl _ _ _)⟩, ⟨rfl, .inr ⟨⟨⟨rfl, rfl, rfl⟩, rfl, (rfl), trivial⟩, trivial⟩⟩, trivial⟩ trivial, rfl, _, r, vs, rfl, hv, rfl⟩
 | false =>
  refine wR (k := ?_)
  exact ⟨.tup [], B3 vs o r (c + 1) _, fin_mv [.old 4, .old 5, .old 6] rfl rfl rfl ⟨⟨rfl, rfl⟩, ⟨rfl, .inl ⟨rfl, dataA_pure _⟩⟩, ⟨rfl, .inr (openR_rel rfl _ _ _)⟩, ⟨rfl, .inr ⟨⟨⟨rfl, rfl, rfl⟩, rfl, (congrArg D.bool (over_eq r.length c)), trivial⟩, trivial⟩⟩, trivial⟩ trivial, rfl, _, r, vs, rfl, hv, rfl⟩
def innerN (names : List (List UInt8)) : List Op → Nat
 | o :: o2 :: r => if o.1 ∈ names then r.length + 1 else innerN names (o2 :: r)
 | _ => 0
theorem innerN_hit {names : List (List UInt8)} {x : Op} {t : List Op} (h : 0 < t.length) (hm : x.1 ∈ names) : innerN names (x :: t) = t.length := by
 cases t with
 | nil => simp at h
 | cons y t => rw [innerN, if_pos hm]; rfl
theorem innerN_miss {names : List (List UInt8)} {x y : Op} {t : List Op} (hm : x.1 ∉ names) : innerN names (x :: y :: t) = innerN names (y :: t) := by
 rw [innerN, if_neg hm]
theorem rowsO_at : ∀ {r : List Op} {vs : List OV}, vs.length = r.length → ∀ (pre : List Op) (x : Op) (t : List Op), r = pre ++ x :: t → ∃ v : OV, (rowsO r vs)[t.length]? = some (rowO x (.lit v.1))
 | o :: r, v :: vs, h, [], x, t, e => by
  cases e
  refine ⟨v, ?_⟩
  rw [rowsO, List.getElem?_append_right (by rw [rowsO_len (by simpa using h)]; exact Nat.le_refl _), rowsO_len (by simpa using h), Nat.sub_self]; rfl
 | o :: r, v :: vs, h, p :: pre, x, t, e => by
  cases e
  obtain ⟨u, hu⟩ := rowsO_at (vs := vs) (by simpa using h) pre x t rfl
  refine ⟨u, ?_⟩
  show (rowsO (pre ++ x :: t) vs ++ [rowO o (.lit v.1)])[t.length]? = _
  rw [List.getElem?_append_left (List.getElem?_eq_some_iff.1 hu).1]
  exact hu
 | [], [], _, pre, x, t, e => by cases pre <;> cases e
 | [], _ :: _, h, _, _, _, _ => by simp at h
 | _ :: _, [], h, _, _, _, _ => by simp at h
theorem openR_at (i : Nat) (vs : List OV) (o : Op) (r : List Op) (hv : vs.length = r.length) (pre : List Op) (x : Op) (t : List Op) (e : o :: r = pre ++ x :: t) : ∃ w, (openR i vs o r)[t.length]? = some (rowO x w) := by
 cases pre with
 | nil => cases e; exact ⟨_, openR_get i vs o r hv⟩
 | cons p pre =>
  cases e
  obtain ⟨u, hu⟩ := rowsO_at hv pre x t rfl
  refine ⟨.lit u.1, ?_⟩
  unfold openR
  rw [List.getElem?_append_left (List.getElem?_eq_some_iff.1 hu).1]
  exact hu
set_option maxRecDepth 100000 in
theorem inner_ok (names : List (List UInt8)) (hn : names.length ≤ 4611686018427387903) (vs : List OV) (o : Op) (r : List Op) (c : Nat) (f : Bool) (hv : vs.length = r.length) (hr : r.length ≤ 1000000) :
  CallsAbs Tryz.prog 117 [.ref 0 0 0, .d (.sl (strsD names))] ⟨8, (B3 vs o r c f).objs⟩ fun x σ' => x = .d (.int .i64 (innerN names (o :: r) : Nat)) ∧ σ' = ⟨8, (B3 vs o r c f).objs⟩ := by
 refine fn_okTE Tryz.wf Tryz.tab_ok Tryz.func117 (by decide +kernel) rfl rfl ?_
 refine E.seq (E.of Tryz.wf Tryz.tab_ok ?_)
 refine wR (k := ?_)
 refine scopeE ?_
 refine E.of Tryz.wf Tryz.tab_ok ?_
 refine wR (k := ?_)
 refine loopT Tryz.wf Tryz.tab_ok (fun n s' σ => ∃ (pre : List Op) (x : Op) (t : List Op), n = t.length ∧ o :: r = pre ++ x :: t ∧ innerN names (x :: t) = innerN names (o :: r) ∧ s' = [(0, .ref 0 0 0), (1, .d (.sl (strsD names))), (5, .d (.int .i64 0)), (6, .d (.int .i64 t.length))] ∧ σ = ⟨8, (B3 vs o r c f).objs⟩)
  ⟨[], o, r, rfl, rfl, rfl, rfl, rfl⟩ (Mv.of [] rfl rfl rfl ⟨⟨rfl, rfl⟩, ⟨rfl, .inl ⟨rfl, dataA_pure _⟩⟩, ⟨rfl, .inr (openR_rel rfl _ _ _)⟩, ⟨rfl, .inr ⟨⟨⟨rfl, rfl, rfl⟩, rfl, rfl, trivial⟩, trivial⟩⟩, trivial⟩ ⟨⟨rfl, rfl, rfl⟩, rfl, rfl, congrArg (fun n : Int => D.int .i64 n) (by omega), trivial⟩) ?_
 rintro _ _ _ ⟨pre, x, t, rfl, hq, hI, rfl, rfl⟩
 obtain ⟨w, hrow⟩ := openR_at 5 vs o r hv pre x t hq
 have hlt : t.length ≤ r.length := by have := congrArg List.length hq; simp at this; omega
 have hc1 := Contains_ok names x.1 hn
 repeat' (first | refine PureC.use hc1 ?_ | refine wO ?_ | (refine ⟨fun h => ?_, fun h => ?_⟩ <;> (try simp only [wS, List.length_cons, List.length_nil] at h) <;> (try exact wX h)) | refine wP ?_ | fail)
 ·exact ⟨_, _, FinMove.refl _ _ _, congrArg (fun n : Nat => AV.d (.int .i64 (n : Int))) ((innerN_hit (by omega) (by assumption)).symm.trans hI), rfl⟩
 ·cases t with
  | nil => exact absurd (by assumption : (0 : Int) < _) (by simp)
  | cons y t =>
   exact ⟨_, _, _, ⟨pre ++ [x], y, t, rfl, by rw [hq]; simp, (innerN_miss (by assumption)).symm.trans hI, rfl, rfl⟩, by simp, Mv.of [] rfl rfl rfl ⟨⟨rfl, rfl⟩, ⟨rfl, .inl ⟨rfl, dataA_pure _⟩⟩, ⟨rfl, .inr (openR_rel rfl _ _ _)⟩, ⟨rfl, .inr ⟨⟨⟨rfl, rfl, rfl⟩, rfl, rfl, trivial⟩, trivial⟩⟩, trivial⟩ ⟨⟨rfl, rfl, rfl⟩, rfl, rfl, congrArg (fun n : Int => D.int .i64 n) (by simp), trivial⟩⟩
 ·cases t with
  | cons y t => exact absurd (by simp : (0 : Int) < ((y :: t).length : Nat)) (by assumption)
  | nil =>
   exact ⟨_, _, FinMove.refl _ _ _, congrArg (fun n : Nat => AV.d (.int .i64 (n : Int))) (show 0 = _ from hI), rfl⟩
theorem innerN_put (names : List (List UInt8)) (n : Node) : ∀ ops : List Op, innerN names (putO n ops) = innerN names ops
 | [] => rfl
 | (a, b, k) :: r => by cases r <;> rfl
theorem putO_len (n : Node) : ∀ ops : List Op, (putO n ops).length = ops.length
 | [] => rfl
 | (a, b, k) :: r => rfl
theorem putO_tot (n : Node) : ∀ ops : List Op, totO (putO n ops) ≤ totO ops + 1
 | [] => by simp [putO]
 | (a, b, k) :: r => by simp only [putO, totO, List.length_append, List.length_cons, List.length_nil]; omega
theorem shutO_len (o p : Op) (r : List Op) : (shutO (o :: p :: r)).length = r.length + 1 := by
 obtain ⟨a, b, k⟩ := o
 show (putO _ (p :: r)).length = _
 rw [putO_len]; rfl
theorem shutO_tot : ∀ ops : List Op, totO (shutO ops) ≤ totO ops
 | [] => Nat.le_refl _
 | (a, b, k) :: r => by
  have := putO_tot (.mk a b [] k) r
  show totO (putO _ r) ≤ _
  rw [totO]; omega
theorem shutO_inner (names : List (List UInt8)) (o p : Op) (r : List Op) : innerN names (shutO (o :: p :: r)) = innerN names (p :: r) := by
 obtain ⟨a, b, k⟩ := o
 show innerN names (putO _ (p :: r)) = _
 exact innerN_put names _ _
theorem openB_inner (nm : List UInt8) : ∀ ops : List Op, openB nm ops = decide (0 < innerN [nm] ops)
 | o :: o2 :: r => by
  rw [openB, innerN, openB_inner nm (o2 :: r)]
  by_cases h : o.1 = nm
  ·rw [if_pos (by rw [h]; exact List.mem_singleton.2 rfl), decide_eq_true h, decide_eq_true (p := 0 < r.length + 1) (Nat.succ_pos _)]; rfl
  ·rw [if_neg (fun hm => h (List.mem_singleton.1 hm)), decide_eq_false h]; rfl
 | [] => rfl
 | [_] => rfl
theorem innerN_lt (names : List (List UInt8)) : ∀ ops : List Op, ops ≠ [] → innerN names ops < ops.length
 | o :: o2 :: r, _ => by
  have := innerN_lt names (o2 :: r) (by simp)
  rw [innerN]
  split <;> simp only [List.length_cons] at * <;> omega
 | [_], _ => by simp [innerN]
theorem closeF_step (nm : List UInt8) {q : List Op} {A : Nat} (hA : 0 < A) (hI : innerN [nm] q = A) : ∃ o p r, q = o :: p :: r ∧
  ((A = r.length + 1 ∧ closeF nm q.length q = shutO q) ∨ (innerN [nm] (shutO q) = A ∧ A < r.length + 1 ∧ closeF nm q.length q = closeF nm (shutO q).length (shutO q))) := by
 cases q with
 | nil => simp [innerN] at hI; omega
 | cons o q =>
 cases q with
 | nil => simp [innerN] at hI; omega
 | cons p r =>
  refine ⟨o, p, r, rfl, ?_⟩
  have e : closeF nm (o :: p :: r).length (o :: p :: r) = if o.1 = nm then shutO (o :: p :: r) else closeF nm (p :: r).length (shutO (o :: p :: r)) := by
   simp only [List.length_cons]; rw [closeF]
  rw [e]
  rw [innerN] at hI
  by_cases h : o.1 = nm
  ·rw [if_pos (by rw [h]; exact List.mem_singleton.2 rfl)] at hI
   rw [if_pos h]
   exact .inl ⟨hI.symm, rfl⟩
  ·rw [if_neg (fun hm => h (List.mem_singleton.1 hm))] at hI
   rw [if_neg h]
   refine .inr ⟨by rw [shutO_inner]; exact hI, ?_, by rw [shutO_len]; rfl⟩
   have := innerN_lt [nm] (p :: r) (by simp)
   rw [hI] at this; exact this
set_option maxRecDepth 100000 in
theorem close_ok (nm : List UInt8) (s : Bs) (hs : totO s.ops ≤ 1000000) : Meth Tryz.prog 116 [.ref 0 0 0, .d (.str nm)] (.d (.bool (openB nm s.ops))) s ⟨closeO nm s.ops, s.cnt, s.full⟩ := by
 intro o r vs ho hv
 rw [ho] at hs ⊢
 have hlen := totO_len (o :: r)
 rw [List.length_cons] at hlen
 dsimp only
 generalize s.cnt = c
 generalize s.full = f
 rw [openB_inner]
 have hd1 := inner_ok [nm] (show 1 ≤ 4611686018427387903 by omega) vs o r c f hv (by omega)
 generalize hA : innerN [nm] (o :: r) = A at *
 have hfin : closeO nm (o :: r) = if 0 < A then closeF nm (o :: r).length (o :: r) else o :: r := by
  unfold closeO
  rw [openB_inner, hA]
  by_cases h : 0 < A <;> simp [h]
 refine fn_okTE Tryz.wf Tryz.tab_ok Tryz.func116 (by decide +kernel) rfl rfl ?_
 refine E.fm (s' := [(0, .ref 0 0 0), (1, .d (.str nm))]) (σ' := B3 vs o r c f) (B_up vs o r _ _ ⟨⟨rfl, rfl, rfl⟩, rfl, trivial⟩) ?_
 refine E.of Tryz.wf Tryz.tab_ok ?_
 repeat refine wO ?_
 refine CallsAbs.freezeTo (ds := strsD [nm]) (args' := [.ref 0 0 0, .d (.sl (strsD [nm]))]) 7 rfl rfl ⟨trivial, fun _ => Nat.le_refl _, trivial⟩ rfl ?_
 refine CallsAbs.fm (σ' := ⟨8, (B3 vs o r c f).objs⟩) (fin_same rfl fun i => ?_) ?_
 ·simp only [Store.get, look_cons]
  by_cases h : 7 = i
  ·subst h; rfl
  ·simp [h]
 refine CallsAbs.use1 hd1 ?_
 refine loopT Tryz.wf Tryz.tab_ok (fun n s' σ => ∃ (q : List Op) (o' : Op) (r' : List Op) (vs' : List OV), n = q.length ∧ q = o' :: r' ∧ vs'.length = r'.length ∧ totO q ≤ 1000000 ∧
   ((0 < A ∧ A < q.length ∧ innerN [nm] q = A ∧ closeF nm q.length q = closeO nm (o :: r)) ∨ ((A = 0 ∨ A = q.length) ∧ q = closeO nm (o :: r))) ∧ s' = [(0, .ref 0 0 0), (5, .d (.int .i64 A))] ∧ σ = B3 vs' o' r' c f)
  ⟨o :: r, o, r, vs, rfl, rfl, hv, hs, ?_, rfl, rfl⟩ (Mv.of [.old 4, .old 5, .old 6] rfl rfl rfl ⟨⟨rfl, rfl⟩, ⟨rfl, .inl ⟨rfl, dataA_pure _⟩⟩, ⟨rfl, .inr (openR_rel rfl _ _ _)⟩, ⟨rfl, .inr ⟨⟨⟨rfl, rfl, rfl⟩, rfl, rfl, trivial⟩, trivial⟩⟩, trivial⟩ ⟨⟨rfl, rfl, rfl⟩, rfl, trivial⟩) ?_
 ·rw [hfin]
  by_cases h : 0 < A
  ·rw [if_pos h]
   exact .inl ⟨h, by rw [← hA]; exact innerN_lt _ _ (by simp), hA, rfl⟩
  ·rw [if_neg h]
   exact .inr ⟨.inl (by omega), rfl⟩
 rintro _ _ _ ⟨q, o', r', vs', rfl, rfl, hv', hq, hI, rfl, rfl⟩
 have hlq := totO_len (o' :: r')
 rw [List.length_cons] at hlq
 rcases hI with ⟨h1, h2, h3, h4⟩ | ⟨h1, h2⟩
 ·obtain ⟨a, p, u, e, hstep⟩ := closeF_step nm h1 h3
  cases e
  have hm := shut_ok ⟨o' :: p :: u, c, f⟩ hq (by simp)
  have hsl := shutO_len o' p u
  rw [List.length_cons] at h2
  repeat' (first | refine CallsAbs.use1 hd1 ?_ | refine wO ?_ | (refine ⟨fun h => ?_, fun h => ?_⟩ <;> (try simp only [wS, List.length_cons, List.length_nil] at h) <;> (try exact wX h)) | refine wP ?_ | fail)
  refine hm.use (o := o') (r := p :: u) (vs := vs') 4 5 6 7 8 9 10 rfl hv' rfl rfl rfl rfl rfl rfl rfl rfl rfl rfl ⟨⟨rfl, rfl, rfl⟩, trivial⟩ fun o2 r2 vs2 q1 q2 => ?_
  refine ⟨_, _, _, ⟨shutO (o' :: p :: u), o2, r2, vs2, rfl, q1, q2, Nat.le_trans (shutO_tot _) hq, ?_, rfl, rfl⟩, by rw [hsl]; simp, Mv.of [.old 7, .old 8, .old 9] rfl rfl rfl ⟨⟨rfl, rfl⟩, ⟨rfl, .inl ⟨rfl, dataA_pure _⟩⟩, ⟨rfl, .inr (openR_rel rfl _ _ _)⟩, ⟨rfl, .inr ⟨⟨⟨rfl, rfl, rfl⟩, rfl, rfl, trivial⟩, trivial⟩⟩, trivial⟩ ⟨⟨rfl, rfl, rfl⟩, rfl, trivial⟩⟩
  rcases hstep with ⟨k1, k2⟩ | ⟨k1, k2, k3⟩
  ·exact .inr ⟨.inr (by rw [hsl]; exact k1), k2.symm.trans h4⟩
  ·exact .inl ⟨h1, by rw [hsl]; exact k2, k1, k3.symm.trans h4⟩
 ·rw [List.length_cons] at h1
  repeat' (first | refine CallsAbs.use1 hd1 ?_ | refine wO ?_ | (refine ⟨fun h => ?_, fun h => ?_⟩ <;> (try simp only [wS, List.length_cons, List.length_nil] at h) <;> (try exact wX h)) | refine wP ?_ | fail)
  all_goals first
   | (exfalso; omega)
   | exact ⟨.d (.bool (decide (0 < A))), B3 vs' o' r' c f, fin_mv [.old 4, .old 5, .old 6] rfl rfl rfl ⟨⟨rfl, rfl⟩, ⟨rfl, .inl ⟨rfl, dataA_pure _⟩⟩, ⟨rfl, .inr (openR_rel rfl _ _ _)⟩, ⟨rfl, .inr ⟨⟨⟨rfl, rfl, rfl⟩, rfl, rfl, trivial⟩, trivial⟩⟩, trivial⟩ (congrArg D.bool (decide_eq_decide.2 (by omega))), rfl, o', r', vs', h2.symm, hv', rfl⟩
theorem nil_or_snoc {α : Type} (l : List α) : l = [] ∨ ∃ k z, l = k ++ [z] := by
 rcases List.eq_nil_or_concat l with h | ⟨k, z, h⟩
 ·exact .inl h
 ·exact .inr ⟨k, z, by rw [h, List.concat_eq_append]⟩
theorem openR_same (i : Nat) (vs : List OV) (a : List UInt8) (b : List Attr) (k k' : List Node) (r : List Op) (h : k'.length = k.length) : openR i vs (a, b, k') r = openR i vs (a, b, k) r := by
 unfold openR rowO; rw [h]
theorem kids_at (k : List Node) (z : Node) : ((nodesD (k ++ [z])).map fun r => r.map AV.d)[((((k ++ [z]).length : Nat) : Int) - 1).toNat + 0]? = some [.d (.str z.name), .d (.sl (attrsD z.attrs)), .d (.str z.text), .d (.sl (nodesD z.kids))] := by
 rw [show ((((k ++ [z]).length : Nat) : Int) - 1).toNat + 0 = k.length by simp only [List.length_append, List.length_cons, List.length_nil]; omega]
 exact kids_last k z
theorem kids_put (k : List Node) (z n : Node) : ((nodesD (k ++ [z])).map fun r => r.map AV.d).set (((((k ++ [z]).length : Nat) : Int) - 1).toNat + 0) [.d (.str n.name), .d (.sl (attrsD n.attrs)), .d (.str n.text), .d (.sl (nodesD n.kids))] = (nodesD (k ++ [n])).map fun r => r.map AV.d := by
 rw [show ((((k ++ [z]).length : Nat) : Int) - 1).toNat + 0 = k.length by simp only [List.length_append, List.length_cons, List.length_nil]; omega]
 exact kids_set k z n
set_option maxRecDepth 100000 in
theorem text_new (x : List UInt8) (s : Bs) (hs : totO s.ops ≤ 999999) (hc : s.cnt ≤ 1000000) (hx : x ≠ []) (ht : topText s.ops = false) : Meth Tryz.prog 66 [.ref 0 0 0, .d (.str x)] (.tup []) s (countS ⟨putO (.mk [] [] x []) s.ops, s.cnt, s.full⟩) := by
 intro o r vs ho hv
 rw [ho] at hs ht
 have hlen := totO_len (o :: r)
 rw [List.length_cons] at hlen
 have hp := put_ok (.mk [] [] x []) s (by rw [ho]; omega)
 have hm2 := count_ok ⟨putO (.mk [] [] x []) s.ops, s.cnt, s.full⟩ (by show (putO _ s.ops).length ≤ _; rw [putO_len, ho, List.length_cons]; omega) hc
 have hd1 := last_7 (kinO vs r) (kidsO o.2.2) (openR 5 vs o r) (r.length + 1) s.cnt s.full (by omega) (by omega)
 rw [Nat.add_sub_cancel] at hd1
 have hrow := openR_get 5 vs o r hv
 have hk : o.2.2.length ≤ 1000000 := by rw [totO] at hs; omega
 refine fn_okTE Tryz.wf Tryz.tab_ok Tryz.func66 (by decide +kernel) rfl rfl ?_
 refine E.fm (s' := [(0, .ref 0 0 0), (1, .d (.str x))]) (σ' := B3 vs o r s.cnt s.full) (B_up vs o r _ _ ⟨⟨rfl, rfl, rfl⟩, rfl, trivial⟩) ?_
 refine E.of Tryz.wf Tryz.tab_ok ?_
 obtain ⟨a, b, k⟩ := o
 rcases nil_or_snoc k with rfl | ⟨k0, z, rfl⟩
 ·repeat' (first | refine CallsAbs.use1 hd1 ?_ | refine wO ?_ | (refine ⟨fun h => ?_, fun h => ?_⟩ <;> (try simp only [wS, List.length_cons, List.length_nil] at h) <;> (try exact wX h)) | refine wP ?_ | fail)
  (refine hp.use (vs := vs) 4 5 6 7 8 9 10 ho hv rfl rfl rfl rfl rfl rfl rfl rfl rfl rfl ⟨⟨rfl, rfl, rfl⟩, ⟨rfl, rfl, rfl, rfl, trivial⟩, trivial⟩ fun o2 r2 vs2 q1 q2 => ?_; refine hm2.use (vs := vs2) 7 8 9 10 11 12 13 q1 q2 rfl rfl rfl rfl rfl rfl rfl rfl rfl rfl ⟨⟨rfl, rfl, rfl⟩, trivial⟩ fun o3 r3 vs3 q3 q4 => ?_; exact ⟨.tup [], B3 vs3 o3 r3 _ _, fin_mv [.old 10, .old 11, .old 12] rfl rfl rfl ⟨⟨rfl, rfl⟩, ⟨rfl, .inl ⟨rfl, dataA_pure _⟩⟩, ⟨rfl, .inr (openR_rel rfl _ _ _)⟩, ⟨rfl, .inr ⟨⟨⟨rfl, rfl, rfl⟩, rfl, rfl, trivial⟩, trivial⟩⟩, trivial⟩ trivial, rfl, _, _, vs3, q3, q4, rfl⟩)
 ·have hz : z.name ≠ [] := by
   have : textB (k0 ++ [z]) = false := ht
   rw [textB_snoc] at this
   exact of_decide_eq_false this
  have hat := kids_at k0 z
  repeat' (first | refine CallsAbs.use1 hd1 ?_ | refine wO ?_ | (refine ⟨fun h => ?_, fun h => ?_⟩ <;> (try simp only [wS, List.length_cons, List.length_nil] at h) <;> (try exact wX h)) | refine wP ?_ | fail)
  (refine hp.use (vs := vs) 4 5 6 7 8 9 10 ho hv rfl rfl rfl rfl rfl rfl rfl rfl rfl rfl ⟨⟨rfl, rfl, rfl⟩, ⟨rfl, rfl, rfl, rfl, trivial⟩, trivial⟩ fun o2 r2 vs2 q1 q2 => ?_; refine hm2.use (vs := vs2) 7 8 9 10 11 12 13 q1 q2 rfl rfl rfl rfl rfl rfl rfl rfl rfl rfl ⟨⟨rfl, rfl, rfl⟩, trivial⟩ fun o3 r3 vs3 q3 q4 => ?_; exact ⟨.tup [], B3 vs3 o3 r3 _ _, fin_mv [.old 10, .old 11, .old 12] rfl rfl rfl ⟨⟨rfl, rfl⟩, ⟨rfl, .inl ⟨rfl, dataA_pure _⟩⟩, ⟨rfl, .inr (openR_rel rfl _ _ _)⟩, ⟨rfl, .inr ⟨⟨⟨rfl, rfl, rfl⟩, rfl, rfl, trivial⟩, trivial⟩⟩, trivial⟩ trivial, rfl, _, _, vs3, q3, q4, rfl⟩)
set_option maxRecDepth 100000 in
theorem text_add (x : List UInt8) (s : Bs) (hs : totO s.ops ≤ 999999) (hx : x ≠ []) (ht : topText s.ops = true) (hl : ∀ o ∈ s.ops, ∀ n ∈ o.2.2, n.text.length + x.length ≤ 9223372036854775807) : Meth Tryz.prog 66 [.ref 0 0 0, .d (.str x)] (.tup []) s ⟨addText x s.ops, s.cnt, s.full⟩ := by
 intro o r vs ho hv
 rw [ho] at hs ht hl
 have hlen := totO_len (o :: r)
 rw [List.length_cons] at hlen
 have hd1 := last_7 (kinO vs r) (kidsO o.2.2) (openR 5 vs o r) (r.length + 1) s.cnt s.full (by omega) (by omega)
 rw [Nat.add_sub_cancel] at hd1
 have hrow := openR_get 5 vs o r hv
 have hk : o.2.2.length ≤ 1000000 := by rw [totO] at hs; omega
 obtain ⟨a, b, k⟩ := o
 obtain rfl | ⟨k0, z, rfl⟩ := nil_or_snoc k
 ·cases ht
 have hz : z.name = [] := by
  have : textB (k0 ++ [z]) = true := ht
  rw [textB_snoc] at this
  exact of_decide_eq_true this
 have hzl := hl (a, b, k0 ++ [z]) (by simp) z (by simp)
 have hat := kids_at k0 z
 have hput := kids_put k0 z (.mk z.name z.attrs (z.text ++ x) z.kids)
 have hadd : addText x ((a, b, k0 ++ [z]) :: r) = (a, b, k0 ++ [.mk z.name z.attrs (z.text ++ x) z.kids]) :: r := by
  simp [addText]
 rw [ho, hadd]
 refine fn_okTE Tryz.wf Tryz.tab_ok Tryz.func66 (by decide +kernel) rfl rfl ?_
 refine E.fm (s' := [(0, .ref 0 0 0), (1, .d (.str x))]) (σ' := B3 vs (a, b, k0 ++ [z]) r s.cnt s.full) (B_up vs (a, b, k0 ++ [z]) r _ _ ⟨⟨rfl, rfl, rfl⟩, rfl, trivial⟩) ?_
 refine E.of Tryz.wf Tryz.tab_ok ?_
 repeat' (first | refine CallsAbs.use1 hd1 ?_ | refine wO ?_ | (refine ⟨fun h => ?_, fun h => ?_⟩ <;> (try simp only [wS, List.length_cons, List.length_nil] at h) <;> (try exact wX h)) | refine wP ?_ | fail)
 have hsame := openR_same 5 vs a b (k0 ++ [z]) (k0 ++ [.mk z.name z.attrs (z.text ++ x) z.kids]) r (by simp)
 exact ⟨.tup [], B3 vs (a, b, k0 ++ [.mk z.name z.attrs (z.text ++ x) z.kids]) r s.cnt s.full,
  (fin_st (congrArg (fun l => Store.mk 7 ((5, Ob.rows (4, 58) l) :: (B3 vs (a, b, k0 ++ [z]) r s.cnt s.full).objs)) hput)).trans
   (fin_mv [.old 4, .old 5, .old 6] rfl rfl rfl ⟨⟨rfl, rfl⟩, ⟨rfl, .inl ⟨rfl, dataA_pure _⟩⟩, ⟨rfl, .inr (by rw [hsame]; exact openR_rel rfl _ _ _)⟩, ⟨rfl, .inr ⟨⟨⟨rfl, rfl, rfl⟩, rfl, rfl, trivial⟩, trivial⟩⟩, trivial⟩ trivial), rfl, _, r, vs, rfl, hv, rfl⟩
set_option maxRecDepth 100000 in
theorem text_none (s : Bs) : Meth Tryz.prog 66 [.ref 0 0 0, .d (.str [])] (.tup []) s s := by
 intro o r vs ho hv
 rw [ho]
 refine fn_okTE Tryz.wf Tryz.tab_ok Tryz.func66 (by decide +kernel) rfl rfl ?_
 refine E.fm (s' := [(0, .ref 0 0 0), (1, .d (.str []))]) (σ' := B3 vs o r s.cnt s.full) (B_up vs o r _ _ ⟨⟨rfl, rfl, rfl⟩, rfl, trivial⟩) ?_
 refine E.of Tryz.wf Tryz.tab_ok ?_
 refine ⟨fun _ => ?_, fun h => absurd h (by decide)⟩
 exact ⟨.tup [], B3 vs o r s.cnt s.full, FinMove.refl _ _ _, rfl, o, r, vs, rfl, hv, rfl⟩
theorem text_ok2 (x : List UInt8) (s : Bs) (hs : totO s.ops ≤ 999999) (hc : s.cnt ≤ 1000000) (hl : ∀ o ∈ s.ops, ∀ n ∈ o.2.2, n.text.length + x.length ≤ 9223372036854775807) : Meth Tryz.prog 66 [.ref 0 0 0, .d (.str x)] (.tup []) s (textS x s) := by
 unfold textS
 by_cases hx : x = []
 ·subst hx; rw [if_pos rfl]; exact text_none s
 ·rw [if_neg hx]
  by_cases ht : topText s.ops = true
  ·rw [if_pos ht]; exact text_add x s hs hx ht hl
  ·rw [if_neg ht]; exact text_new x s hs hc hx (by simpa using ht)
theorem fin_own2 {σ : Store} {i len : Nat} {sz : Nat × Nat} {rs : List (List AV)} {ds : List (List D)} (ho : σ.get i = .rows sz rs) (hds : rowsD rs = some ds) (hl : len = ds.length) : FinMove ⟨0, []⟩ (.own i 0 len) σ (.d (.sl ds)) ⟨0, []⟩ := by
 have h1 := fin_freeze (σ0 := ⟨0, []⟩) (r := .own i 0 len) i ho hds (fun _ => by rw [Nat.zero_add, hl, (rowsD_get hds).1]; exact Nat.le_refl _)
 rw [frz_whole i ds len hl] at h1
 exact h1.trans (fin_mv [] (Nat.ble_eq_true_of_le (Nat.zero_le _)) rfl rfl trivial rfl)
set_option maxRecDepth 100000 in
theorem CloneA_ok (l : List Attr) (hl : l.length ≤ 1000000) : PureC Tryz.prog 118 [.d (.sl (attrsD l))] (.d (.sl (attrsD l))) := by
 have hn := attrsD_len l
 have hml : ((attrsD l).map fun r => r.map AV.d).length = l.length := by rw [List.length_map, hn]
 refine pure_okT Tryz.wf Tryz.tab_ok Tryz.func118 (by decide +kernel) rfl rfl rfl rfl ?_
 cases l with
 | nil =>
  refine ⟨?_, ?_⟩
  ·refine wR (k := ?_)
   exact ⟨.d (.sl []), ⟨0, []⟩, fin_mv [] rfl rfl rfl trivial rfl, rfl⟩
  ·refine wR (k := ?_)
   refine ⟨[], [], rfl, rfl, rfl, trivial, (by decide), Nat.le_of_ble_eq_true rfl, Nat.le_of_ble_eq_true rfl, rfl, rfl, rowsNone, rowsNone, ?_⟩
   refine wR (k := ?_)
   exact ⟨_, _, fin_own2 rfl rfl rfl, rfl⟩
 | cons a r =>
  refine wR (k := ?_)
  refine ⟨[], (attrsD (a :: r)).map fun r => r.map AV.d, rfl, rfl, rfl, trivial, (by rw [hml]; show (0 + (a :: r).length) * 32 ≤ 140737488355328; omega), Nat.le_of_ble_eq_true rfl, Nat.le_of_ble_eq_true rfl, rfl, rfl, rowsNone, attrsRowsA _, ?_⟩
  refine wR (k := ?_)
  exact ⟨_, _, fin_own2 rfl (rowsD_d _) (by show 0 + _ = _; rw [Nat.zero_add, hml, hn]), rfl⟩
def lists : List (List UInt8) := [[108, 105], [117, 108], [111, 108]]
theorem liB_inner : ∀ ops : List Op, (innerN lists ops = 0 → liB ops = false) ∧ (0 < innerN lists ops → ∃ pre x t, ops = pre ++ x :: t ∧ t.length = innerN lists ops ∧ liB ops = decide (x.1 = [108, 105]))
 | [] => ⟨fun _ => rfl, fun h => by simp [innerN] at h⟩
 | [_] => ⟨fun _ => rfl, fun h => by simp [innerN] at h⟩
 | o :: o2 :: r => by
  have ih := liB_inner (o2 :: r)
  rw [innerN, liB]
  by_cases h : o.1 ∈ lists
  ·rw [if_pos h]
   refine ⟨fun h => by omega, fun _ => ⟨[], o, o2 :: r, rfl, rfl, ?_⟩⟩
   simp only [lists, List.mem_cons, List.not_mem_nil, or_false] at h
   rcases h with h | h | h
   ·rw [if_pos h, decide_eq_true h]
   ·rw [h]; rfl
   ·rw [h]; rfl
  ·rw [if_neg h]
   simp only [lists, List.mem_cons, List.not_mem_nil, or_false, not_or] at h
   rw [if_neg h.1, if_neg (by simp [h.2.1, h.2.2])]
   refine ⟨ih.1, fun h2 => ?_⟩
   obtain ⟨pre, x, t, e, h3, h4⟩ := ih.2 h2
   exact ⟨o :: pre, x, t, by rw [e]; rfl, h3, h4⟩
theorem rowsO_rows : ∀ (r : List Op) (vs : List OV), ∀ row ∈ rowsO r vs, row.length = 5 ∧ ∀ a ∈ row, a.one = true
 | o :: r, v :: vs, row, h => by
  rw [rowsO] at h
  rcases List.mem_append.1 h with h | h
  ·exact rowsO_rows r vs row h
  ·rw [List.mem_singleton.1 h]
   refine ⟨rfl, fun a ha => ?_⟩
   simp only [rowO, List.mem_cons, List.not_mem_nil, or_false] at ha
   rcases ha with rfl | rfl | rfl | rfl | rfl
   ·rfl
   ·rfl
   ·rfl
   ·exact v.2
   ·rfl
 | [], _, row, h => by simp [rowsO] at h
 | _ :: _, [], row, h => by simp [rowsO] at h
theorem openRows (i : Nat) (vs : List OV) (o : Op) (r : List Op) : ∀ row ∈ openR i vs o r, row.length = 5 ∧ ∀ a ∈ row, a.one = true := fun row h => by
 rcases List.mem_append.1 h with h | h
 ·exact rowsO_rows r vs row h
 ·rw [List.mem_singleton.1 h]
  refine ⟨rfl, fun a ha => ?_⟩
  simp only [rowO, List.mem_cons, List.not_mem_nil, or_false] at ha
  rcases ha with rfl | rfl | rfl | rfl | rfl <;> rfl
theorem openR_lit (i : Nat) (vs : List OV) (o : Op) (r : List Op) (hv : vs.length = r.length) (v : OV) (x : List AV) : (openR i vs o r ++ [x]).set r.length ((rowO o (.own i 0 o.2.2.length)).set 3 (.lit v.1)) = rowsO (o :: r) (v :: vs) ++ [x] := by
 unfold openR
 rw [List.append_assoc, List.set_append_right _ _ (by rw [rowsO_len hv]; exact Nat.le_refl _), rowsO_len hv, Nat.sub_self, rowsO, List.append_assoc]
 rfl
def AtB (ops : List Op) (c : Nat) (f : Bool) (sl : St) (s : St) (σ : Store) : Prop := ∃ o r vs, ops = o :: r ∧ vs.length = r.length ∧ s = sl ∧ σ = B3 vs o r c f
theorem closeF_tot (nm : List UInt8) : ∀ (n : Nat) (ops : List Op), totO (closeF nm n ops) ≤ totO ops
 | 0, _ => Nat.le_refl _
 | n + 1, [] => Nat.le_refl _
 | n + 1, [_] => Nat.le_refl _
 | n + 1, o :: p :: r => by
  rw [closeF]
  split
  ·exact shutO_tot _
  ·exact Nat.le_trans (closeF_tot nm n _) (shutO_tot _)
theorem closeO_tot (nm : List UInt8) (ops : List Op) : totO (closeO nm ops) ≤ totO ops := by
 unfold closeO
 split
 ·exact closeF_tot nm _ _
 ·exact Nat.le_refl _
abbrev sS0 (nm : List UInt8) (ats : List Attr) (vs : List OV) (o : Op) (r : List Op) (c : Nat) (f : Bool) : Store := ⟨8, (7, .rows (4, 58) [[.d (.str nm), .d (.sl (attrsD ats)), .d (.str []), .nil]]) :: (7, .rows (4, 58) [[.d (.str []), .nil, .d (.str []), .nil]]) :: (B3 vs o r c f).objs⟩
abbrev newR (nm : List UInt8) (ats : List Attr) (k : AV) : List AV := [.d (.str nm), .d (.sl (attrsD ats)), .d (.str []), k, .d (.str nm)]
abbrev sS1 (nm : List UInt8) (ats : List Attr) (vs : List OV) (o : Op) (r : List Op) (c : Nat) (f : Bool) : Store := ⟨9, (8, .rows (5, 91) [newR nm ats .nil]) :: (sS0 nm ats vs o r c f).objs⟩
abbrev sS2 (nm : List UInt8) (ats : List Attr) (vs : List OV) (o : Op) (r : List Op) (c : Nat) (f : Bool) : Store := ⟨10, (9, .rows (5, 91) (openR 5 vs o r ++ [newR nm ats .nil])) :: (4, .dead) :: (sS1 nm ats vs o r c f).objs⟩
abbrev sS3 (nm : List UInt8) (ats : List Attr) (vs : List OV) (o : Op) (r : List Op) (c : Nat) (f : Bool) : Store := ⟨10, (0, boxB 9 (r.length + 1 + 1) c f) :: (sS2 nm ats vs o r c f).objs⟩
set_option maxRecDepth 100000 in
theorem start_ok (nm : List UInt8) (ats : List Attr) (s : Bs) (hs : totO s.ops ≤ 999998) (hc : s.cnt ≤ 1000000) (ha : ats.length ≤ 1000000) : Meth Tryz.prog 67 [.ref 0 0 0, .d (.str nm), .d (.sl (attrsD ats))] (.tup []) s (startS nm ats s) := by
 intro o r vs ho hv
 have hc1 := Block_ok nm
 have hm1 := close_ok [112] s (by omega)
 refine fn_okTE Tryz.wf Tryz.tab_ok Tryz.func67 (by decide +kernel) rfl rfl ?_
 refine E.fm (s' := [(0, .ref 0 0 0), (1, .d (.str nm)), (2, .d (.sl (attrsD ats)))]) (σ' := B3 vs o r s.cnt s.full) (B_up vs o r _ _ ⟨⟨rfl, rfl, rfl⟩, rfl, rfl, trivial⟩) ?_
 generalize hops1 : (if nm ∈ blocks then closeO [112] s.ops else s.ops) = ops1
 refine midE (AtB ops1 s.cnt s.full [(0, .ref 0 0 0), (1, .d (.str nm)), (2, .d (.sl (attrsD ats)))]) (E.of Tryz.wf Tryz.tab_ok ?_) ?_
 ·repeat' (first | refine PureC.use hc1 ?_ | refine PureC.use hc2 ?_ | refine CallsAbs.vr (by repeat' (first | exact trivial | rfl | refine ⟨?_, ?_⟩ | fail)) (PureC.use hv1 ?_) | refine CallsAbs.vr (by repeat' (first | exact trivial | rfl | refine ⟨?_, ?_⟩ | fail)) (PureC.use hv2 ?_) | refine CallsAbs.use1 hd1 ?_ | refine wO ?_ | (refine ⟨fun h => ?_, fun h => ?_⟩ <;> (try simp only [wS, List.length_cons, List.length_nil] at h) <;> (try exact wX h)) | refine wP ?_ | fail)
  ·refine hm1.use (vs := vs) 4 5 6 7 8 9 10 ho hv rfl rfl rfl rfl rfl rfl rfl rfl rfl rfl ⟨⟨rfl, rfl, rfl⟩, rfl, trivial⟩ fun o2 r2 vs2 q1 q2 => ?_
   refine ⟨_, _, ⟨o2, r2, vs2, ?_, q2, rfl, rfl⟩, Mv.of [.old 7, .old 8, .old 9] rfl rfl rfl ⟨⟨rfl, rfl⟩, ⟨rfl, .inl ⟨rfl, dataA_pure _⟩⟩, ⟨rfl, .inr (openR_rel rfl _ _ _)⟩, ⟨rfl, .inr ⟨⟨⟨rfl, rfl, rfl⟩, rfl, rfl, trivial⟩, trivial⟩⟩, trivial⟩ ⟨⟨rfl, rfl, rfl⟩, rfl, rfl, trivial⟩⟩
   rw [← hops1, if_pos (by assumption)]; exact q1
  ·refine ⟨_, _, ⟨o, r, vs, ?_, hv, rfl, rfl⟩, Mv.of [.old 4, .old 5, .old 6] rfl rfl rfl ⟨⟨rfl, rfl⟩, ⟨rfl, .inl ⟨rfl, dataA_pure _⟩⟩, ⟨rfl, .inr (openR_rel rfl _ _ _)⟩, ⟨rfl, .inr ⟨⟨⟨rfl, rfl, rfl⟩, rfl, rfl, trivial⟩, trivial⟩⟩, trivial⟩ ⟨⟨rfl, rfl, rfl⟩, rfl, rfl, trivial⟩⟩
   rw [← hops1, if_neg (by assumption)]; exact ho
 rintro _ _ ⟨o1, r1, vs1, e1, hv1, rfl, rfl⟩
 subst e1
 clear hm1 hc1
 have hs1 : totO (o1 :: r1) ≤ 999998 := by
  rw [← hops1]
  split
  ·exact Nat.le_trans (closeO_tot _ _) hs
  ·exact hs
 have hlen := totO_len (o1 :: r1)
 rw [List.length_cons] at hlen
 have hd1 := inner_ok lists (by show 3 ≤ _; omega) vs1 o1 r1 s.cnt s.full hv1 (by omega)
 have hlt := innerN_lt lists (o1 :: r1) (by simp)
 rw [List.length_cons] at hlt
 obtain ⟨hl0, hl1⟩ := liB_inner (o1 :: r1)
 generalize innerN lists (o1 :: r1) = A at *
 have hm1 := close_ok [108, 105] ⟨o1 :: r1, s.cnt, s.full⟩ (show totO (o1 :: r1) ≤ 1000000 by omega)
 generalize hops2 : (if nm = [108, 105] ∧ liB (o1 :: r1) = true then closeO [108, 105] (o1 :: r1) else o1 :: r1) = ops2
 refine midE (AtB ops2 s.cnt s.full [(0, .ref 0 0 0), (1, .d (.str nm)), (2, .d (.sl (attrsD ats)))]) (E.of Tryz.wf Tryz.tab_ok ?_) ?_
 ·refine CallsAbs.freezeTo (ds := strsD lists) (args' := [.ref 0 0 0, .d (.sl (strsD lists))]) 7 rfl rfl ⟨trivial, fun _ => Nat.le_refl _, trivial⟩ rfl ?_
  refine CallsAbs.fm (σ' := ⟨8, (B3 vs1 o1 r1 s.cnt s.full).objs⟩) (fin_same rfl fun i => ?_) ?_
  ·simp only [Store.get, look_cons]
   by_cases h : 7 = i
   ·subst h; rfl
   ·simp [h]
  refine CallsAbs.use1 hd1 ?_
  rcases Nat.eq_zero_or_pos A with h0 | h0
  ·have hli := hl0 h0
   repeat' (first | refine PureC.use hc1 ?_ | refine PureC.use hc2 ?_ | refine CallsAbs.vr (by repeat' (first | exact trivial | rfl | refine ⟨?_, ?_⟩ | fail)) (PureC.use hv1 ?_) | refine CallsAbs.vr (by repeat' (first | exact trivial | rfl | refine ⟨?_, ?_⟩ | fail)) (PureC.use hv2 ?_) | refine CallsAbs.use1 hd1 ?_ | refine wO ?_ | (refine ⟨fun h => ?_, fun h => ?_⟩ <;> (try simp only [wS, List.length_cons, List.length_nil] at h) <;> (try exact wX h)) | refine wP ?_ | fail)
   all_goals exact ⟨_, _, ⟨o1, r1, vs1, by rw [← hops2, if_neg (by rintro ⟨k1, k2⟩; simp_all)], hv1, rfl, rfl⟩, Mv.of [.old 4, .old 5, .old 6] rfl rfl rfl ⟨⟨rfl, rfl⟩, ⟨rfl, .inl ⟨rfl, dataA_pure _⟩⟩, ⟨rfl, .inr (openR_rel rfl _ _ _)⟩, ⟨rfl, .inr ⟨⟨⟨rfl, rfl, rfl⟩, rfl, rfl, trivial⟩, trivial⟩⟩, trivial⟩ ⟨⟨rfl, rfl, rfl⟩, rfl, rfl, trivial⟩⟩
  ·obtain ⟨pre, x, t, q1, q2, q3⟩ := hl1 h0
   obtain ⟨w, hrow⟩ := openR_at 5 vs1 o1 r1 hv1 pre x t q1
   rw [q2] at hrow
   repeat' (first | refine PureC.use hc1 ?_ | refine PureC.use hc2 ?_ | refine CallsAbs.vr (by repeat' (first | exact trivial | rfl | refine ⟨?_, ?_⟩ | fail)) (PureC.use hv1 ?_) | refine CallsAbs.vr (by repeat' (first | exact trivial | rfl | refine ⟨?_, ?_⟩ | fail)) (PureC.use hv2 ?_) | refine CallsAbs.use1 hd1 ?_ | refine wO ?_ | (refine ⟨fun h => ?_, fun h => ?_⟩ <;> (try simp only [wS, List.length_cons, List.length_nil] at h) <;> (try exact wX h)) | refine wP ?_ | fail)
   ·refine hm1.use (vs := vs1) 4 5 6 8 9 10 11 rfl hv1 rfl rfl rfl rfl rfl rfl rfl rfl rfl rfl ⟨⟨rfl, rfl, rfl⟩, rfl, trivial⟩ fun o2 r2 vs2 k1 k2 => ?_
    refine ⟨_, _, ⟨o2, r2, vs2, ?_, k2, rfl, rfl⟩, Mv.of [.old 8, .old 9, .old 10] rfl rfl rfl ⟨⟨rfl, rfl⟩, ⟨rfl, .inl ⟨rfl, dataA_pure _⟩⟩, ⟨rfl, .inr (openR_rel rfl _ _ _)⟩, ⟨rfl, .inr ⟨⟨⟨rfl, rfl, rfl⟩, rfl, rfl, trivial⟩, trivial⟩⟩, trivial⟩ ⟨⟨rfl, rfl, rfl⟩, rfl, rfl, trivial⟩⟩
    rw [← hops2, if_pos ⟨by assumption, by rw [q3]; exact decide_eq_true (by assumption)⟩]; exact k1
   all_goals exact ⟨_, _, ⟨o1, r1, vs1, by rw [← hops2, if_neg (by rintro ⟨k1, k2⟩; simp_all)], hv1, rfl, rfl⟩, Mv.of [.old 4, .old 5, .old 6] rfl rfl rfl ⟨⟨rfl, rfl⟩, ⟨rfl, .inl ⟨rfl, dataA_pure _⟩⟩, ⟨rfl, .inr (openR_rel rfl _ _ _)⟩, ⟨rfl, .inr ⟨⟨⟨rfl, rfl, rfl⟩, rfl, rfl, trivial⟩, trivial⟩⟩, trivial⟩ ⟨⟨rfl, rfl, rfl⟩, rfl, rfl, trivial⟩⟩
 rintro _ _ ⟨o2, r2, vs2, e2, hv2, rfl, rfl⟩
 subst e2
 have hso : startO nm s.ops = o2 :: r2 := by
  show (if nm = [108, 105] ∧ liB (if nm ∈ blocks then closeO [112] s.ops else s.ops) = true then closeO [108, 105] (if nm ∈ blocks then closeO [112] s.ops else s.ops) else (if nm ∈ blocks then closeO [112] s.ops else s.ops)) = _
  rw [hops1]; exact hops2
 have hs2 : totO (o2 :: r2) ≤ 999998 := by
  rw [← hops2]
  split
  ·exact Nat.le_trans (closeO_tot _ _) hs1
  ·exact hs1
 clear hm1 hd1 hl0 hl1 hlt hlen
 have hlen := totO_len (o2 :: r2)
 rw [List.length_cons] at hlen
 unfold startS
 rw [hso]
 have hc1 := CloneA_ok ats ha
 have hc2 := Void_ok nm
 refine E.seq (E.of Tryz.wf Tryz.tab_ok ?_)
 repeat' (first | refine PureC.use hc1 ?_ | refine PureC.use hc2 ?_ | refine CallsAbs.vr (by repeat' (first | exact trivial | rfl | refine ⟨?_, ?_⟩ | fail)) (PureC.use hv1 ?_) | refine CallsAbs.vr (by repeat' (first | exact trivial | rfl | refine ⟨?_, ?_⟩ | fail)) (PureC.use hv2 ?_) | refine CallsAbs.use1 hd1 ?_ | refine wO ?_ | (refine ⟨fun h => ?_, fun h => ?_⟩ <;> (try simp only [wS, List.length_cons, List.length_nil] at h) <;> (try exact wX h)) | refine wP ?_ | fail)
 refine E.seq (E.of Tryz.wf Tryz.tab_ok ?_)
 repeat' (first | refine PureC.use hc1 ?_ | refine PureC.use hc2 ?_ | refine CallsAbs.vr (by repeat' (first | exact trivial | rfl | refine ⟨?_, ?_⟩ | fail)) (PureC.use hv1 ?_) | refine CallsAbs.vr (by repeat' (first | exact trivial | rfl | refine ⟨?_, ?_⟩ | fail)) (PureC.use hv2 ?_) | refine CallsAbs.use1 hd1 ?_ | refine wO ?_ | (refine ⟨fun h => ?_, fun h => ?_⟩ <;> (try simp only [wS, List.length_cons, List.length_nil] at h) <;> (try exact wX h)) | refine wP ?_ | fail)
 ·have hm1 := put_ok (.mk nm ats [] []) ⟨o2 :: r2, s.cnt, s.full⟩ (show totO (o2 :: r2) ≤ 1000000 by omega)
  have hm2 := count_ok ⟨putO (.mk nm ats [] []) (o2 :: r2), s.cnt, s.full⟩ (by show (putO _ (o2 :: r2)).length ≤ _; rw [putO_len, List.length_cons]; omega) hc
  rw [if_pos (by assumption)]
  refine hm1.use (vs := vs2) 4 5 6 8 9 10 11 rfl hv2 rfl rfl rfl rfl rfl rfl rfl rfl rfl rfl ⟨⟨rfl, rfl, rfl⟩, ⟨rfl, rfl, rfl, rfl, trivial⟩, trivial⟩ fun o3 r3 vs3 q1 q2 => ?_
  refine E.of Tryz.wf Tryz.tab_ok ?_
  refine hm2.use (vs := vs3) 8 9 10 11 12 13 14 q1 q2 rfl rfl rfl rfl rfl rfl rfl rfl rfl rfl ⟨⟨rfl, rfl, rfl⟩, trivial⟩ fun o4 r4 vs4 q3 q4 => ?_
  exact ⟨.tup [], B3 vs4 o4 r4 _ _, fin_mv [.old 11, .old 12, .old 13] rfl rfl rfl ⟨⟨rfl, rfl⟩, ⟨rfl, .inl ⟨rfl, dataA_pure _⟩⟩, ⟨rfl, .inr (openR_rel rfl _ _ _)⟩, ⟨rfl, .inr ⟨⟨⟨rfl, rfl, rfl⟩, rfl, rfl, trivial⟩, trivial⟩⟩, trivial⟩ trivial, rfl, _, _, vs4, q3, q4, rfl⟩
 ·have hm2 := count_ok ⟨(nm, ats, []) :: o2 :: r2, s.cnt, s.full⟩ (by show (_ :: o2 :: r2).length ≤ _; rw [List.length_cons, List.length_cons]; omega) hc
  rw [if_neg (by assumption)]
  refine drawnZ Tryz.wf Tryz.tab_ok [8, 9, 12] (fun t => match t with
   | 0 => sS0 nm ats vs2 o2 r2 s.cnt s.full
   | 1 => sS1 nm ats vs2 o2 r2 s.cnt s.full
   | 2 => sS2 nm ats vs2 o2 r2 s.cnt s.full
   | _ => sS3 nm ats vs2 o2 r2 s.cnt s.full) rfl Tryz.mixed (by decide +kernel) ?_
  iterate 4 refine zblind (by decide +kernel) rfl rfl (fun _ => FinMove.refl _ _ _) ?_
  refine zreadL (List.range 2) (by decide +kernel) rfl rfl (by repeat' first | exact trivial | exact ⟨_, rfl, _, rfl, FinMove.refl _ _ _⟩ | refine ⟨?_, ?_⟩) ?_
  refine zreadL [0] (by decide +kernel) rfl rfl ⟨⟨_, rfl, Nat.le_of_ble_eq_true rfl, FinMove.refl _ _ _⟩, trivial⟩ ?_
  iterate 2 refine zblind (by decide +kernel) rfl rfl (fun _ => FinMove.refl _ _ _) ?_
  refine zeff (r := .own 8 0 1) rfl rfl rfl (FinMove.refl _ _ _) ?_
  have hor := openR_len 5 vs2 o2 r2 hv2
  refine zeff (r := .own 9 0 (r2.length + 1 + 1)) rfl rfl rfl ⟨openR 5 vs2 o2 r2, [newR nm ats .nil], congrArg some (takeAll hor), rfl, (show srcLen (.own 4 0 (r2.length + 1)) _ from hor), rfl, (by rw [hor]; show (r2.length + 1 + 1) * 96 ≤ 140737488355328; omega), Nat.le_of_ble_eq_true rfl, Nat.le_of_ble_eq_true rfl, rfl, rfl, openRows 5 vs2 o2 r2, rowsOne rfl rfl, fin_eq (congrArg (fun n => AV.own 9 0 (n + 1)) hor)⟩ ?_
  iterate 2 refine zblind (by decide +kernel) rfl rfl (fun _ => FinMove.refl _ _ _) ?_
  refine zeff (r := .top) rfl rfl rfl ⟨_, rfl, rfl, Nat.le_of_ble_eq_true rfl, FinMove.refl _ _ _⟩ ?_
  refine E.kinIn (s' := [(0, .ref 0 0 0)]) (i := 6) (j := 9) (k := 5) (r := r2.length) (q := 3) (rows := nodesD o2.2.2) (l := kinL r2 vs2) (rs := openR 5 vs2 o2 r2 ++ [newR nm ats .nil]) (row := rowO o2 (.own 5 0 o2.2.2.length)) rfl rfl rfl
   (by rw [List.getElem?_append_left (by rw [hor]; omega)]; exact openR_get 5 vs2 o2 r2 hv2) (by rw [nodesD_len]; rfl) (by decide) ⟨rfl, trivial⟩ fun v hone => ?_
  have hset := openR_lit 5 vs2 o2 r2 hv2 ⟨v, hone⟩ (newR nm ats .nil)
  refine E.view (s' := [(0, .ref 0 0 0)]) (σ' := B3 (⟨v, hone⟩ :: vs2) (nm, ats, []) (o2 :: r2) s.cnt s.full) (Mv.of [.old 9, .phan 4, .old 6] rfl rfl rfl ⟨⟨rfl, rfl⟩, rfl, ⟨rfl, .inr ?_⟩, ⟨rfl, .inr ⟨⟨⟨rfl, rfl, rfl⟩, rfl, rfl, trivial⟩, trivial⟩⟩, trivial⟩ ⟨⟨rfl, rfl, rfl⟩, trivial⟩) ?_
  ·rw [hset]
   exact rrel_app _ (rowsO_pure _ _) ⟨⟨rfl, rfl, rfl, ⟨rfl, rfl, rfl⟩, rfl, trivial⟩, trivial⟩
  refine E.of Tryz.wf Tryz.tab_ok ?_
  refine hm2.use (vs := ⟨v, hone⟩ :: vs2) 4 5 6 7 8 9 10 rfl (by simp [hv2]) rfl rfl rfl rfl rfl rfl rfl rfl rfl rfl ⟨⟨rfl, rfl, rfl⟩, trivial⟩ fun o4 r4 vs4 q3 q4 => ?_
  exact ⟨.tup [], B3 vs4 o4 r4 _ _, fin_mv [.old 7, .old 8, .old 9] rfl rfl rfl ⟨⟨rfl, rfl⟩, ⟨rfl, .inl ⟨rfl, dataA_pure _⟩⟩, ⟨rfl, .inr (openR_rel rfl _ _ _)⟩, ⟨rfl, .inr ⟨⟨⟨rfl, rfl, rfl⟩, rfl, rfl, trivial⟩, trivial⟩⟩, trivial⟩ trivial, rfl, _, _, vs4, q3, q4, rfl⟩
theorem keepA_take (p : Pol) (el : List UInt8) (l : List At) (k : Nat) (h : k < l.length) : keepA p el (l.take (k + 1)) = keepA p el (l.take k) ++ (if staysB p el l[k] = true then [attrV p l[k]] else []) := by
 rw [List.take_succ_eq_append_getElem h, keepA_app]; rfl
theorem hasA_snoc (nm : List UInt8) (l : List At) (a : At) : hasA nm (l ++ [a]) = (hasA nm l || decide (a.1 = nm)) := by
 unfold hasA
 rw [List.map_append, Bool.eq_iff_iff]
 simp only [decide_eq_true_eq, Bool.or_eq_true, List.mem_append, List.map_cons, List.map_nil, List.mem_singleton]
 exact ⟨fun h => h.imp id Eq.symm, fun h => h.imp id Eq.symm⟩
theorem keepA_le (p : Pol) (el : List UInt8) (l : List At) : (keepA p el l).length ≤ l.length := by
 have := (keepA_sub p el l).length_le
 rw [List.length_map, List.length_map] at this
 exact this
def atrO (ats : List At) : Ob := .rows (2, 118) ((attrsD ats).map fun r => r.map AV.d)
theorem atrO_own {f : Nat → Option VE} {a b : List At} (h : a = b) : orel f (atrO a) (atrO b) := by subst h; exact ⟨rfl, .inl ⟨rfl, dataA_pure _⟩⟩
set_option maxRecDepth 100000 in
set_option maxHeartbeats 2000000 in
theorem sattrs_ok (p : Pol) (el : List UInt8) (l : List At) (hp : Fits p) (he : el.length ≤ 1000000) (hl : l.length ≤ 1000000) (hf : ∀ a ∈ l, a.1.length ≤ 1000000 ∧ a.2.length ≤ 50000) : PureC Tryz.prog 92 [polA p, .d (.str el), .d (.sl (attrsD l))] (.d (.sl (attrsD (attrsP p el l)))) := by
 have hn := attrsD_len l
 refine pure_okT Tryz.wf Tryz.tab_ok Tryz.func92 (by decide +kernel) rfl rfl rfl rfl ?_
 refine wR (k := ?_)
 refine loopT Tryz.wf Tryz.tab_ok (fun m s' σ => ∃ k : Nat, m = l.length - k ∧ k ≤ l.length ∧ s' = [(1, .d (.str el)), (3, .ref 0 0 0), (7, .own 1 0 (keepA p el (l.take k)).length), (8, .d (.bool (hasA hrefN (keepA p el (l.take k))))), (13, .d (.sl (attrsD l))), (14, .d (.int .i64 l.length)), (15, .d (.int .i64 k))] ∧ σ = ⟨2, [(1, atrO (keepA p el (l.take k))), (0, .rows (9, 62) [(polD p).map .d])]⟩)
  ⟨0, rfl, Nat.zero_le _, rfl, rfl⟩ (Mv.of [.old 0, .phan 2] rfl rfl rfl ⟨rfl, ⟨rfl, .inl ⟨rfl, fun row h => by rw [List.mem_singleton.1 h]; rfl⟩⟩, trivial⟩ ⟨rfl, ⟨rfl, rfl, rfl⟩, ⟨rfl, rfl, rfl⟩, rfl, rfl, congrArg (fun n : Nat => D.int .i64 n) hn.symm, rfl, trivial⟩) ?_
 rintro _ _ _ ⟨k, rfl, hk, rfl, rfl⟩
 by_cases hlt : k < l.length
 ·have hg := attrsD_get l k hlt
  have hlk := hf _ (List.getElem_mem hlt)
  have hc1 := sattr_ok p el l[k].1 l[k].2 hp he hlk.1 hlk.2
  have hkt := keepA_take p el l k hlt
  have hle := keepA_le p el (l.take k)
  rw [List.length_take] at hle
  rw [show (l[k].1, l[k].2) = l[k] from rfl] at hc1
  have hfst := attrV_fst p l[k]
  generalize keepA p el (l.take k) = out at *
  have hal := attrsA_len out
  generalize attrV p l[k] = a at *
  cases hst : staysB p el l[k] with
  | false =>
   rw [hst, if_neg Bool.false_ne_true, List.append_nil] at hkt
   rw [hst] at hc1
   refine wR (k := ?_)
   exact ⟨_, _, _, ⟨k + 1, rfl, hlt, rfl, rfl⟩, by omega, Mv.of [.old 0, .old 1] rfl rfl rfl ⟨atrO_own hkt, ⟨rfl, .inl ⟨rfl, fun row h => by rw [List.mem_singleton.1 h]; rfl⟩⟩, trivial⟩ ⟨rfl, ⟨rfl, rfl, rfl⟩, ⟨rfl, rfl, congrArg List.length hkt⟩, congrArg (fun x => D.bool (hasA hrefN x)) hkt, rfl, rfl, rfl, trivial⟩⟩
  | true =>
   rw [hst, if_pos rfl] at hkt
   rw [hst] at hc1
   have hha := hasA_snoc hrefN out a
   cases hq : hasA hrefN out with
   | false =>
    rw [hq, Bool.false_or] at hha
    refine wR (k := ?_)
    refine ⟨(attrsD out).map (fun r : List D => List.map AV.d r), [_], congrArg some (takeAll hal), rfl, (show srcLen (.own 1 0 out.length) _ from hal), rfl, (by rw [hal]; show (out.length + 1) * 32 ≤ 140737488355328; omega), Nat.le_of_ble_eq_true rfl, Nat.le_of_ble_eq_true rfl, rfl, rfl, attrsRowsA out, rowsOne rfl rfl, ?_⟩
    refine wR (k := ?_)
    exact ⟨_, _, _, ⟨k + 1, rfl, hlt, rfl, rfl⟩, by omega, Mv.of [.old 0, .old 5] rfl rfl rfl ⟨⟨rfl, .inl ⟨by rw [hkt]; exact (attrs_snoc out a).symm, dataA_pure _⟩⟩, ⟨rfl, .inl ⟨rfl, fun row h => by rw [List.mem_singleton.1 h]; rfl⟩⟩, trivial⟩ ⟨rfl, ⟨rfl, rfl, rfl⟩, ⟨rfl, rfl, by rw [hkt]; simp [attrsD]⟩, congrArg D.bool (by rw [hkt]; exact hha), rfl, rfl, rfl, trivial⟩⟩
   | true =>
    rw [hq, Bool.true_or] at hha
    refine wR (k := ?_)
    refine ⟨(attrsD out).map (fun r : List D => List.map AV.d r), [_], congrArg some (takeAll hal), rfl, (show srcLen (.own 1 0 out.length) _ from hal), rfl, (by rw [hal]; show (out.length + 1) * 32 ≤ 140737488355328; omega), Nat.le_of_ble_eq_true rfl, Nat.le_of_ble_eq_true rfl, rfl, rfl, attrsRowsA out, rowsOne rfl rfl, ?_⟩
    refine wR (k := ?_)
    exact ⟨_, _, _, ⟨k + 1, rfl, hlt, rfl, rfl⟩, by omega, Mv.of [.old 0, .old 5] rfl rfl rfl ⟨⟨rfl, .inl ⟨by rw [hkt]; exact (attrs_snoc out a).symm, dataA_pure _⟩⟩, ⟨rfl, .inl ⟨rfl, fun row h => by rw [List.mem_singleton.1 h]; rfl⟩⟩, trivial⟩ ⟨rfl, ⟨rfl, rfl, rfl⟩, ⟨rfl, rfl, by rw [hkt]; simp [attrsD]⟩, congrArg D.bool (by rw [hkt]; exact hha), rfl, rfl, rfl, trivial⟩⟩
 ·have hk' : k = l.length := by omega
  subst hk'
  rw [List.take_length]
  unfold attrsP
  have hle := keepA_le p el l
  generalize keepA p el l = out at *
  have hal := attrsA_len out
  by_cases h1 : el = aN
  ·have h1' : el = [97] := h1
   cases hq : hasA hrefN out with
   | true =>
    rw [if_pos ⟨h1, rfl⟩]
    clear h1
    refine wR (k := ?_)
    refine ⟨(attrsD out).map (fun r : List D => List.map AV.d r), [_], congrArg some (takeAll hal), rfl, (show srcLen (.own 1 0 out.length) _ from hal), rfl, (by rw [hal]; show (out.length + 1) * 32 ≤ 140737488355328; omega), Nat.le_of_ble_eq_true rfl, Nat.le_of_ble_eq_true rfl, rfl, rfl, attrsRowsA out, rowsOne rfl rfl, ?_⟩
    refine wR (k := ?_)
    exact ⟨_, _, fin_own2 rfl ((congrArg rowsD (attrs_snoc out relA)).trans (rowsD_d _)) (by simp [attrsD]), rfl⟩
   | false =>
    rw [if_neg (fun h => Bool.false_ne_true h.2), List.append_nil]
    clear h1
    refine wR (k := ?_)
    exact ⟨_, _, fin_own2 rfl (rowsD_d _) (attrsD_len _).symm, rfl⟩
  ·have h1' : ¬ el = [97] := h1
   rw [if_neg (fun h => h1 h.1), List.append_nil]
   clear h1
   refine wR (k := ?_)
   exact ⟨_, _, fin_own2 rfl (rowsD_d _) (attrsD_len _).symm, rfl⟩
end Go.Proofs.YthngplknbbcecaaGreatDoor
namespace Go.Proofs.YthngplknbbcecaaGreatDoor
open Go.Aw
set_option maxHeartbeats 1600000
set_option linter.unusedSimpArgs false
set_option linter.unusedVariables false
def wtA (l : List (List UInt8 × List UInt8)) : Nat := (l.map fun a => 1 + a.1.length + a.2.length).sum
mutual
def wtN : Node → Nat
 | .mk nm a t k => 1 + nm.length + t.length + wtA a + wtL k
def wtL : List Node → Nat
 | [] => 0
 | n :: r => wtN n + wtL r
end
theorem wtN_eq (n : Node) : wtN n = 1 + n.name.length + n.text.length + wtA n.attrs + wtL n.kids := by cases n; unfold wtN; rfl
theorem wtL_cons (n : Node) (r : List Node) : wtL (n :: r) = wtN n + wtL r := by rw [wtL]
theorem wtL_append : ∀ a b : List Node, wtL (a ++ b) = wtL a + wtL b
 | [], b => by rw [wtL, List.nil_append, Nat.zero_add]
 | n :: r, b => by rw [List.cons_append, wtL_cons, wtL_cons, wtL_append r b, Nat.add_assoc]
mutual
theorem sz_wtN : ∀ n : Node, szN n ≤ wtN n
 | .mk nm a t k => by
  have := sz_wtL k
  unfold szN wtN
  omega
theorem sz_wtL : ∀ l : List Node, szL l ≤ wtL l
 | [] => by simp [szL]
 | n :: r => by
  have h1 := sz_wtN n
  have h2 := sz_wtL r
  unfold szL wtL
  omega
end
theorem wtA_mem {l : List (List UInt8 × List UInt8)} {a : List UInt8 × List UInt8} (h : a ∈ l) : 1 + a.1.length + a.2.length ≤ wtA l := by
 induction l with
 | nil => cases h
 | cons b r ih =>
  have e : wtA (b :: r) = (1 + b.1.length + b.2.length) + wtA r := rfl
  rcases List.mem_cons.1 h with rfl | h
  ·omega
  ·have := ih h; omega
theorem wtA_len (l : List (List UInt8 × List UInt8)) : l.length ≤ wtA l := by
 induction l with
 | nil => exact Nat.le_refl _
 | cons b r ih =>
  have e : wtA (b :: r) = (1 + b.1.length + b.2.length) + wtA r := rfl
  simp only [List.length_cons]; omega
theorem Short_wt {l : List (List UInt8 × List UInt8)} (h : wtA l ≤ 1000000000) : Short l :=
 ⟨by have := wtA_len l; omega, fun a ha => by have := wtA_mem ha; omega⟩
mutual
theorem Sh_wtN : ∀ n : Node, wtN n ≤ 1000000000 → ShN n
 | .mk nm a t k => fun h => by
  unfold wtN at h
  unfold ShN
  exact ⟨by omega, Short_wt (by omega), by omega, Sh_wtL k (by omega)⟩
theorem Sh_wtL : ∀ l : List Node, wtL l ≤ 1000000000 → ShL l
 | [] => fun _ => by simp [ShL]
 | n :: r => fun h => by
  unfold wtL at h
  unfold ShL
  exact ⟨Sh_wtN n (by omega), Sh_wtL r (by omega)⟩
end
end Go.Proofs.YthngplknbbcecaaGreatDoor

namespace Go.Proofs.YthngplknbbcecaaGreatDoor
open Go.Aw
set_option maxHeartbeats 1600000
set_option linter.unusedSimpArgs false
set_option linter.unusedVariables false
abbrev outS (k : List Node) : Store := ⟨1, [(0, kidsO k)]⟩
abbrev outS1 (k : List Node) : Store := ⟨2, [(1, kidsO k)]⟩
theorem out_up {σ0 : Store} {r r' : AV} (k : List Node) (hr : vrel (upf 1 [0]) r' r) : FinMove σ0 r (outS k) r' (outS1 k) :=
 fin_ups [0] rfl (by decide) ⟨rfl, trivial⟩ ⟨fun h => (by cases h), trivial⟩ ⟨kidsO_rel (f := upf 1 [0]) k, trivial⟩ hr
def OutC (P : Program) (g : FuncId) (args : List AV) (l l' : List Node) : Prop := CallsAbs P g args (outS l) fun r σ' => r = .own 1 0 l'.length ∧ σ' = outS1 l'
theorem OutC.use {P : Program} {g : FuncId} {args args0 : List AV} {l l' : List Node} (h : OutC P g args0 l l') {σ : Store} {K : AV → Store → Prop} (i n0 n1 : Nat)
  (e0 : σ.n = n0) (e1 : n0 + 1 = n1) (hg : goodr 0 σ.n [.old i] = true) (hi : σ.get i = kidsO l) (ha : vrelL (phi 0 [.old i]) args0 args)
  (hK : K (.own n0 0 l'.length) ⟨n1, (n0, kidsO l') :: (i, .dead) :: σ.objs⟩) : CallsAbs P g args σ K := by
 subst e0; subst e1
 have p0 : phi 0 [.old i] 0 = some (.old i) := rfl
 have hin : i < σ.n := (good_nth (r := [.old i]) (j := 0) hg rfl).2
 have x0 := idx_of_nth (B := 0) (n := σ.n) (r := [.old i]) (j := 0) (k := i) (a := 0) hg rfl
 refine CallsAbs.frame h [.old i] ⟨Nat.zero_le _, rfl, hg, ⟨?_, trivial⟩⟩ ha ?_
 ·show entry _ _ 0 _; unfold entry; rw [p0]; dsimp only; rw [hi]; exact kidsO_rel _
 ·rintro _ _ ⟨rfl, rfl⟩
  have bl : back [.old i] σ.n 1 2 i = some (.old 0) := by
   unfold back
   have : Nat.ble σ.n i = false := by
    cases hb : Nat.ble σ.n i with
    | false => rfl
    | true => have := Nat.le_of_ble_eq_true hb; omega
   rw [this]; dsimp only; rw [x0]
  have bh : back [.old i] σ.n 1 2 σ.n = some (.old 1) := by
   unfold back
   rw [Nat.ble_eq_true_of_le (Nat.le_refl _)]
   dsimp only
   rw [Nat.ble_eq_true_of_le (by omega : σ.n + 1 + 1 ≤ 2 + σ.n)]
   dsimp only
   rw [show σ.n + 1 - σ.n = 1 by omega]
  refine ⟨.own σ.n 0 l'.length, [(σ.n, kidsO l'), (i, .dead)], ⟨?_, ?_, trivial⟩, ?_, ⟨bh, rfl, rfl⟩, hK⟩
  ·unfold entry; rw [bh]; exact kidsO_rel _
  ·unfold entry; rw [bl]; trivial
  ·have hb : ∀ k, Nat.beq k k = true := Nat.beq_refl
   simp [covers, keys, hb]
def subL : List AV → List AV → Prop
 | [], [] => True
 | a :: r, b :: q => Sub a b ∧ subL r q
 | _, _ => False
theorem subL_len : ∀ {x y : List AV}, subL x y → x.length = y.length
 | [], [], _ => rfl
 | a :: r, b :: q, h => by rw [List.length_cons, List.length_cons, subL_len h.2]
 | [], _ :: _, h => h.elim
 | _ :: _, [], h => h.elim
theorem subL_get : ∀ {x y : List AV} {i : Nat} {b : AV}, subL x y → y[i]? = some b → ∃ a, x[i]? = some a ∧ Sub a b
 | [], [], i, b, _, h => by simp at h
 | a :: r, c :: q, 0, b, hs, h => by
  simp at h; subst h
  exact ⟨a, by simp, hs.1⟩
 | a :: r, c :: q, i + 1, b, hs, h => by
  simp at h
  obtain ⟨d, h1, h2⟩ := subL_get hs.2 h
  exact ⟨d, by simpa using h1, h2⟩
 | [], _ :: _, _, _, h, _ => h.elim
 | _ :: _, [], _, _, h, _ => h.elim
theorem fin_row {σ0 σ : Store} {r : AV} (j : Nat) {sz : Nat × Nat} {A : List (List AV)} {x y : List AV} (ho : σ.get j = .rows sz (A ++ [x])) (hs : subL x y) : FinMove σ0 r σ r (σ.set j (.rows sz (A ++ [y]))) := fun P g0 g w0 w v R0 hE R hr => by
 have hj : j < g.n := by
  rcases Nat.lt_or_ge j g.n with h | h
  ·exact h
  ·have := R.dead j h; rw [ho] at this; cases this
 have hob := R.ob j hj
 rw [ho] at hob
 have hob' : ObRel g w j (.rows sz (A ++ [y])) := by
  rcases hob with ⟨h0, _⟩ | ⟨h1, h2, c, fr, h3, h4, h5, h6, h7⟩
  ·simp at h0
  ·refine .inr ⟨h1, h2, c, fr, h3, h4, h5, by simpa using h6, fun k row hk => ?_⟩
   by_cases hlt : k < A.length
   ·rw [List.getElem?_append_left hlt] at hk
    exact h7 k row (by rw [List.getElem?_append_left hlt]; exact hk)
   ·rw [List.getElem?_append_right (by omega)] at hk
    have hk0 : k - A.length = 0 := by
     rcases Nat.eq_zero_or_pos (k - A.length) with h | h
     ·exact h
     ·rw [List.getElem?_eq_none (by simp; omega)] at hk; cases hk
    rw [hk0] at hk
    have he : y = row := by simpa using hk
    subst he
    have hx := h7 k x (by rw [List.getElem?_append_right (by omega), hk0]; rfl)
    refine ⟨by rw [← subL_len hs]; exact hx.1, fun i b hb => ?_⟩
    obtain ⟨a, ha, hab⟩ := subL_get hs hb
    obtain ⟨v, hv, hrep, hone⟩ := hx.2 i a ha
    exact ⟨v, hv, hab g w v hrep, hone⟩
 have hR := set_ok R j (.rows sz (A ++ [y])) hj (by rw [ho]; intro q; cases q) (fun _ _ => rfl) rfl rfl rfl rfl hob'
 exact ⟨g, hE.trans R0 hR.1, hR.2, hr⟩
def tpW (l : List Node) : Nat := (l.map fun n => 1 + n.text.length).sum
theorem tpW_app (a b : List Node) : tpW (a ++ b) = tpW a + tpW b := by unfold tpW; rw [List.map_append, List.sum_append]
theorem tpW_one (n : Node) : tpW [n] = 1 + n.text.length := by simp [tpW]
theorem tpW_len : ∀ l : List Node, l.length ≤ tpW l
 | [] => Nat.le_refl _
 | n :: r => by
  have := tpW_len r
  have e : tpW (n :: r) = 1 + n.text.length + tpW r := by simp [tpW]
  rw [e, List.length_cons]; omega
theorem tpW_put (out : List Node) (n : Node) : tpW (putN out n) ≤ tpW out + (1 + n.text.length) := by
 by_cases hn : n.name = []
 ·by_cases ht : n.text = []
  ·rw [putN_nil hn ht]; omega
  ·cases hl : lastT out with
   | true =>
    obtain ⟨ys, m, rfl, hm⟩ := lastT_some hl
    rw [putN_text hn ht ys m hm, tpW_app, tpW_app, tpW_one, tpW_one]
    show tpW ys + (1 + (m.text ++ n.text).length) ≤ _
    rw [List.length_append]; omega
   | false =>
    rw [putN_new hn ht hl, tpW_app, tpW_one]
    exact Nat.le_refl _
 ·rw [putN_el hn, tpW_app, tpW_one]; exact Nat.le_refl _
mutual
theorem tpW_clN (p : Pol) : ∀ (n : Node) (out : List Node), tpW (clN p out n) ≤ tpW out + wtN n
 | .mk nm a t k, out => by
  rw [clN, wtN]
  split
  ·have := tpW_put out (.mk nm a t k)
   have e : (Node.mk nm a t k).text = t := rfl
   rw [e] at this; omega
  ·split
   ·omega
   ·split
    ·have := tpW_put out (.mk nm (attrsP p nm a) [] (clL p [] k))
     have e : (Node.mk nm (attrsP p nm a) [] (clL p [] k)).text.length = 0 := rfl
     rw [e] at this; omega
    ·have := tpW_clL p k out; omega
theorem tpW_clL (p : Pol) : ∀ (l : List Node) (out : List Node), tpW (clL p out l) ≤ tpW out + wtL l
 | [], out => by rw [clL]; omega
 | n :: r, out => by
  rw [clL_cons, wtL_cons]
  have h1 := tpW_clN p n out
  have h2 := tpW_clL p r (clN p out n)
  omega
end
theorem nodes_snoc2 (k : List Node) (n : Node) : (nodesD (k ++ [n])).map (fun r => r.map AV.d) = ((nodesD k).map fun r => r.map AV.d) ++ [[.d (.str n.name), .d (.sl (attrsD n.attrs)), .d (.str n.text), .d (.sl (nodesD n.kids))]] := by
 rw [nodes_snoc, nodeD_eq]; rfl
theorem nodes_text (k : List Node) (x : List UInt8) : (nodesD (k ++ [.mk [] [] x []])).map (fun r => r.map AV.d) = ((nodesD k).map fun r => r.map AV.d) ++ [[.d (.str []), .d (.sl []), .d (.str x), .d (.sl [])]] := by
 rw [nodes_snoc2]; show _ ++ [[AV.d (.str []), .d (.sl (attrsD [])), .d (.str x), .d (.sl (nodesD []))]] = _
 rw [nodesD]; rfl
def nbox (n : Node) : Ob := .rows (4, 58) [[.d (.str n.name), .d (.sl (attrsD n.attrs)), .d (.str n.text), .d (.sl (nodesD n.kids))]]
set_option maxRecDepth 100000 in
set_option maxHeartbeats 2000000 in
theorem sput_ok (l : List Node) (n : Node) (hl : tpW l ≤ 1000000) (hn : n.text.length ≤ 1000000) : OutC Tryz.prog 90 [.own 0 0 l.length, nodeA n] l (putN l n) := by
 have hlen := tpW_len l
 have hal := nodesA_len l
 unfold OutC
 by_cases h0 : n.name = []
 ·by_cases ht : n.text = []
  ·rw [putN_nil h0 ht]
   refine fn_okTE Tryz.wf Tryz.tab_ok Tryz.func90 (by decide +kernel) rfl rfl ?_
   refine E.fm (s' := [(0, .own 1 0 l.length), (1, nodeA n)]) (σ' := outS1 l) (out_up l ⟨⟨rfl, rfl, rfl⟩, ⟨rfl, rfl, rfl, rfl, trivial⟩, trivial⟩) ?_
   refine E.of Tryz.wf Tryz.tab_ok ?_
   refine wR (k := ?_)
   exact ⟨.own 1 0 l.length, outS1 l, fin_mv [.old 1] rfl rfl rfl ⟨kidsO_rel _, trivial⟩ ⟨rfl, rfl, rfl⟩, rfl, rfl⟩
  ·cases hlt : lastT l with
   | true =>
    obtain ⟨ys, m, rfl, hm⟩ := lastT_some hlt
    rw [putN_text h0 ht ys m hm]
    have hm2 : m.text.length ≤ 1000000 := by rw [tpW_app, tpW_one] at hl; omega
    refine fn_okTE Tryz.wf Tryz.tab_ok Tryz.func90 (by decide +kernel) rfl rfl ?_
    refine E.fm (s' := [(0, .own 1 0 (ys ++ [m]).length), (1, nodeA n)]) (σ' := outS1 (ys ++ [m])) (out_up (ys ++ [m]) ⟨⟨rfl, rfl, rfl⟩, ⟨rfl, rfl, rfl, rfl, trivial⟩, trivial⟩) ?_
    refine E.of Tryz.wf Tryz.tab_ok ?_
    have hat := kids_at ys m
    have hput := kids_put ys m (.mk m.name m.attrs (m.text ++ n.text) m.kids)
    refine wR (k := ?_)
    show E _ _ _ _ _ _ _
    refine drawnZ Tryz.wf Tryz.tab_ok [10] (fun t => match t with
     | 0 => ⟨3, [(2, nbox n), (1, kidsO (ys ++ [m]))]⟩
     | _ => ⟨3, (1, kidsO (ys ++ [.mk m.name m.attrs (m.text ++ n.text) m.kids])) :: [(2, nbox n), (1, kidsO (ys ++ [m]))]⟩) rfl Tryz.mixed (by decide +kernel) ?_
    repeat' (first | refine zO ?_ | fail)
    refine zreadL (r := .ref 1 ys.length 0) [0] (by decide +kernel) rfl rfl ⟨⟨⟨by simp only [List.length_append, List.length_cons, List.length_nil]; omega, by simp only [List.length_append, List.length_cons, List.length_nil]; omega⟩, fin_eq (congrArg (fun x => AV.ref 1 x 0) (by simp only [List.length_append, List.length_cons, List.length_nil]; omega))⟩, trivial⟩ ?_
    repeat' (first | refine zO ?_ | fail)
    refine zreadL [0] (by decide +kernel) rfl rfl ⟨⟨_, kids_last ys m, _, rfl, FinMove.refl _ _ _⟩, trivial⟩ ?_
    repeat' (first | refine zO ?_ | fail)
    refine zblind (by decide +kernel) rfl rfl (fun _ => ⟨show _ ≤ (9223372036854775807 : Nat) by omega, FinMove.refl _ _ _⟩) ?_
    refine zreadL (r := .ref 1 ys.length 0) [0] (by decide +kernel) rfl rfl ⟨⟨⟨by simp only [List.length_append, List.length_cons, List.length_nil]; omega, by simp only [List.length_append, List.length_cons, List.length_nil]; omega⟩, fin_eq (congrArg (fun x => AV.ref 1 x 0) (by simp only [List.length_append, List.length_cons, List.length_nil]; omega))⟩, trivial⟩ ?_
    repeat' (first | refine zO ?_ | fail)
    refine zeff (r := .top) rfl rfl rfl ⟨_, kids_last ys m, rfl, Nat.le_of_ble_eq_true rfl, fin_st (congrArg (fun x => Store.mk 3 ((1, Ob.rows (4, 58) x) :: [(2, nbox n), (1, kidsO (ys ++ [m]))])) (kids_set ys m (.mk m.name m.attrs (m.text ++ n.text) m.kids)))⟩ ?_
    refine wR (k := ?_)
    exact ⟨.own 1 0 (ys ++ [Node.mk m.name m.attrs (m.text ++ n.text) m.kids]).length, outS1 (ys ++ [Node.mk m.name m.attrs (m.text ++ n.text) m.kids]), fin_mv [.old 1] rfl rfl rfl ⟨kidsO_rel _, trivial⟩ ⟨rfl, rfl, by simp⟩, rfl, rfl⟩
   | false =>
    rw [putN_new h0 ht hlt]
    refine fn_okTE Tryz.wf Tryz.tab_ok Tryz.func90 (by decide +kernel) rfl rfl ?_
    refine E.fm (s' := [(0, .own 1 0 l.length), (1, nodeA n)]) (σ' := outS1 l) (out_up l ⟨⟨rfl, rfl, rfl⟩, ⟨rfl, rfl, rfl, rfl, trivial⟩, trivial⟩) ?_
    refine E.of Tryz.wf Tryz.tab_ok ?_
    rcases nil_or_snoc l with rfl | ⟨ys, m, rfl⟩
    ·refine wR (k := ?_)
     refine ⟨(nodesD (([] : List Node))).map (fun r : List D => List.map AV.d r), [_], congrArg some (takeAll hal), rfl, (show srcLen (.own 1 0 ((([] : List Node))).length) _ from hal), rfl, (by rw [hal]; show (((([] : List Node))).length + 1) * 80 ≤ 140737488355328; omega), Nat.le_of_ble_eq_true rfl, Nat.le_of_ble_eq_true rfl, rfl, rfl, nodesRows _, rowsOne rfl rfl, ?_⟩
     refine wR (k := ?_)
     exact ⟨.own 1 0 ((([] : List Node)) ++ [Node.mk [] [] n.text []]).length, outS1 ((([] : List Node)) ++ [Node.mk [] [] n.text []]), (fin_row 4 (x := [.d (.str []), .nil, .d (.str n.text), .nil]) (y := [.d (.str []), .d (.sl []), .d (.str n.text), .d (.sl [])]) rfl ⟨Sub.refl _, Sub.nil, Sub.refl _, Sub.nil, trivial⟩).trans (fin_mv [.old 4] rfl rfl rfl ⟨⟨rfl, .inl ⟨nodes_text _ _, dataA_pure _⟩⟩, trivial⟩ ⟨rfl, rfl, by rw [List.length_append, hal]; rfl⟩), rfl, rfl⟩
    ·have hm : ¬ m.name = [] := by
      rw [lastT_snoc] at hlt; exact of_decide_eq_false hlt
     have hat := kids_at ys m
     refine wR (k := ?_)
     refine ⟨(nodesD (ys ++ [m])).map (fun r : List D => List.map AV.d r), [_], congrArg some (takeAll hal), rfl, (show srcLen (.own 1 0 ((ys ++ [m])).length) _ from hal), rfl, (by rw [hal]; show (((ys ++ [m])).length + 1) * 80 ≤ 140737488355328; omega), Nat.le_of_ble_eq_true rfl, Nat.le_of_ble_eq_true rfl, rfl, rfl, nodesRows _, rowsOne rfl rfl, ?_⟩
     refine wR (k := ?_)
     exact ⟨.own 1 0 ((ys ++ [m]) ++ [Node.mk [] [] n.text []]).length, outS1 ((ys ++ [m]) ++ [Node.mk [] [] n.text []]), (fin_row 4 (x := [.d (.str []), .nil, .d (.str n.text), .nil]) (y := [.d (.str []), .d (.sl []), .d (.str n.text), .d (.sl [])]) rfl ⟨Sub.refl _, Sub.nil, Sub.refl _, Sub.nil, trivial⟩).trans (fin_mv [.old 4] rfl rfl rfl ⟨⟨rfl, .inl ⟨nodes_text _ _, dataA_pure _⟩⟩, trivial⟩ ⟨rfl, rfl, by rw [List.length_append, hal]; rfl⟩), rfl, rfl⟩
 ·rw [putN_el h0]
  refine fn_okTE Tryz.wf Tryz.tab_ok Tryz.func90 (by decide +kernel) rfl rfl ?_
  refine E.fm (s' := [(0, .own 1 0 l.length), (1, nodeA n)]) (σ' := outS1 l) (out_up l ⟨⟨rfl, rfl, rfl⟩, ⟨rfl, rfl, rfl, rfl, trivial⟩, trivial⟩) ?_
  refine E.of Tryz.wf Tryz.tab_ok ?_
  refine wR (k := ?_)
  refine ⟨(nodesD l).map (fun r : List D => List.map AV.d r), [_], congrArg some (takeAll hal), rfl, (show srcLen (.own 1 0 l.length) _ from hal), rfl, (by rw [hal]; show (l.length + 1) * 80 ≤ 140737488355328; omega), Nat.le_of_ble_eq_true rfl, Nat.le_of_ble_eq_true rfl, rfl, rfl, nodesRows _, rowsOne rfl rfl, ?_⟩
  refine wR (k := ?_)
  exact ⟨.own 1 0 (l ++ [n]).length, outS1 (l ++ [n]), fin_mv [.old 4] rfl rfl rfl ⟨⟨rfl, .inl ⟨nodes_snoc2 _ _, dataA_pure _⟩⟩, trivial⟩ ⟨rfl, rfl, by rw [List.length_append, hal]; rfl⟩, rfl, rfl⟩
end Go.Proofs.YthngplknbbcecaaGreatDoor

namespace Go.Proofs.YthngplknbbcecaaGreatDoor
open Go.Aw
set_option maxHeartbeats 1600000
set_option linter.unusedSimpArgs false
set_option linter.unusedVariables false
theorem CallsAbs.post {P : Program} {f : FuncId} {args : List AV} {σ : Store} {R K : AV → Store → Prop} (h : CallsAbs P f args σ R) (hf : ∀ r σ', R r σ' → ∃ r2 σ2, FinMove σ r σ' r2 σ2 ∧ K r2 σ2) : CallsAbs P f args σ K := by
 rcases h with h | ⟨fn, e, h1, h2, h3, h4, h5, h6⟩
 ·refine .inl ⟨h.1, fun g w vs hS hL => ?_⟩
  refine (h.2 g w vs hS hL).mono fun e w' ⟨v, g2, σ2, r, q1, q2, q3, q4, q5⟩ => ?_
  obtain ⟨r2, σ3, m, k⟩ := hf r σ2 q5
  obtain ⟨g3, x1, x2, x3⟩ := m _ g g2 w w' v hS q2 q3 q4
  exact ⟨v, g3, σ3, r2, q1, x1, x2, x3, k⟩
 ·refine .inr ⟨fn, e, h1, h2, h3, h4, h5, fun g w vs hS hL => ?_⟩
  have := h6 g w vs hS hL
  cases hr : (e vs.toArray).run P w with
  | ok v w' =>
   rw [hr] at this
   obtain ⟨g2, σ2, r, q2, q3, q4, q5⟩ := this
   obtain ⟨r2, σ3, m, k⟩ := hf r σ2 q5
   obtain ⟨g3, x1, x2, x3⟩ := m _ g g2 w w' v hS q2 q3 q4
   exact ⟨g3, σ3, r2, x1, x2, x3, k⟩
  | halt x w' => rw [hr] at this; exact this.elim
def nodF (p : Pol) : AV := .fn (.func 43) [polA p] []
theorem nodF_rel {f : Nat → Option VE} (p : Pol) : vrel f (nodF p) (nodF p) := vrel_self _ rfl
theorem polA_rel {f : Nat → Option VE} (p : Pol) : vrel f (polA p) (polA p) := vrel_self _ rfl
theorem kidsO_nil : kidsO [] = .rows (4, 58) [] := by unfold kidsO; rw [nodesD]; rfl
theorem fold_nil {p : Pol} {l l' : List Node} (h : OutC Tryz.prog 44 [.own 0 0 0, .d (.sl (nodesD l)), nodF p] [] l') : PureC Tryz.prog 44 [.nil, .d (.sl (nodesD l)), nodF p] (.d (.sl (nodesD l'))) := by
 refine PureC.of rfl rfl ?_
 have h2 : CallsAbs Tryz.prog 44 [.own 0 0 0, .d (.sl (nodesD l)), nodF p] ⟨1, [(0, .rows (4, 58) [])]⟩ fun r σ' => r = .own 1 0 l'.length ∧ σ' = outS1 l' := by
  have h3 := h
  unfold OutC outS at h3
  rw [kidsO_nil] at h3
  exact h3
 have h3 : CallsAbs Tryz.prog 44 [.nil, .d (.sl (nodesD l)), nodF p] ⟨0, []⟩ fun r σ' => r = .own 1 0 l'.length ∧ σ' = outS1 l' :=
  CallsAbs.fm (args' := [.own 0 0 0, .d (.sl (nodesD l)), nodF p]) (σ' := ⟨1, [(0, .rows (4, 58) [])]⟩) (fin_mv [.phan 4] rfl rfl rfl ⟨rfl, trivial⟩ ⟨⟨rfl, rfl, rfl⟩, rfl, nodF_rel p, trivial⟩) h2
 exact CallsAbs.post h3 fun r σ' ⟨e1, e2⟩ => by
  subst e1; subst e2
  exact ⟨_, ⟨0, []⟩, fin_own2 rfl (rowsD_d _) (nodesD_len l').symm, rfl, rfl⟩
theorem cl_take (p : Pol) (out l : List Node) (k : Nat) (h : k < l.length) : clL p out (l.take (k + 1)) = clN p (clL p out (l.take k)) l[k] := by
 rw [List.take_succ_eq_append_getElem h, clL_app, clL_cons, clL_nil]
theorem wt_split (l : List Node) (k : Nat) (h : k < l.length) : wtL (l.take k) + wtN l[k] ≤ wtL l := by
 have e := congrArg wtL (List.take_append_drop k l)
 rw [wtL_append] at e
 have h2 := congrArg wtL (List.drop_eq_getElem_cons h)
 rw [wtL_cons] at h2
 omega
theorem wtN_parts (n : Node) : n.name.length ≤ wtN n ∧ n.text.length ≤ wtN n ∧ n.attrs.length ≤ wtN n ∧ (∀ a ∈ n.attrs, a.1.length + a.2.length + 1 ≤ wtN n) ∧ wtL n.kids + 1 ≤ wtN n := by
 rw [wtN_eq]
 have := wtA_len n.attrs
 refine ⟨by omega, by omega, by omega, fun a ha => ?_, by omega⟩
 have := wtA_mem ha
 omega
def clnO (p : Pol) : Ob := .rows (9, 62) [(polD p).map .d]
set_option maxRecDepth 100000 in
set_option maxHeartbeats 4000000 in
theorem snode_ok (p : Pol) (hp : Fits p) (n : Node) (hfold : ∀ l, szL l < szN n → ∀ out, wtL l ≤ 50000 → tpW out + wtL l ≤ 200000 → OutC Tryz.prog 44 [.own 0 0 out.length, .d (.sl (nodesD l)), nodF p] out (clL p out l)) (out : List Node) (hw : wtN n ≤ 50000) (ho : tpW out + wtN n ≤ 200000) :
  OutC Tryz.prog 43 [polA p, .own 0 0 out.length, nodeA n] out (clN p out n) := by
 obtain ⟨w1, w2, w3, w4, w5⟩ := wtN_parts n
 have hkz : szL n.kids < szN n := by rw [szN_eq]; omega
 have hc1 := Dropped_ok n.name
 have hc2 := Elem_ok p n.name hp
 rw [clN_eq]
 unfold OutC
 by_cases h0 : n.name = []
 ·rw [if_pos h0]
  have hput := sput_ok out n (by omega) (by omega)
  clear hc1 hc2
  refine fn_okTE Tryz.wf Tryz.tab_ok Tryz.func43 (by decide +kernel) rfl rfl ?_
  refine E.fm (s' := [(0, polA p), (1, .own 1 0 out.length), (2, nodeA n)]) (σ' := outS1 out) (out_up out ⟨polA_rel p, ⟨rfl, rfl, rfl⟩, ⟨rfl, rfl, rfl, rfl, trivial⟩, trivial⟩) ?_
  refine E.of Tryz.wf Tryz.tab_ok ?_
  refine wR (k := ?_)
  refine OutC.use hput 1 4 5 rfl rfl rfl rfl ⟨⟨rfl, rfl, rfl⟩, ⟨rfl, rfl, rfl, rfl, trivial⟩, trivial⟩ ?_
  refine wR (k := ?_)
  exact ⟨.own 1 0 (putN out n).length, outS1 (putN out n), fin_mv [.old 4] rfl rfl rfl ⟨kidsO_rel _, trivial⟩ ⟨rfl, rfl, rfl⟩, rfl, rfl⟩
 ·rw [if_neg h0]
  by_cases h1 : dropB n.name = true
  ·rw [if_pos h1]
   rw [h1] at hc1
   clear hc2
   refine fn_okTE Tryz.wf Tryz.tab_ok Tryz.func43 (by decide +kernel) rfl rfl ?_
   refine E.fm (s' := [(0, polA p), (1, .own 1 0 out.length), (2, nodeA n)]) (σ' := outS1 out) (out_up out ⟨polA_rel p, ⟨rfl, rfl, rfl⟩, ⟨rfl, rfl, rfl, rfl, trivial⟩, trivial⟩) ?_
   refine E.of Tryz.wf Tryz.tab_ok ?_
   refine wR (k := ?_)
   exact ⟨.own 1 0 out.length, outS1 out, fin_mv [.old 1] rfl rfl rfl ⟨kidsO_rel _, trivial⟩ ⟨rfl, rfl, rfl⟩, rfl, rfl⟩
  ·rw [if_neg h1]
   rw [Bool.not_eq_true] at h1
   rw [h1] at hc1
   by_cases h2 : n.name ∈ p.el
   ·rw [if_pos h2]
    rw [decide_eq_true h2] at hc2
    have hc3 := sattrs_ok p n.name n.attrs hp (by omega) (by omega) (fun a ha => by have := w4 a ha; omega)
    have hc4 := fold_nil (hfold n.kids hkz [] (by omega) (by show 0 + _ ≤ _; omega))
    have hput := sput_ok out (.mk n.name (attrsP p n.name n.attrs) [] (clL p [] n.kids)) (by omega) (Nat.zero_le _)
    refine fn_okTE Tryz.wf Tryz.tab_ok Tryz.func43 (by decide +kernel) rfl rfl ?_
    refine E.fm (s' := [(0, polA p), (1, .own 1 0 out.length), (2, nodeA n)]) (σ' := outS1 out) (out_up out ⟨polA_rel p, ⟨rfl, rfl, rfl⟩, ⟨rfl, rfl, rfl, rfl, trivial⟩, trivial⟩) ?_
    refine E.of Tryz.wf Tryz.tab_ok ?_
    refine wR (k := ?_)
    show E _ _ _ _ _ _ _
    refine drawnZ Tryz.wf Tryz.tab_ok [15] (fun t => match t with
     | 0 => ⟨4, [(3, nbox n), (2, clnO p), (1, kidsO out)]⟩
     | _ => ⟨5, (4, kidsO (putN out (.mk n.name (attrsP p n.name n.attrs) [] (clL p [] n.kids)))) :: (1, .dead) :: [(3, nbox n), (2, clnO p), (1, kidsO out)]⟩) rfl Tryz.mixed (by decide +kernel) ?_
    clear hc1 hc2
    repeat' (first | refine zO ?_ | fail)
    refine zreadL [0] (by decide +kernel) rfl rfl ⟨⟨_, rfl, Nat.le_of_ble_eq_true rfl, FinMove.refl _ _ _⟩, trivial⟩ ?_
    repeat' (first | refine zO ?_ | fail)
    refine zreadL [0] (by decide +kernel) rfl rfl ⟨⟨_, rfl, Nat.le_of_ble_eq_true rfl, FinMove.refl _ _ _⟩, trivial⟩ ?_
    repeat' (first | refine zO ?_ | fail)
    refine zeff (r := .own 4 0 (putN out (.mk n.name (attrsP p n.name n.attrs) [] (clL p [] n.kids))).length) rfl rfl rfl (OutC.use hput 1 4 5 rfl rfl rfl rfl ⟨⟨rfl, rfl, rfl⟩, ⟨rfl, rfl, rfl, rfl, trivial⟩, trivial⟩ (FinMove.refl _ _ _)) ?_
    repeat' (first | refine zO ?_ | fail)
    refine wR (k := ?_)
    exact ⟨.own 1 0 (putN out (.mk n.name (attrsP p n.name n.attrs) [] (clL p [] n.kids))).length, outS1 (putN out (.mk n.name (attrsP p n.name n.attrs) [] (clL p [] n.kids))), fin_mv [.old 4] rfl rfl rfl ⟨kidsO_rel _, trivial⟩ ⟨rfl, rfl, rfl⟩, rfl, rfl⟩
   ·rw [if_neg h2]
    rw [decide_eq_false h2] at hc2
    have hf := hfold n.kids hkz out (by omega) (by omega)
    refine fn_okTE Tryz.wf Tryz.tab_ok Tryz.func43 (by decide +kernel) rfl rfl ?_
    refine E.fm (s' := [(0, polA p), (1, .own 1 0 out.length), (2, nodeA n)]) (σ' := outS1 out) (out_up out ⟨polA_rel p, ⟨rfl, rfl, rfl⟩, ⟨rfl, rfl, rfl, rfl, trivial⟩, trivial⟩) ?_
    refine E.of Tryz.wf Tryz.tab_ok ?_
    refine wR (k := ?_)
    refine OutC.use hf 1 4 5 rfl rfl rfl rfl ⟨⟨rfl, rfl, rfl⟩, rfl, nodF_rel p, trivial⟩ ?_
    refine wR (k := ?_)
    exact ⟨.own 1 0 (clL p out n.kids).length, outS1 (clL p out n.kids), fin_mv [.old 4] rfl rfl rfl ⟨kidsO_rel _, trivial⟩ ⟨rfl, rfl, rfl⟩, rfl, rfl⟩
set_option maxRecDepth 100000 in
set_option maxHeartbeats 2000000 in
theorem sfold_ok (p : Pol) (hp : Fits p) (N : Nat) : ∀ l, szL l ≤ N → ∀ out, wtL l ≤ 50000 → tpW out + wtL l ≤ 200000 → OutC Tryz.prog 44 [.own 0 0 out.length, .d (.sl (nodesD l)), nodF p] out (clL p out l) := by
 induction N using Nat.strongRecOn with
 | ind N ih =>
 intro l hN out hw ho
 have hn := nodesD_len l
 have hlen := Nat.le_trans (sz_len l) (sz_wtL l)
 unfold OutC
 refine fn_okTE Tryz.wf Tryz.tab_ok Tryz.func44 (by decide +kernel) rfl rfl ?_
 refine E.fm (s' := [(0, .own 1 0 out.length), (1, .d (.sl (nodesD l))), (2, nodF p)]) (σ' := outS1 out) (out_up out ⟨⟨rfl, rfl, rfl⟩, rfl, nodF_rel p, trivial⟩) ?_
 refine E.of Tryz.wf Tryz.tab_ok ?_
 refine wR (k := ?_)
 refine loopT Tryz.wf Tryz.tab_ok (fun m s' σ => ∃ k : Nat, m = l.length - k ∧ k ≤ l.length ∧ s' = [(0, .own 1 0 (clL p out (l.take k)).length), (2, nodF p), (9, .d (.sl (nodesD l))), (10, .d (.int .i64 l.length)), (11, .d (.int .i64 k))] ∧ σ = outS1 (clL p out (l.take k)))
  ⟨0, rfl, Nat.zero_le _, rfl, rfl⟩ (Mv.of [.old 1] rfl rfl rfl ⟨(by rw [show l.take 0 = [] from rfl, clL_nil]; exact kidsO_rel _), trivial⟩ ⟨⟨rfl, rfl, (by rw [show l.take 0 = [] from rfl, clL_nil])⟩, nodF_rel p, rfl, congrArg (fun n : Nat => D.int .i64 n) hn.symm, rfl, trivial⟩) ?_
 rintro _ _ _ ⟨k, rfl, hk, rfl, rfl⟩
 by_cases hlt : k < l.length
 ·have hg := nodesD_get l k hlt
  have hmem := sz_mem (List.getElem_mem hlt)
  have hws := wt_split l k hlt
  have htp := tpW_clL p (l.take k) out
  have hnode := snode_ok p hp l[k] (fun q hq out2 h1 h2 => ih (szL q) (by omega) q (Nat.le_refl _) out2 h1 h2) (clL p out (l.take k)) (by omega) (by omega)
  have hct := cl_take p out l k hlt
  refine wR (k := ?_)
  refine OutC.use hnode 1 3 4 rfl rfl rfl rfl ⟨polA_rel p, ⟨rfl, rfl, rfl⟩, ⟨rfl, rfl, rfl, rfl, trivial⟩, trivial⟩ ?_
  refine wR (k := ?_)
  exact ⟨_, _, _, ⟨k + 1, rfl, hlt, rfl, rfl⟩, by omega, Mv.of [.old 3] rfl rfl rfl ⟨(by rw [hct]; exact kidsO_rel _), trivial⟩ ⟨⟨rfl, rfl, congrArg List.length hct⟩, nodF_rel p, rfl, rfl, rfl, trivial⟩⟩
 ·have hk' : k = l.length := by omega
  subst hk'
  rw [List.take_length]
  refine wR (k := ?_)
  exact ⟨.own 1 0 (clL p out l).length, outS1 (clL p out l), fin_mv [.old 1] rfl rfl rfl ⟨kidsO_rel _, trivial⟩ ⟨rfl, rfl, rfl⟩, rfl, rfl⟩
set_option maxRecDepth 100000 in
theorem sTree_ok (p : Pol) (hp : Fits p) (l : List Node) (hw : wtL l ≤ 50000) : PureC Tryz.prog 18 [polA p, .d (.sl (nodesD l))] (.d (.sl (nodesD (treeB p l)))) := by
 have hc1 := fold_nil (sfold_ok p hp (szL l) l (Nat.le_refl _) [] hw (by show 0 + _ ≤ _; omega))
 refine pure_okT Tryz.wf Tryz.tab_ok Tryz.func18 (by decide +kernel) rfl rfl rfl rfl ?_
 refine wR (k := ?_)
 exact ⟨_, _, fin_out rfl, rfl⟩
def Ch (x : List UInt8) : Prop := ∃ c r, x = c :: r ∧ right (c :: r) = r.length + 1 ∧ c ≠ 0 ∧ c ≠ 13
def Gd (s : List UInt8) : Prop := ∃ cs : List (List UInt8), (∀ x ∈ cs, Ch x) ∧ s = cs.flatten
theorem Gd.nil : Gd [] := ⟨[], fun _ h => (by cases h), rfl⟩
theorem Gd.app {a b : List UInt8} (ha : Gd a) (hb : Gd b) : Gd (a ++ b) := by
 obtain ⟨x, hx, rfl⟩ := ha
 obtain ⟨y, hy, rfl⟩ := hb
 exact ⟨x ++ y, fun z hz => (List.mem_append.1 hz).elim (hx z) (hy z), by rw [List.flatten_append]⟩
theorem Gd.one {x : List UInt8} (h : Ch x) : Gd x := ⟨[x], fun z hz => by rw [List.mem_singleton] at hz; rw [hz]; exact h, by simp⟩
theorem Gd.flat {l : List (List UInt8)} (h : ∀ x ∈ l, Gd x) : Gd l.flatten := by
 induction l with
 | nil => exact Gd.nil
 | cons a r ih => rw [List.flatten_cons]; exact (h a (by simp)).app (ih fun x hx => h x (by simp [hx]))
def ascC (c : UInt8) : Prop := c.toNat < 128 ∧ c ≠ 0 ∧ c ≠ 13
theorem Ch.asc {c : UInt8} (h : ascC c) : Ch [c] := ⟨c, [], rfl, (by unfold right; dsimp only; rw [if_pos h.1]; rfl), h.2.1, h.2.2⟩
theorem Gd.asc : ∀ {s : List UInt8}, (∀ c ∈ s, ascC c) → Gd s
 | [], _ => Gd.nil
 | c :: r, h => by
  have h1 := Gd.one (Ch.asc (h c (by simp)))
  have h2 := Gd.asc (s := r) fun d hd => h d (by simp [hd])
  exact h1.app h2
theorem right_more {c : UInt8} {r : List UInt8} (hc : ¬ c.toNat < 128) (h : right (c :: r) ≠ 0) : right (c :: r) = (lead c).1 ∧ 2 ≤ (lead c).1 ∧ (lead c).1 ≤ r.length + 1 ∧ (lead c).2.1 ≤ (r.getD 0 0).toNat ∧ (r.getD 0 0).toNat ≤ (lead c).2.2 ∧ ((r.drop 1).take ((lead c).1 - 2)).all goesB = true := by
 unfold right at h ⊢
 dsimp only at h ⊢
 rw [if_neg hc] at h ⊢
 split at h
 ·exact absurd rfl h
 ·rename_i h1
  rw [if_neg h1]
  split at h
  ·rename_i h2
   rw [if_pos h2]
   have h3 : 2 ≤ (lead c).1 := by
    have : (lead c).1 ≠ 0 := fun e => h1 (.inl e)
    revert this
    unfold lead
    repeat' split
    all_goals simp
   rw [List.length_cons] at h1
   exact ⟨rfl, h3, by omega, by omega, by omega, h2⟩
  ·exact absurd rfl h
theorem lead_lo (c : UInt8) : 128 ≤ (lead c).2.1 ∧ (lead c).2.2 ≤ 191 := by
 unfold lead
 repeat' split
 all_goals simp
theorem Ch.parts {c : UInt8} {r : List UInt8} (hc : ¬ c.toNat < 128) (h : right (c :: r) = r.length + 1) : r ≠ [] ∧ (∀ d ∈ r, goesB d = true) ∧ (lead c).1 = r.length + 1 ∧ (lead c).2.1 ≤ (r.getD 0 0).toNat ∧ (r.getD 0 0).toNat ≤ (lead c).2.2 := by
 obtain ⟨h1, h2, h3, h4, h5, h6⟩ := right_more hc (fun e => Nat.succ_ne_zero _ (h.symm.trans e))
 have h7 := lead_lo c
 have hl : (lead c).1 = r.length + 1 := h1.symm.trans h
 cases r with
 | nil => rw [hl] at h2; simp at h2
 | cons d t =>
  refine ⟨by simp, fun e he => ?_, hl, h4, h5⟩
  rcases List.mem_cons.1 he with rfl | he
  ·have e0 : (e :: t).getD 0 0 = e := rfl
   rw [e0] at h4 h5
   unfold goesB
   rw [Bool.and_eq_true, decide_eq_true_eq, decide_eq_true_eq]; omega
  ·rw [hl] at h6
   have : ((d :: t).drop 1).take ((d :: t).length + 1 - 2) = t := by
    show t.take (t.length + 1 + 1 - 2) = t
    exact List.take_of_length_le (by omega)
   rw [this] at h6
   exact List.all_eq_true.1 h6 e he
theorem Ch.high {x : List UInt8} (h : Ch x) (h1 : 1 < x.length) : ∀ c ∈ x, 128 ≤ c.toNat := by
 obtain ⟨c, r, rfl, h2, _, _⟩ := h
 have hc : ¬ c.toNat < 128 := fun hc => by
  unfold right at h2
  dsimp only at h2
  rw [if_pos hc] at h2
  rw [List.length_cons] at h1; omega
 obtain ⟨_, p2, _⟩ := Ch.parts hc h2
 intro d hd
 rcases List.mem_cons.1 hd with rfl | hd
 ·omega
 ·have := p2 d hd
  unfold goesB at this
  rw [Bool.and_eq_true, decide_eq_true_eq, decide_eq_true_eq] at this; omega
def Bd (a b : List UInt8) : Prop := a = [] ∨ b = [] ∨ (∃ c r, b = c :: r ∧ c.toNat < 128) ∨ (∃ r c, a = r ++ [c] ∧ c.toNat < 128)
theorem Gd.cut : ∀ (cs : List (List UInt8)), (∀ x ∈ cs, Ch x) → ∀ (a b : List UInt8), cs.flatten = a ++ b → Bd a b → Gd a ∧ Gd b
 | cs, hx, [], b, h, _ => ⟨Gd.nil, cs, hx, h.symm⟩
 | [], _, c :: a, b, h, _ => by simp at h
 | x :: cs, hx, c :: a, b, h, hb => by
  rw [List.flatten_cons] at h
  by_cases hl : x.length ≤ (c :: a).length
  ·obtain ⟨a2, ha2⟩ : ∃ a2, c :: a = x ++ a2 := by
    have := List.append_eq_append_iff.1 h
    rcases this with ⟨a', e1, _⟩ | ⟨c', e1, e2⟩
    ·exact ⟨a', e1⟩
    ·have : c' = [] := by
      have := congrArg List.length e1
      rw [List.length_append] at this
      exact List.length_eq_zero_iff.1 (by omega)
     exact ⟨[], by rw [e1, this]; simp⟩
   rw [ha2, List.append_assoc] at h
   have h2 := List.append_cancel_left h
   have ih := Gd.cut cs (fun y hy => hx y (by simp [hy])) a2 b h2 (by
    rcases hb with hb | hb | hb | ⟨r, d, e, hd⟩
    ·cases hb
    ·exact .inr (.inl hb)
    ·exact .inr (.inr (.inl hb))
    ·rcases List.eq_nil_or_concat a2 with rfl | ⟨r2, d2, rfl⟩
     ·exact .inl rfl
     ·rw [List.concat_eq_append] at *
      refine .inr (.inr (.inr ⟨r2, d2, rfl, ?_⟩))
      rw [ha2, ← List.append_assoc] at e
      have := (List.append_inj' e rfl).2
      cases this; exact hd)
   exact ⟨by rw [ha2]; exact (Gd.one (hx x (by simp))).app ih.1, ih.2⟩
  ·exfalso
   have hx1 := hx x (by simp)
   have hh := hx1.high (by rw [List.length_cons] at hl; omega)
   obtain ⟨y, hy⟩ : ∃ y, x = (c :: a) ++ y := by
    rcases List.append_eq_append_iff.1 h with ⟨a', e1, _⟩ | ⟨c', e1, _⟩
    ·have := congrArg List.length e1
     rw [List.length_append] at this; omega
    ·exact ⟨c', e1⟩
   have hyn : y ≠ [] := fun e => by rw [hy, e] at hl; simp at hl
   rcases hb with hb | hb | ⟨d, r, e, hd⟩ | ⟨r, d, e, hd⟩
   ·cases hb
   ·rw [hb, hy, List.append_nil, List.append_assoc] at h
    have := congrArg List.length h
    have h3 := List.length_pos_iff.2 hyn
    rw [List.length_append, List.length_append] at this; omega
   ·obtain ⟨z, y2, rfl⟩ : ∃ z y2, y = z :: y2 := by
     cases y with
     | nil => exact absurd rfl hyn
     | cons z y2 => exact ⟨z, y2, rfl⟩
    rw [hy, e, List.append_assoc] at h
    have h7 := List.append_cancel_left h
    rw [List.cons_append, List.cons.injEq] at h7
    have := hh z (by rw [hy]; simp)
    rw [h7.1] at this
    omega
   ·have := hh d (by rw [hy, e]; simp)
    omega
theorem Gd.parts {a b : List UInt8} (h : Gd (a ++ b)) (hb : Bd a b) : Gd a ∧ Gd b := by
 obtain ⟨cs, h1, h2⟩ := h
 exact Gd.cut cs h1 a b h2.symm hb
theorem esc_keep (q : Bool) : ∀ (y r : List UInt8), (∀ c ∈ y, 128 ≤ c.toNat ∧ c ≠ 194) → escape q (y ++ r) = y ++ escape q r
 | [], r, _ => rfl
 | c :: y, r, h => by
  have hc := h c (by simp)
  rw [List.cons_append, escape_cons q c _ (fun e => hc.2 e.1), esc_keep q y r (fun d hd => h d (by simp [hd]))]
  have : esc1 q c = [c] := by
   unfold esc1
   rw [if_neg (by rintro rfl; revert hc; decide), if_neg (by rintro rfl; revert hc; decide), if_neg (by rintro rfl; revert hc; decide), if_neg (by rintro ⟨rfl, _⟩; revert hc; decide)]
  rw [this]; rfl
theorem esc_asc {q : Bool} {c : UInt8} (h : ascC c) : ∀ d ∈ esc1 q c, ascC d := by
 intro d hd
 unfold esc1 at hd
 have lits : ∀ l : List UInt8, (l.all fun d => decide (d.toNat < 128) && (!decide (d = 0) && !decide (d = 13))) = true → d ∈ l → ascC d := fun l hl hm => by
  have := List.all_eq_true.1 hl d hm
  simp only [Bool.and_eq_true, Bool.not_eq_true', decide_eq_true_eq, decide_eq_false_iff_not] at this
  exact this
 split at hd
 ·exact lits _ (by decide) hd
 ·split at hd
  ·exact lits _ (by decide) hd
  ·split at hd
   ·exact lits _ (by decide) hd
   ·split at hd
    ·exact lits _ (by decide) hd
    ·rw [List.mem_singleton] at hd; rw [hd]; exact h
theorem goes_no {d : UInt8} (h : goesB d = true) : 128 ≤ d.toNat ∧ d ≠ 194 := by
 unfold goesB at h
 rw [Bool.and_eq_true, decide_eq_true_eq, decide_eq_true_eq] at h
 exact ⟨h.1, by rintro rfl; have := h.2; revert this; decide⟩
theorem Gd.esc (q : Bool) : ∀ (cs : List (List UInt8)), (∀ x ∈ cs, Ch x) → Gd (escape q cs.flatten)
 | [], _ => Gd.nil
 | x :: cs, h => by
  have ih := Gd.esc q cs (fun y hy => h y (by simp [hy]))
  have hx := h x (by simp)
  obtain ⟨c, r, rfl, h2, h3, h4⟩ := hx
  rw [List.flatten_cons, List.cons_append]
  by_cases hc : c.toNat < 128
  ·have hr : r = [] := by
    unfold right at h2
    dsimp only at h2
    rw [if_pos hc] at h2
    exact List.length_eq_zero_iff.1 (by omega)
   subst hr
   rw [List.nil_append, escape_cons q c _ (fun e => by rw [e.1] at hc; revert hc; decide)]
   exact (Gd.asc (esc_asc ⟨hc, h3, h4⟩)).app ih
  ·obtain ⟨p1, p2, p3, p4, p5⟩ := Ch.parts hc h2
   by_cases hs : c = 194 ∧ ∃ t, r ++ cs.flatten = 160 :: t
   ·obtain ⟨rfl, t, ht⟩ := hs
    have hr1 : r.length = 1 := by
     have : (lead 194).1 = 2 := by decide
     omega
    obtain ⟨d, rfl⟩ : ∃ d, r = [d] := List.length_eq_one_iff.1 hr1
    have e : d = 160 ∧ cs.flatten = t := by
     have := ht
     rw [List.singleton_append, List.cons.injEq] at this
     exact this
    rw [ht, escape_nb, ← e.2]
    exact (Gd.asc (s := [38, 110, 98, 115, 112, 59]) (fun d hd => by
     simp only [List.mem_cons, List.not_mem_nil, or_false] at hd
     rcases hd with rfl | rfl | rfl | rfl | rfl | rfl <;> exact ⟨by decide, by decide, by decide⟩)).app ih
   ·rw [escape_cons q c _ hs, esc_keep q r _ (fun d hd => goes_no (p2 d hd))]
    have : esc1 q c = [c] := by
     unfold esc1
     rw [if_neg (by rintro rfl; exact hc (by decide)), if_neg (by rintro rfl; exact hc (by decide)), if_neg (by rintro rfl; exact hc (by decide)), if_neg (by rintro ⟨rfl, _⟩; exact hc (by decide))]
    rw [this]
    exact (Gd.one ⟨c, r, rfl, h2, h3, h4⟩).app ih
theorem Gd.escape {s : List UInt8} (h : Gd s) (q : Bool) : Gd (escape q s) := by
 obtain ⟨cs, h1, rfl⟩ := h
 exact Gd.esc q cs h1
theorem enc_ch (n : Int) (hv : Utf8.valid n = true) (h0 : n ≠ 0) (h13 : n ≠ 13) : Ch (enc n) := by
 have hn : 0 ≤ n ∧ (n < 55296 ∨ 57344 ≤ n) ∧ n ≤ 1114111 := by
  simp [Utf8.valid] at hv; omega
 obtain ⟨m, rfl⟩ := Int.eq_ofNat_of_zero_le hn.1
 have hn2 : (m < 55296 ∨ 57344 ≤ m) ∧ m ≤ 1114111 := by omega
 have hm0 : m ≠ 0 := by omega
 have hm13 : m ≠ 13 := by omega
 clear h0 h13 hn
 rw [enc_of _ hv, Int.toNat_natCast]
 have nat : ∀ k : Nat, k < 256 → (UInt8.ofNat k).toNat = k := fun k hk => by simp; omega
 by_cases h1 : m < 128
 ·rw [if_pos h1]
  refine ⟨_, _, rfl, ?_, ?_, ?_⟩
  ·unfold right; dsimp only; rw [if_pos (by rw [nat m (by omega)]; exact h1)]; rfl
  ·intro e; have := congrArg UInt8.toNat e; rw [nat m (by omega)] at this; exact hm0 this
  ·intro e; have := congrArg UInt8.toNat e; rw [nat m (by omega)] at this; exact hm13 this
 ·rw [if_neg h1]
  have no : ∀ k : Nat, 128 ≤ k → k < 256 → UInt8.ofNat k ≠ 0 ∧ UInt8.ofNat k ≠ 13 := fun k hk hk2 => by
   constructor
   ·intro e; have := congrArg UInt8.toNat e; rw [nat k hk2] at this; have e0 : (0 : UInt8).toNat = 0 := rfl; omega
   ·intro e; have := congrArg UInt8.toNat e; rw [nat k hk2] at this; have e0 : (13 : UInt8).toNat = 13 := rfl; omega
  have gb : ∀ k : Nat, k < 64 → goesB (UInt8.ofNat (128 + k)) = true := fun k hk => by
   unfold goesB; rw [nat _ (by omega), Bool.and_eq_true, decide_eq_true_eq, decide_eq_true_eq]; omega
  by_cases h2 : m < 2048
  ·rw [if_pos h2]
   refine ⟨_, _, rfl, ?_, no _ (by omega) (by omega)⟩
   have hl : lead (UInt8.ofNat (192 + m / 64)) = (2, 128, 191) := by
    unfold lead; rw [nat _ (by omega), if_pos (by omega)]
   unfold right; dsimp only
   rw [nat _ (by omega), if_neg (by omega), hl]
   simp only [List.getD_cons_zero, nat (128 + m % 64) (by omega), List.length_cons, List.length_nil]
   rw [if_neg (by omega)]; rfl
  ·rw [if_neg h2]
   by_cases h3 : m < 65536
   ·rw [if_pos h3]
    refine ⟨_, _, rfl, ?_, no _ (by omega) (by omega)⟩
    have hl : lead (UInt8.ofNat (224 + m / 4096)) = (3, if 224 + m / 4096 = 224 then 160 else 128, if 224 + m / 4096 = 237 then 159 else 191) := by
     unfold lead; rw [nat _ (by omega), if_neg (by omega), if_pos (by omega)]
    unfold right; dsimp only
    rw [nat _ (by omega), if_neg (by omega), hl]
    simp only [List.getD_cons_zero, nat (128 + m / 64 % 64) (by omega), List.length_cons, List.length_nil]
    have f1 : ¬ (3 = 0 ∨ 0 + 1 + 1 + 1 < 3 ∨ 128 + m / 64 % 64 < (if 224 + m / 4096 = 224 then 160 else 128) ∨ (if 224 + m / 4096 = 237 then 159 else 191) < 128 + m / 64 % 64) := by
     split <;> split <;> omega
    rw [if_neg f1]
    show (if ([UInt8.ofNat (128 + m % 64)].take 1).all goesB = true then 3 else 0) = 3
    rw [if_pos (by rw [List.take_of_length_le (by simp)]; simp only [List.all_cons, List.all_nil, Bool.and_true]; exact gb _ (by omega))]
   ·rw [if_neg h3]
    refine ⟨_, _, rfl, ?_, no _ (by omega) (by omega)⟩
    have hl : lead (UInt8.ofNat (240 + m / 262144)) = (4, if 240 + m / 262144 = 240 then 144 else 128, if 240 + m / 262144 = 244 then 143 else 191) := by
     unfold lead; rw [nat _ (by omega), if_neg (by omega), if_neg (by omega), if_pos (by omega)]
    unfold right; dsimp only
    rw [nat _ (by omega), if_neg (by omega), hl]
    simp only [List.getD_cons_zero, nat (128 + m / 4096 % 64) (by omega), List.length_cons, List.length_nil]
    have f1 : ¬ (4 = 0 ∨ 0 + 1 + 1 + 1 + 1 < 4 ∨ 128 + m / 4096 % 64 < (if 240 + m / 262144 = 240 then 144 else 128) ∨ (if 240 + m / 262144 = 244 then 143 else 191) < 128 + m / 4096 % 64) := by
     split <;> split <;> omega
    rw [if_neg f1]
    show (if ([UInt8.ofNat (128 + m / 64 % 64), UInt8.ofNat (128 + m % 64)].take 2).all goesB = true then 4 else 0) = 4
    rw [if_pos (by rw [List.take_of_length_le (by simp)]; simp only [List.all_cons, List.all_nil, Bool.and_true, Bool.and_eq_true]; exact ⟨gb _ (by omega), gb _ (by omega)⟩)]
theorem tab_ch : ∀ e ∈ nameTab, Utf8.valid e.2 = true ∧ e.2 ≠ 0 ∧ e.2 ≠ 13 := by decide +kernel
theorem fixN_no (n : Int) : fixN n ≠ 0 ∧ fixN n ≠ 13 := by
 unfold fixN
 split
 ·decide
 ·omega
theorem stands_gd {a t : List UInt8} (h : stands a = some t) : Gd t := by
 by_cases hx : ∃ d, a = 35 :: d
 ·obtain ⟨d, rfl⟩ := hx
  rw [stands_hash, Option.map_eq_some_iff] at h
  obtain ⟨n, _, rfl⟩ := h
  have := fixN_no (n : Int)
  exact Gd.one (enc_ch _ (fixN_ok _ (Int.natCast_nonneg n)).2.2 this.1 this.2)
 ·rw [stands_named a (fun d e => hx ⟨d, e⟩)] at h
  unfold named at h
  rw [Option.map_eq_some_iff] at h
  obtain ⟨e, he, rfl⟩ := h
  have := tab_ch e (List.mem_of_find?_eq_some he)
  exact Gd.one (enc_ch _ this.1 this.2.1 this.2.2)
theorem Gd.rsv : ∀ (n : Nat) (cs : List (List UInt8)), (∀ x ∈ cs, Ch x) → cs.flatten.length ≤ n → Gd (resolve cs.flatten)
 | _, [], _, _ => Gd.nil
 | 0, x :: cs, h, hn => by
  obtain ⟨c, r, rfl, _⟩ := h x (by simp)
  simp at hn
 | n + 1, x :: cs, h, hn => by
  obtain ⟨c, r, hxe, h2, h3, h4⟩ := h x (by simp)
  have hx := h x (by simp)
  have hpos : 1 ≤ x.length := by rw [hxe]; simp
  rw [List.flatten_cons, List.length_append] at hn
  by_cases hm : (38 : UInt8) ∈ x
  ·have hx1 : x.length = 1 := by
    by_cases hl : 1 < x.length
    ·have h8 := hx.high hl 38 hm
     exact absurd h8 (by decide)
    ·omega
   obtain ⟨d, rfl⟩ : ∃ d, x = [d] := List.length_eq_one_iff.1 hx1
   rw [List.mem_singleton] at hm
   subst hm
   rw [List.flatten_cons, List.singleton_append, resolve_amp]
   cases ho : oneR cs.flatten with
   | none => exact (Gd.one hx).app (Gd.rsv n cs (fun y hy => h y (by simp [hy])) (by omega))
   | some z =>
    obtain ⟨t, r'⟩ := z
    dsimp only
    by_cases h59 : (59 : UInt8) ∈ cs.flatten.take 11
    ·obtain ⟨a, b, e, ha, hal⟩ := split_take _ h59
     rw [e, oneR_some a b ha hal, Option.map_eq_some_iff] at ho
     obtain ⟨t2, ht2, e2⟩ := ho
     cases e2
     have hb : Gd r' := by
      have e3 : cs.flatten = (a ++ [59]) ++ r' := by rw [e]; simp
      exact (Gd.cut cs (fun y hy => h y (by simp [hy])) _ _ e3 (.inr (.inr (.inr ⟨a, 59, rfl, by decide⟩)))).2
     obtain ⟨cs2, k1, k2⟩ := hb
     have hl2 : cs2.flatten.length ≤ n := by
      rw [← k2]
      have := congrArg List.length e
      rw [List.length_append, List.length_cons] at this
      omega
     rw [k2]
     exact (stands_gd ht2).app (Gd.rsv n cs2 k1 hl2)
    ·rw [oneR_none _ h59] at ho; cases ho
  ·rw [List.flatten_cons, resolve_plain x _ hm]
   exact (Gd.one hx).app (Gd.rsv n cs (fun y hy => h y (by simp [hy])) (by omega))
theorem Gd.resolve {s : List UInt8} (h : Gd s) : Gd (resolve s) := by
 obtain ⟨cs, h1, rfl⟩ := h
 exact Gd.rsv _ cs h1 (Nat.le_refl _)
def fixF : Nat → List UInt8 → List UInt8
 | 0, _ => []
 | _ + 1, [] => []
 | n + 1, c :: r => if right (c :: r) = 0 ∨ c = 0 then [239, 191, 189] ++ fixF n ((c :: r).drop (max (right (c :: r)) 1))
  else if c = 13 then (if hdN r = 10 then [] else [10]) ++ fixF n r
  else (c :: r).take (right (c :: r)) ++ fixF n ((c :: r).drop (right (c :: r)))
where hdN : List UInt8 → UInt8
 | [] => 0
 | c :: _ => c
def fixB (s : List UInt8) : List UInt8 := fixF s.length s
theorem fixF_fuel : ∀ (n m : Nat) (s : List UInt8), s.length ≤ n → s.length ≤ m → fixF n s = fixF m s
 | 0, 0, _, _, _ => rfl
 | 0, m + 1, s, h, _ => by
  have : s = [] := List.length_eq_zero_iff.1 (by omega)
  subst this; rfl
 | n + 1, 0, s, _, h => by
  have : s = [] := List.length_eq_zero_iff.1 (by omega)
  subst this; rfl
 | n + 1, m + 1, [], _, _ => rfl
 | n + 1, m + 1, c :: r, h1, h2 => by
  rw [List.length_cons] at h1 h2
  unfold fixF
  by_cases h0 : right (c :: r) = 0 ∨ c = 0
  ·rw [if_pos h0, if_pos h0, fixF_fuel n m _ (by rw [List.length_drop, List.length_cons]; omega) (by rw [List.length_drop, List.length_cons]; omega)]
  ·rw [if_neg h0, if_neg h0, fixF_fuel n m r (by omega) (by omega)]
   have hp : 1 ≤ right (c :: r) := by
    have : right (c :: r) ≠ 0 := fun e => h0 (.inl e)
    omega
   rw [fixF_fuel n m ((c :: r).drop (right (c :: r))) (by rw [List.length_drop, List.length_cons]; omega) (by rw [List.length_drop, List.length_cons]; omega)]
theorem fixB_nil : fixB [] = [] := rfl
theorem fixB_cons (c : UInt8) (r : List UInt8) : fixB (c :: r) = if right (c :: r) = 0 ∨ c = 0 then [239, 191, 189] ++ fixB ((c :: r).drop (max (right (c :: r)) 1))
  else if c = 13 then (if fixF.hdN r = 10 then [] else [10]) ++ fixB r
  else (c :: r).take (right (c :: r)) ++ fixB ((c :: r).drop (right (c :: r))) := by
 show fixF (r.length + 1) (c :: r) = _
 rw [fixF]
 by_cases h0 : right (c :: r) = 0 ∨ c = 0
 ·rw [if_pos h0, if_pos h0, fixF_fuel r.length _ _ (by rw [List.length_drop, List.length_cons]; omega) (Nat.le_refl _)]; rfl
 ·rw [if_neg h0, if_neg h0]
  have hp : 1 ≤ right (c :: r) := by
   have : right (c :: r) ≠ 0 := fun e => h0 (.inl e)
   omega
  rw [fixF_fuel r.length _ ((c :: r).drop (right (c :: r))) (by rw [List.length_drop, List.length_cons]; omega) (Nat.le_refl _)]; rfl
theorem fixB_len : ∀ (n : Nat) (s : List UInt8), s.length ≤ n → (fixB s).length ≤ 3 * s.length
 | _, [], _ => Nat.le_refl _
 | 0, c :: r, h => by simp at h
 | n + 1, c :: r, h => by
  rw [List.length_cons] at h
  have hle := right_le (c :: r)
  rw [List.length_cons] at hle
  rw [fixB_cons]
  by_cases h0 : right (c :: r) = 0 ∨ c = 0
  ·rw [if_pos h0]
   have := fixB_len n ((c :: r).drop (max (right (c :: r)) 1)) (by rw [List.length_drop, List.length_cons]; omega)
   rw [List.length_drop, List.length_cons] at this
   simp only [List.length_append, List.length_cons, List.length_nil]; omega
  ·rw [if_neg h0]
   have hne : right (c :: r) ≠ 0 := fun e => h0 (.inl e)
   by_cases h13 : c = 13
   ·rw [if_pos h13]
    have := fixB_len n r (by omega)
    split <;> simp only [List.length_append, List.length_cons, List.length_nil] <;> omega
   ·rw [if_neg h13]
    have := fixB_len n ((c :: r).drop (right (c :: r))) (by rw [List.length_drop, List.length_cons]; omega)
    rw [List.length_drop, List.length_cons] at this
    simp only [List.length_append, List.length_take, List.length_cons]; omega
theorem get_at (s : List UInt8) (k j : Nat) : (ByteArray.get! ⟨s.toArray⟩ (k + j)) = (s.drop k).getD j 0 := by
 rw [List.getD_eq_getElem?_getD, List.getElem?_drop]
 show s.toArray[k + j]! = _
 rw [List.getElem!_toArray, List.getElem!_eq_getElem?_getD]; rfl
def decL (t : List UInt8) : Nat × Nat :=
 let a := (t.getD 0 0).toNat
 let b := (t.getD 1 0).toNat
 let c := (t.getD 2 0).toNat
 let d := (t.getD 3 0).toNat
 if a < 128 then (a, 1)
 else if a / 32 = 6 ∧ 1 < t.length ∧ b / 64 = 2 then
  if 128 ≤ (a % 32) * 64 + b % 64 then ((a % 32) * 64 + b % 64, 2) else (65533, 1)
 else if a / 16 = 14 ∧ (1 < t.length ∧ b / 64 = 2) ∧ 2 < t.length ∧ c / 64 = 2 then
  if 2048 ≤ (a % 16) * 4096 + (b % 64) * 64 + c % 64 ∧ Utf8.valid (((a % 16) * 4096 + (b % 64) * 64 + c % 64 : Nat) : Int) = true then ((a % 16) * 4096 + (b % 64) * 64 + c % 64, 3) else (65533, 1)
 else if a / 8 = 30 ∧ ((1 < t.length ∧ b / 64 = 2) ∧ 2 < t.length ∧ c / 64 = 2) ∧ 3 < t.length ∧ d / 64 = 2 then
  if 65536 ≤ (a % 8) * 262144 + (b % 64) * 4096 + (c % 64) * 64 + d % 64 ∧ Utf8.valid (((a % 8) * 262144 + (b % 64) * 4096 + (c % 64) * 64 + d % 64 : Nat) : Int) = true then ((a % 8) * 262144 + (b % 64) * 4096 + (c % 64) * 64 + d % 64, 4) else (65533, 1)
 else (65533, 1)
theorem decode_eq (s : List UInt8) (k : Nat) : Utf8.decode ⟨s.toArray⟩ k = decL (s.drop k) := by
 have hs : (ByteArray.mk s.toArray).size = s.length := by simp [ByteArray.size]
 have hc : ∀ j, (decide (k + j < s.length)) = decide (j < (s.drop k).length) := fun j => decide_eq_decide.2 (by rw [List.length_drop]; omega)
 unfold Utf8.decode decL
 simp only [get_at, hs, Utf8.runeError, Bool.and_eq_true, decide_eq_true_eq, beq_iff_eq, hc, ge_iff_le, and_assoc]
theorem valid_iff (n : Nat) : Utf8.valid (n : Int) = true ↔ (n < 55296 ∨ (57344 ≤ n ∧ n ≤ 1114111)) := by
 simp [Utf8.valid]; omega
theorem ofNat_eq {c : UInt8} {n : Nat} (h : c.toNat = n) : UInt8.ofNat n = c := by subst h; simp
theorem all_one {r : List UInt8} (h : 2 ≤ r.length) : ((r.drop 1).take 1).all goesB = goesB (r.getD 1 0) := by
 rcases r with _ | ⟨b, _ | ⟨e, r⟩⟩
 ·simp at h
 ·simp at h
 ·simp
theorem all_two {r : List UInt8} (h : 3 ≤ r.length) : ((r.drop 1).take 2).all goesB = (goesB (r.getD 1 0) && goesB (r.getD 2 0)) := by
 rcases r with _ | ⟨b, _ | ⟨e, _ | ⟨d, r⟩⟩⟩
 ·simp at h
 ·simp at h
 ·simp at h
 ·simp
theorem goes_iff (c : UInt8) : goesB c = true ↔ 128 ≤ c.toNat ∧ c.toNat ≤ 191 := by
 unfold goesB; rw [Bool.and_eq_true, decide_eq_true_eq, decide_eq_true_eq]
def rightA (a n b e d : Nat) : Nat :=
 if a < 128 then 1
 else if (194 ≤ a ∧ a ≤ 223) ∧ 1 ≤ n ∧ 128 ≤ b ∧ b ≤ 191 then 2
 else if (224 ≤ a ∧ a ≤ 239) ∧ 2 ≤ n ∧ (if a = 224 then 160 else 128) ≤ b ∧ b ≤ (if a = 237 then 159 else 191) ∧ 128 ≤ e ∧ e ≤ 191 then 3
 else if (240 ≤ a ∧ a ≤ 244) ∧ 3 ≤ n ∧ (if a = 240 then 144 else 128) ≤ b ∧ b ≤ (if a = 244 then 143 else 191) ∧ (128 ≤ e ∧ e ≤ 191) ∧ 128 ≤ d ∧ d ≤ 191 then 4
 else 0
theorem right_arith (c : UInt8) (r : List UInt8) : right (c :: r) = rightA c.toNat r.length (r.getD 0 0).toNat (r.getD 1 0).toNat (r.getD 2 0).toNat := by
 have e1 := goes_iff (r.getD 1 0)
 have e2 := goes_iff (r.getD 2 0)
 unfold right rightA
 dsimp only
 by_cases h0 : c.toNat < 128
 ·rw [if_pos h0, if_pos h0]
 rw [if_neg h0, if_neg h0, List.length_cons]
 unfold lead
 by_cases k2 : 194 ≤ c.toNat ∧ c.toNat ≤ 223
 ·rw [if_pos k2]
  dsimp only
  by_cases hc : 2 = 0 ∨ r.length + 1 < 2 ∨ (r.getD 0 0).toNat < 128 ∨ 191 < (r.getD 0 0).toNat
  ·rw [if_pos hc, if_neg (by omega), if_neg (by omega), if_neg (by omega)]
  ·rw [if_neg hc, show (2 : Nat) - 2 = 0 from rfl, List.take_zero, if_pos (show ([] : List UInt8).all goesB = true from rfl), if_pos (by omega)]
 ·rw [if_neg k2]
  by_cases k3 : 224 ≤ c.toNat ∧ c.toNat ≤ 239
  ·rw [if_pos k3]
   dsimp only
   rw [if_neg (fun h : (194 ≤ c.toNat ∧ c.toNat ≤ 223) ∧ _ => k2 h.1)]
   generalize (if c.toNat = 224 then 160 else 128) = lo
   generalize (if c.toNat = 237 then 159 else 191) = hi
   by_cases hc : 3 = 0 ∨ r.length + 1 < 3 ∨ (r.getD 0 0).toNat < lo ∨ hi < (r.getD 0 0).toNat
   ·rw [if_pos hc, if_neg (by omega), if_neg (fun h => by omega)]
   ·rw [if_neg hc, show 3 - 2 = 1 from rfl, all_one (by omega)]
    by_cases hg : goesB (r.getD 1 0) = true
    ·rw [if_pos hg, if_pos (by have := e1.1 hg; omega)]
    ·have hg2 : ¬ (128 ≤ (r.getD 1 0).toNat ∧ (r.getD 1 0).toNat ≤ 191) := fun h => hg (e1.2 h)
     rw [if_neg hg, if_neg (by omega), if_neg (fun h => by omega)]
  ·rw [if_neg k3]
   by_cases k4 : 240 ≤ c.toNat ∧ c.toNat ≤ 244
   ·rw [if_pos k4]
    dsimp only
    rw [if_neg (fun h : (194 ≤ c.toNat ∧ c.toNat ≤ 223) ∧ _ => k2 h.1), if_neg (fun h : (224 ≤ c.toNat ∧ c.toNat ≤ 239) ∧ _ => k3 h.1)]
    generalize (if c.toNat = 240 then 144 else 128) = lo
    generalize (if c.toNat = 244 then 143 else 191) = hi
    by_cases hc : 4 = 0 ∨ r.length + 1 < 4 ∨ (r.getD 0 0).toNat < lo ∨ hi < (r.getD 0 0).toNat
    ·rw [if_pos hc, if_neg (by omega)]
    ·rw [if_neg hc, show 4 - 2 = 2 from rfl, all_two (by omega)]
     by_cases hg : (goesB (r.getD 1 0) && goesB (r.getD 2 0)) = true
     ·have hg1 := hg
      rw [Bool.and_eq_true, e1, e2] at hg1
      rw [if_pos hg, if_pos (by omega)]
     ·have hg2 : ¬ ((128 ≤ (r.getD 1 0).toNat ∧ (r.getD 1 0).toNat ≤ 191) ∧ 128 ≤ (r.getD 2 0).toNat ∧ (r.getD 2 0).toNat ≤ 191) := fun h => hg (by rw [Bool.and_eq_true, e1, e2]; exact h)
      rw [if_neg hg, if_neg (by omega)]
   ·rw [if_neg k4]
    dsimp only
    rw [if_pos (.inl rfl), if_neg (fun h : (194 ≤ c.toNat ∧ c.toNat ≤ 223) ∧ _ => k2 h.1), if_neg (fun h : (224 ≤ c.toNat ∧ c.toNat ≤ 239) ∧ _ => k3 h.1), if_neg (fun h : (240 ≤ c.toNat ∧ c.toNat ≤ 244) ∧ _ => k4 h.1)]
def decA (a n b c d : Nat) : Nat × Nat :=
 if a < 128 then (a, 1)
 else if a / 32 = 6 ∧ 1 ≤ n ∧ b / 64 = 2 then
  if 128 ≤ (a % 32) * 64 + b % 64 then ((a % 32) * 64 + b % 64, 2) else (65533, 1)
 else if a / 16 = 14 ∧ (1 ≤ n ∧ b / 64 = 2) ∧ 2 ≤ n ∧ c / 64 = 2 then
  if 2048 ≤ (a % 16) * 4096 + (b % 64) * 64 + c % 64 ∧ ((a % 16) * 4096 + (b % 64) * 64 + c % 64 < 55296 ∨ (57344 ≤ (a % 16) * 4096 + (b % 64) * 64 + c % 64 ∧ (a % 16) * 4096 + (b % 64) * 64 + c % 64 ≤ 1114111)) then ((a % 16) * 4096 + (b % 64) * 64 + c % 64, 3) else (65533, 1)
 else if a / 8 = 30 ∧ ((1 ≤ n ∧ b / 64 = 2) ∧ 2 ≤ n ∧ c / 64 = 2) ∧ 3 ≤ n ∧ d / 64 = 2 then
  if 65536 ≤ (a % 8) * 262144 + (b % 64) * 4096 + (c % 64) * 64 + d % 64 ∧ ((a % 8) * 262144 + (b % 64) * 4096 + (c % 64) * 64 + d % 64 < 55296 ∨ (57344 ≤ (a % 8) * 262144 + (b % 64) * 4096 + (c % 64) * 64 + d % 64 ∧ (a % 8) * 262144 + (b % 64) * 4096 + (c % 64) * 64 + d % 64 ≤ 1114111)) then ((a % 8) * 262144 + (b % 64) * 4096 + (c % 64) * 64 + d % 64, 4) else (65533, 1)
 else (65533, 1)
theorem decL_arith (c : UInt8) (r : List UInt8) : decL (c :: r) = decA c.toNat r.length (r.getD 0 0).toNat (r.getD 1 0).toNat (r.getD 2 0).toNat := by
 unfold decL decA
 simp only [List.getD_cons_zero, List.getD_cons_succ, List.length_cons, valid_iff]
 simp only [show ∀ n m : Nat, (n + 1 < m + 1) ↔ (n + 1 ≤ m) from fun n m => by omega, show ∀ m : Nat, (1 < m + 1) ↔ (1 ≤ m) from fun m => by omega, show ∀ m : Nat, (2 < m + 1) ↔ (2 ≤ m) from fun m => by omega, show ∀ m : Nat, (3 < m + 1) ↔ (3 ≤ m) from fun m => by omega]
theorem dec_arith (a n b e d : Nat) (ha : a < 256) (hb : b < 256) (he : e < 256) (hd : d < 256) : (rightA a n b e d = 0 ∧ decA a n b e d = (65533, 1)) ∨
    (∃ m : Nat, decA a n b e d = (m, rightA a n b e d) ∧ (m < 55296 ∨ (57344 ≤ m ∧ m ≤ 1114111)) ∧
      ((rightA a n b e d = 1 ∧ m < 128 ∧ a = m) ∨ (rightA a n b e d = 2 ∧ 1 ≤ n ∧ 128 ≤ m ∧ m < 2048 ∧ a = 192 + m / 64 ∧ b = 128 + m % 64) ∨
       (rightA a n b e d = 3 ∧ 2 ≤ n ∧ 2048 ≤ m ∧ m < 65536 ∧ a = 224 + m / 4096 ∧ b = 128 + m / 64 % 64 ∧ e = 128 + m % 64) ∨
       (rightA a n b e d = 4 ∧ 3 ≤ n ∧ 65536 ≤ m ∧ a = 240 + m / 262144 ∧ b = 128 + m / 4096 % 64 ∧ e = 128 + m / 64 % 64 ∧ d = 128 + m % 64))) := by
  unfold rightA decA
  by_cases h0 : a < 128
  · rw [if_pos h0, if_pos h0]
    exact .inr ⟨a, rfl, by omega, .inl ⟨rfl, h0, rfl⟩⟩
  rw [if_neg h0, if_neg h0]
  by_cases k2 : a / 32 = 6 ∧ 1 ≤ n ∧ b / 64 = 2
  · rw [if_pos k2]
    by_cases k : 128 ≤ (a % 32) * 64 + b % 64
    · rw [if_pos k, if_pos (by omega)]
      exact .inr ⟨_, rfl, by omega, .inr (.inl ⟨rfl, by omega, k, by omega, by omega, by omega⟩)⟩
    · rw [if_neg k, if_neg (by omega), if_neg (by omega), if_neg (by omega)]
      exact .inl ⟨rfl, rfl⟩
  · rw [if_neg k2, if_neg (show ¬ ((194 ≤ a ∧ a ≤ 223) ∧ 1 ≤ n ∧ 128 ≤ b ∧ b ≤ 191) by omega)]
    by_cases k3 : a / 16 = 14 ∧ (1 ≤ n ∧ b / 64 = 2) ∧ 2 ≤ n ∧ e / 64 = 2
    · rw [if_pos k3]
      by_cases k : 2048 ≤ (a % 16) * 4096 + (b % 64) * 64 + e % 64 ∧ ((a % 16) * 4096 + (b % 64) * 64 + e % 64 < 55296 ∨ (57344 ≤ (a % 16) * 4096 + (b % 64) * 64 + e % 64 ∧ (a % 16) * 4096 + (b % 64) * 64 + e % 64 ≤ 1114111))
      · rw [if_pos k, if_pos (by refine ⟨by omega, by omega, ?_, ?_, by omega, by omega⟩ <;> split <;> omega)]
        exact .inr ⟨_, rfl, by omega, .inr (.inr (.inl ⟨rfl, by omega, k.1, by omega, by omega, by omega, by omega⟩))⟩
      · rw [if_neg k, if_neg (fun h => by
          obtain ⟨h1, h2, h3, h4, h5, h6⟩ := h
          by_cases x1 : a = 224
          · rw [if_pos x1] at h3; rw [if_neg (by omega)] at h4; omega
          · rw [if_neg x1] at h3
            by_cases x2 : a = 237
            · rw [if_pos x2] at h4; omega
            · rw [if_neg x2] at h4; omega), if_neg (by omega)]
        exact .inl ⟨rfl, rfl⟩
    · rw [if_neg k3, if_neg (fun h => by
          obtain ⟨h1, h2, h3, h4, h5, h6⟩ := h
          have : 128 ≤ b ∧ b ≤ 191 := by
            refine ⟨?_, ?_⟩
            · split at h3 <;> omega
            · split at h4 <;> omega
          omega)]
      by_cases k4 : a / 8 = 30 ∧ ((1 ≤ n ∧ b / 64 = 2) ∧ 2 ≤ n ∧ e / 64 = 2) ∧ 3 ≤ n ∧ d / 64 = 2
      · rw [if_pos k4]
        by_cases k : 65536 ≤ (a % 8) * 262144 + (b % 64) * 4096 + (e % 64) * 64 + d % 64 ∧ ((a % 8) * 262144 + (b % 64) * 4096 + (e % 64) * 64 + d % 64 < 55296 ∨ (57344 ≤ (a % 8) * 262144 + (b % 64) * 4096 + (e % 64) * 64 + d % 64 ∧ (a % 8) * 262144 + (b % 64) * 4096 + (e % 64) * 64 + d % 64 ≤ 1114111))
        · rw [if_pos k, if_pos (by refine ⟨by omega, by omega, ?_, ?_, by omega, by omega⟩ <;> split <;> omega)]
          exact .inr ⟨_, rfl, by omega, .inr (.inr (.inr ⟨rfl, by omega, k.1, by omega, by omega, by omega, by omega⟩))⟩
        · rw [if_neg k, if_neg (fun h => by
            obtain ⟨h1, h2, h3, h4, h5, h6⟩ := h
            by_cases x1 : a = 240
            · rw [if_pos x1] at h3; rw [if_neg (by omega)] at h4; omega
            · rw [if_neg x1] at h3
              by_cases x2 : a = 244
              · rw [if_pos x2] at h4; omega
              · rw [if_neg x2] at h4; omega)]
          exact .inl ⟨rfl, rfl⟩
      · rw [if_neg k4, if_neg (fun h => by
          obtain ⟨h1, h2, h3, h4, h5, h6⟩ := h
          have : 128 ≤ b ∧ b ≤ 191 := by
            refine ⟨?_, ?_⟩
            · split at h3 <;> omega
            · split at h4 <;> omega
          omega)]
        exact .inl ⟨rfl, rfl⟩
theorem dec_right (c : UInt8) (r : List UInt8) : (right (c :: r) = 0 ∧ decL (c :: r) = (65533, 1)) ∨ (right (c :: r) ≠ 0 ∧ ∃ m : Nat, decL (c :: r) = (m, right (c :: r)) ∧ Utf8.valid (m : Int) = true ∧ enc (m : Int) = (c :: r).take (right (c :: r)) ∧ ((m < 128 ∧ c.toNat = m) ∨ (128 ≤ m ∧ 128 ≤ c.toNat)) ∧ m ≤ 1114111) := by
 have h := dec_arith c.toNat r.length (r.getD 0 0).toNat (r.getD 1 0).toNat (r.getD 2 0).toNat c.toNat_lt (r.getD 0 0).toNat_lt (r.getD 1 0).toNat_lt (r.getD 2 0).toNat_lt
 rw [← right_arith, ← decL_arith] at h
 rcases h with h | ⟨m, h1, h2, h3⟩
 ·exact .inl h
 ·have hv : Utf8.valid (m : Int) = true := (valid_iff m).2 h2
  have he := enc_of (m : Int) hv
  rw [Int.toNat_natCast] at he
  refine .inr ⟨by omega, m, h1, hv, ?_, by omega, by omega⟩
  rw [he]
  rcases h3 with ⟨e0, e1, e2⟩ | ⟨e0, en, e1, e2, e3, e4⟩ | ⟨e0, en, e1, e2, e3, e4, e5⟩ | ⟨e0, en, e1, e3, e4, e5, e6⟩
  ·rw [if_pos e1, e0, ofNat_eq e2]; rfl
  ·rw [if_neg (by omega), if_pos e2, e0, ofNat_eq e3, ofNat_eq e4]
   cases r with
   | nil => simp at en
   | cons x r => rfl
  ·rw [if_neg (by omega), if_neg (by omega), if_pos e2, e0, ofNat_eq e3, ofNat_eq e4, ofNat_eq e5]
   rcases r with _ | ⟨x, _ | ⟨y, r⟩⟩
   ·simp at en
   ·simp at en
   ·rfl
  ·rw [if_neg (by omega), if_neg (by omega), if_neg (by omega), e0, ofNat_eq e3, ofNat_eq e4, ofNat_eq e5, ofNat_eq e6]
   rcases r with _ | ⟨x, _ | ⟨y, _ | ⟨z, r⟩⟩⟩
   ·simp at en
   ·simp at en
   ·simp at en
   ·rfl
def bufO (s : List UInt8) : Ob := .rows (1, 5) (bytesA s)
theorem bufO_rel {f : Nat → Option VE} (s : List UInt8) : orel f (bufO s) (bufO s) := ⟨rfl, .inl ⟨rfl, bytesA_pure _⟩⟩
abbrev bufS (s : List UInt8) : Store := ⟨1, [(0, bufO s)]⟩
abbrev bufS1 (s : List UInt8) : Store := ⟨2, [(1, bufO s)]⟩
theorem buf_up {σ0 : Store} {r r' : AV} (s : List UInt8) (hr : vrel (upf 1 [0]) r' r) : FinMove σ0 r (bufS s) r' (bufS1 s) :=
 fin_ups [0] rfl (by decide) ⟨rfl, trivial⟩ ⟨fun h => (by cases h), trivial⟩ ⟨bufO_rel (f := upf 1 [0]) s, trivial⟩ hr
def RunC (P : Program) (g : FuncId) (args : List AV) (l l' : List UInt8) : Prop := CallsAbs P g args (bufS l) fun r σ' => r = .own 1 0 l'.length ∧ σ' = bufS1 l'
theorem RunC.use {P : Program} {g : FuncId} {args args0 : List AV} {l l' : List UInt8} (h : RunC P g args0 l l') {σ : Store} {K : AV → Store → Prop} (i n0 n1 : Nat)
  (e0 : σ.n = n0) (e1 : n0 + 1 = n1) (hg : goodr 0 σ.n [.old i] = true) (hi : σ.get i = bufO l) (ha : vrelL (phi 0 [.old i]) args0 args)
  (hK : K (.own n0 0 l'.length) ⟨n1, (n0, bufO l') :: (i, .dead) :: σ.objs⟩) : CallsAbs P g args σ K := by
 subst e0; subst e1
 have p0 : phi 0 [.old i] 0 = some (.old i) := rfl
 have hin : i < σ.n := (good_nth (r := [.old i]) (j := 0) hg rfl).2
 have x0 := idx_of_nth (B := 0) (n := σ.n) (r := [.old i]) (j := 0) (k := i) (a := 0) hg rfl
 refine CallsAbs.frame h [.old i] ⟨Nat.zero_le _, rfl, hg, ⟨?_, trivial⟩⟩ ha ?_
 ·show entry _ _ 0 _; unfold entry; rw [p0]; dsimp only; rw [hi]; exact bufO_rel _
 ·rintro _ _ ⟨rfl, rfl⟩
  have bl : back [.old i] σ.n 1 2 i = some (.old 0) := by
   unfold back
   have : Nat.ble σ.n i = false := by
    cases hb : Nat.ble σ.n i with
    | false => rfl
    | true => have := Nat.le_of_ble_eq_true hb; omega
   rw [this]; dsimp only; rw [x0]
  have bh : back [.old i] σ.n 1 2 σ.n = some (.old 1) := by
   unfold back
   rw [Nat.ble_eq_true_of_le (Nat.le_refl _)]
   dsimp only
   rw [Nat.ble_eq_true_of_le (by omega : σ.n + 1 + 1 ≤ 2 + σ.n)]
   dsimp only
   rw [show σ.n + 1 - σ.n = 1 by omega]
  refine ⟨.own σ.n 0 l'.length, [(σ.n, bufO l'), (i, .dead)], ⟨?_, ?_, trivial⟩, ?_, ⟨bh, rfl, rfl⟩, hK⟩
  ·unfold entry; rw [bh]; exact bufO_rel _
  ·unfold entry; rw [bl]; trivial
  ·have hb : ∀ k, Nat.beq k k = true := Nat.beq_refl
   simp [covers, keys, hb]
theorem rowsAll {l : List (List AV)} {n : Nat} (h : (l.all fun r => Nat.beq r.length n && r.all AV.one) = true) : ∀ row ∈ l, row.length = n ∧ ∀ a ∈ row, a.one = true := fun row hr => by
 have := List.all_eq_true.1 h row hr
 rw [Bool.and_eq_true] at this
 exact ⟨Nat.eq_of_beq_eq_true this.1, fun a ha => List.all_eq_true.1 this.2 a ha⟩
theorem or_192 : ∀ y : Nat, y < 32 → IntKind.u8.wrap ((BitVec.ofInt IntKind.u8.bits 192 ||| BitVec.ofInt IntKind.u8.bits (y : Int)).toNat : Int) = ((192 + y : Nat) : Int) := by decide +kernel
theorem or_224 : ∀ y : Nat, y < 16 → IntKind.u8.wrap ((BitVec.ofInt IntKind.u8.bits 224 ||| BitVec.ofInt IntKind.u8.bits (y : Int)).toNat : Int) = ((224 + y : Nat) : Int) := by decide +kernel
theorem or_240 : ∀ y : Nat, y < 8 → IntKind.u8.wrap ((BitVec.ofInt IntKind.u8.bits 240 ||| BitVec.ofInt IntKind.u8.bits (y : Int)).toNat : Int) = ((240 + y : Nat) : Int) := by decide +kernel
theorem or_128 : ∀ y : Nat, y < 64 → IntKind.u8.wrap ((BitVec.ofInt IntKind.u8.bits 128 ||| BitVec.ofInt IntKind.u8.bits (y : Int)).toNat : Int) = ((128 + y : Nat) : Int) := by decide +kernel
theorem and_63 : ∀ y : Nat, y < 256 → IntKind.u8.wrap ((BitVec.ofInt IntKind.u8.bits (y : Int) &&& BitVec.ofInt IntKind.u8.bits 63).toNat : Int) = ((y % 64 : Nat) : Int) := by decide +kernel
theorem wrap_u8 (n : Nat) : IntKind.u8.wrap (n : Int) = ((n % 256 : Nat) : Int) := by
 simp [IntKind.wrap, IntKind.signed, IntKind.bits]
theorem shr_k (m : Nat) (k : Int) (q : Nat) (h : (2 : Int) ^ (min k.toNat IntKind.i32.bits) = (q : Int)) : Int.fdiv (m : Int) ((2 : Int) ^ (min k.toNat IntKind.i32.bits)) = ((m / q : Nat) : Int) := by
 rw [h, Int.fdiv_eq_ediv_of_nonneg _ (by omega)]; rfl
theorem b_nat (k : Nat) (h : k < 256) : (((UInt8.ofNat k).toNat : Nat) : Int) = (k : Int) := by
 have : (UInt8.ofNat k).toNat = k := by simp; omega
 rw [this]
theorem low_six (x : Nat) : IntKind.u8.wrap ((BitVec.ofInt IntKind.u8.bits 128 ||| BitVec.ofInt IntKind.u8.bits (IntKind.u8.wrap ((BitVec.ofInt IntKind.u8.bits (IntKind.u8.wrap (x : Int)) &&& BitVec.ofInt IntKind.u8.bits 63).toNat : Int))).toNat : Int) = ((128 + x % 64 : Nat) : Int) := by
 rw [wrap_u8 x, and_63 _ (Nat.mod_lt _ (by decide)), or_128 _ (Nat.mod_lt _ (by decide)), show x % 256 % 64 = x % 64 by omega]
set_option maxRecDepth 100000 in
set_option maxHeartbeats 2000000 in
theorem runeN_ok (s : List UInt8) (m : Nat) (hv : Utf8.valid (m : Int) = true) (h128 : 128 ≤ m) (hs : s.length ≤ 1000000000) : RunC Tryz.prog 151 [.own 0 0 s.length, .d (.int .i32 m)] s (s ++ enc (m : Int)) := by
 have hm := (valid_iff m).1 hv
 have hl := bytesA_len s
 rw [enc_of _ hv, Int.toNat_natCast, if_neg (by omega)]
 unfold RunC
 by_cases h1 : m < 2048
 ·rw [if_pos h1]
  refine fn_okTE Tryz.wf Tryz.tab_ok Tryz.func151 (by decide +kernel) rfl rfl ?_
  refine E.fm (s' := [(0, .own 1 0 s.length), (1, .d (.int .i32 m))]) (σ' := bufS1 s) (buf_up s ⟨⟨rfl, rfl, rfl⟩, rfl, trivial⟩) ?_
  refine E.of Tryz.wf Tryz.tab_ok ?_
  refine wR (k := ?_)
  rw [shr_k m 6 64 (by decide)]
  refine wR (k := ?_)
  refine .inr ?_
  refine wR (k := ?_)
  refine ⟨bytesA s, _, congrArg some (takeAll hl), rfl, (show srcLen (.own 1 0 s.length) _ from hl), rfl, (by rw [hl]; show (s.length + 2) * 1 ≤ 140737488355328; omega), Nat.le_of_ble_eq_true rfl, Nat.le_of_ble_eq_true rfl, rfl, rfl, bytesRows s, rowsAll rfl, ?_⟩
  refine wR (k := ?_)
  exact ⟨.own 1 0 (s ++ [UInt8.ofNat (192 + m / 64), UInt8.ofNat (128 + m % 64)]).length, bufS1 (s ++ [UInt8.ofNat (192 + m / 64), UInt8.ofNat (128 + m % 64)]), fin_mv [.old 3] rfl rfl rfl ⟨⟨rfl, .inl ⟨by
   rw [bytesA_append]
   show bytesA s ++ [[AV.d (.int .u8 ((UInt8.ofNat (192 + m / 64)).toNat : Nat))], [AV.d (.int .u8 ((UInt8.ofNat (128 + m % 64)).toNat : Nat))]] = _
   rw [b_nat (192 + m / 64) (by omega), b_nat (128 + m % 64) (by omega)]
   rw [← or_192 (m / 64) (by omega), ← low_six m]
   rfl, bytesA_pure _⟩⟩, trivial⟩ ⟨rfl, rfl, by rw [List.length_append, hl]; rfl⟩, rfl, rfl⟩
 ·rw [if_neg h1]
  by_cases h2 : m < 65536
  ·rw [if_pos h2]
   refine fn_okTE Tryz.wf Tryz.tab_ok Tryz.func151 (by decide +kernel) rfl rfl ?_
   refine E.fm (s' := [(0, .own 1 0 s.length), (1, .d (.int .i32 m))]) (σ' := bufS1 s) (buf_up s ⟨⟨rfl, rfl, rfl⟩, rfl, trivial⟩) ?_
   refine E.of Tryz.wf Tryz.tab_ok ?_
   rcases hm with hm | hm
   ·have hm2 : (m : Int) < 55296 := by omega
    have hm3 : ¬ (m : Int) ≤ 2047 := by omega
    repeat refine wD ?_
    refine wR (k := ?_)
    rw [shr_k m 12 4096 (by decide)]
    refine wR (k := ?_)
    rw [shr_k m 6 64 (by decide)]
    refine .inr ?_
    refine wR (k := ?_)
    refine .inr ?_
    refine wR (k := ?_)
    refine ⟨bytesA s, _, congrArg some (takeAll hl), rfl, (show srcLen (.own 1 0 s.length) _ from hl), rfl, (by rw [hl]; show (s.length + 3) * 1 ≤ 140737488355328; omega), Nat.le_of_ble_eq_true rfl, Nat.le_of_ble_eq_true rfl, rfl, rfl, bytesRows s, rowsAll rfl, ?_⟩
    refine wR (k := ?_)
    exact ⟨.own 1 0 (s ++ [UInt8.ofNat (224 + m / 4096), UInt8.ofNat (128 + m / 64 % 64), UInt8.ofNat (128 + m % 64)]).length, bufS1 (s ++ [UInt8.ofNat (224 + m / 4096), UInt8.ofNat (128 + m / 64 % 64), UInt8.ofNat (128 + m % 64)]), fin_mv [.old 3] rfl rfl rfl ⟨⟨rfl, .inl ⟨by
     rw [bytesA_append]
     show bytesA s ++ [[AV.d (.int .u8 ((UInt8.ofNat (224 + m / 4096)).toNat : Nat))], [AV.d (.int .u8 ((UInt8.ofNat (128 + m / 64 % 64)).toNat : Nat))], [AV.d (.int .u8 ((UInt8.ofNat (128 + m % 64)).toNat : Nat))]] = _
     rw [b_nat (224 + m / 4096) (by omega), b_nat (128 + m / 64 % 64) (by omega), b_nat (128 + m % 64) (by omega)]
     rw [← or_224 (m / 4096) (by omega), ← low_six (m / 64), ← low_six m]
     rfl, bytesA_pure _⟩⟩, trivial⟩ ⟨rfl, rfl, by rw [List.length_append, hl]; rfl⟩, rfl, rfl⟩
   ·have hm2 : ¬ (m : Int) < 55296 := by omega
    have hm3 : ¬ (m : Int) ≤ 2047 := by omega
    have hm4 : (57343 : Int) < m := by omega
    have hm5 : (m : Int) ≤ 65535 := by omega
    repeat refine wD ?_
    refine wR (k := ?_)
    rw [shr_k m 12 4096 (by decide)]
    refine wR (k := ?_)
    rw [shr_k m 6 64 (by decide)]
    refine .inr ?_
    refine wR (k := ?_)
    refine .inr ?_
    refine wR (k := ?_)
    refine ⟨bytesA s, _, congrArg some (takeAll hl), rfl, (show srcLen (.own 1 0 s.length) _ from hl), rfl, (by rw [hl]; show (s.length + 3) * 1 ≤ 140737488355328; omega), Nat.le_of_ble_eq_true rfl, Nat.le_of_ble_eq_true rfl, rfl, rfl, bytesRows s, rowsAll rfl, ?_⟩
    refine wR (k := ?_)
    exact ⟨.own 1 0 (s ++ [UInt8.ofNat (224 + m / 4096), UInt8.ofNat (128 + m / 64 % 64), UInt8.ofNat (128 + m % 64)]).length, bufS1 (s ++ [UInt8.ofNat (224 + m / 4096), UInt8.ofNat (128 + m / 64 % 64), UInt8.ofNat (128 + m % 64)]), fin_mv [.old 3] rfl rfl rfl ⟨⟨rfl, .inl ⟨by
     rw [bytesA_append]
     show bytesA s ++ [[AV.d (.int .u8 ((UInt8.ofNat (224 + m / 4096)).toNat : Nat))], [AV.d (.int .u8 ((UInt8.ofNat (128 + m / 64 % 64)).toNat : Nat))], [AV.d (.int .u8 ((UInt8.ofNat (128 + m % 64)).toNat : Nat))]] = _
     rw [b_nat (224 + m / 4096) (by omega), b_nat (128 + m / 64 % 64) (by omega), b_nat (128 + m % 64) (by omega)]
     rw [← or_224 (m / 4096) (by omega), ← low_six (m / 64), ← low_six m]
     rfl, bytesA_pure _⟩⟩, trivial⟩ ⟨rfl, rfl, by rw [List.length_append, hl]; rfl⟩, rfl, rfl⟩
  ·rw [if_neg h2]
   refine fn_okTE Tryz.wf Tryz.tab_ok Tryz.func151 (by decide +kernel) rfl rfl ?_
   refine E.fm (s' := [(0, .own 1 0 s.length), (1, .d (.int .i32 m))]) (σ' := bufS1 s) (buf_up s ⟨⟨rfl, rfl, rfl⟩, rfl, trivial⟩) ?_
   refine E.of Tryz.wf Tryz.tab_ok ?_
   have hm1 : ¬ (m : Int) ≤ 2047 := by omega
   have hm2 : ¬ (m : Int) < 55296 := by omega
   have hm3 : (57343 : Int) < m := by omega
   have hm4 : ¬ (m : Int) ≤ 65535 := by omega
   have hm5 : (m : Int) ≤ 1114111 := by omega
   repeat refine wD ?_
   refine wR (k := ?_)
   rw [shr_k m 18 262144 (by decide)]
   refine wR (k := ?_)
   rw [shr_k m 12 4096 (by decide)]
   refine .inr ?_
   refine wR (k := ?_)
   rw [shr_k m 6 64 (by decide)]
   refine .inr ?_
   refine wR (k := ?_)
   refine .inr ?_
   refine wR (k := ?_)
   refine ⟨bytesA s, _, congrArg some (takeAll hl), rfl, (show srcLen (.own 1 0 s.length) _ from hl), rfl, (by rw [hl]; show (s.length + 4) * 1 ≤ 140737488355328; omega), Nat.le_of_ble_eq_true rfl, Nat.le_of_ble_eq_true rfl, rfl, rfl, bytesRows s, rowsAll rfl, ?_⟩
   refine wR (k := ?_)
   exact ⟨.own 1 0 (s ++ [UInt8.ofNat (240 + m / 262144), UInt8.ofNat (128 + m / 4096 % 64), UInt8.ofNat (128 + m / 64 % 64), UInt8.ofNat (128 + m % 64)]).length, bufS1 (s ++ [UInt8.ofNat (240 + m / 262144), UInt8.ofNat (128 + m / 4096 % 64), UInt8.ofNat (128 + m / 64 % 64), UInt8.ofNat (128 + m % 64)]), fin_mv [.old 3] rfl rfl rfl ⟨⟨rfl, .inl ⟨by
    rw [bytesA_append]
    show bytesA s ++ [[AV.d (.int .u8 ((UInt8.ofNat (240 + m / 262144)).toNat : Nat))], [AV.d (.int .u8 ((UInt8.ofNat (128 + m / 4096 % 64)).toNat : Nat))], [AV.d (.int .u8 ((UInt8.ofNat (128 + m / 64 % 64)).toNat : Nat))], [AV.d (.int .u8 ((UInt8.ofNat (128 + m % 64)).toNat : Nat))]] = _
    rw [b_nat (240 + m / 262144) (by omega), b_nat (128 + m / 4096 % 64) (by omega), b_nat (128 + m / 64 % 64) (by omega), b_nat (128 + m % 64) (by omega)]
    rw [← or_240 (m / 262144) (by omega), ← low_six (m / 4096), ← low_six (m / 64), ← low_six m]
    rfl, bytesA_pure _⟩⟩, trivial⟩ ⟨rfl, rfl, by rw [List.length_append, hl]; rfl⟩, rfl, rfl⟩
theorem AppendRune_ok (s : List UInt8) (m : Nat) (hv : Utf8.valid (m : Int) = true) (hs : s.length ≤ 1000000000) : RunC Tryz.prog 104 [.own 0 0 s.length, .d (.int .i32 m)] s (s ++ enc (m : Int)) := by
 have hm := (valid_iff m).1 hv
 have hl := bytesA_len s
 by_cases h0 : m < 128
 ·rw [enc_of _ hv, Int.toNat_natCast, if_pos h0]
  have hm1 : (m : Int) ≤ 127 := by omega
  unfold RunC
  refine fn_okTE Tryz.wf Tryz.tab_ok Tryz.func104 (by decide +kernel) rfl rfl ?_
  refine E.fm (s' := [(0, .own 1 0 s.length), (1, .d (.int .i32 m))]) (σ' := bufS1 s) (buf_up s ⟨⟨rfl, rfl, rfl⟩, rfl, trivial⟩) ?_
  refine E.of Tryz.wf Tryz.tab_ok ?_
  repeat refine wD ?_
  refine wR (k := ?_)
  refine ⟨bytesA s, _, congrArg some (takeAll hl), rfl, (show srcLen (.own 1 0 s.length) _ from hl), rfl, (by rw [hl]; show (s.length + 1) * 1 ≤ 140737488355328; omega), Nat.le_of_ble_eq_true rfl, Nat.le_of_ble_eq_true rfl, rfl, rfl, bytesRows s, rowsAll rfl, ?_⟩
  refine wR (k := ?_)
  exact ⟨.own 1 0 (s ++ [UInt8.ofNat m]).length, bufS1 (s ++ [UInt8.ofNat m]), fin_mv [.old 3] rfl rfl rfl ⟨⟨rfl, .inl ⟨by
   rw [bytesA_append]
   show bytesA s ++ [[AV.d (.int .u8 ((UInt8.ofNat m).toNat : Nat))]] = _
   rw [b_nat m (by omega)]
   rfl, bytesA_pure _⟩⟩, trivial⟩ ⟨rfl, rfl, by rw [List.length_append, hl]; rfl⟩, rfl, rfl⟩
 ·have hr := runeN_ok s m hv (by omega) hs
  have hm1 : ¬ (m : Int) ≤ 127 := by omega
  unfold RunC
  refine fn_okTE Tryz.wf Tryz.tab_ok Tryz.func104 (by decide +kernel) rfl rfl ?_
  refine E.fm (s' := [(0, .own 1 0 s.length), (1, .d (.int .i32 m))]) (σ' := bufS1 s) (buf_up s ⟨⟨rfl, rfl, rfl⟩, rfl, trivial⟩) ?_
  refine E.of Tryz.wf Tryz.tab_ok ?_
  repeat refine wD ?_
  refine wR (k := ?_)
  refine RunC.use hr 1 2 3 rfl rfl rfl rfl ⟨⟨rfl, rfl, rfl⟩, rfl, trivial⟩ ?_
  refine wR (k := ?_)
  exact ⟨.own 1 0 (s ++ enc (m : Int)).length, bufS1 (s ++ enc (m : Int)), fin_mv [.old 2] rfl rfl rfl ⟨bufO_rel _, trivial⟩ ⟨rfl, rfl, rfl⟩, rfl, rfl⟩
theorem RunC.useNil {P : Program} {g : FuncId} {args args0 : List AV} {l' : List UInt8} (h : RunC P g args0 [] l') {σ : Store} {K : AV → Store → Prop} (n0 n1 : Nat)
  (e0 : σ.n = n0) (e1 : n0 + 1 = n1) (ha : vrelL (phi 0 [.phan 1]) args0 args)
  (hK : K (.own n0 0 l'.length) ⟨n1, (n0, bufO l') :: σ.objs⟩) : CallsAbs P g args σ K := by
 subst e0; subst e1
 have p0 : phi 0 [.phan 1] 0 = some (.phan 1) := rfl
 refine CallsAbs.frame h [.phan 1] ⟨Nat.zero_le _, rfl, rfl, ⟨?_, trivial⟩⟩ ha ?_
 ·show entry _ _ 0 _; unfold entry; rw [p0]; rfl
 ·rintro _ _ ⟨rfl, rfl⟩
  have bh : back [.phan 1] σ.n 1 2 σ.n = some (.old 1) := by
   unfold back
   rw [Nat.ble_eq_true_of_le (Nat.le_refl _)]
   dsimp only
   rw [Nat.ble_eq_true_of_le (by omega : σ.n + 1 + 1 ≤ 2 + σ.n)]
   dsimp only
   rw [show σ.n + 1 - σ.n = 1 by omega]
  refine ⟨.own σ.n 0 l'.length, [(σ.n, bufO l')], ⟨?_, trivial⟩, ?_, ⟨bh, rfl, rfl⟩, hK⟩
  ·unfold entry; rw [bh]; exact bufO_rel _
  ·simp [covers]
abbrev bldO (s : List UInt8) : Ob := .bld 75 5 s
set_option maxRecDepth 100000 in
set_option maxHeartbeats 2000000 in
theorem WriteRune_ok (s : List UInt8) (m : Nat) (hv : Utf8.valid (m : Int) = true) (hs : s.length ≤ 1000000000) : CallsAbs Tryz.prog 64 [.ref 0 0 0, .d (.int .i32 m)] ⟨1, [(0, bldO s)]⟩ fun r σ' => r = .tup [.d (.int .i64 (enc (m : Int)).length), .nili] ∧ σ' = ⟨1, [(0, bldO (s ++ enc (m : Int)))]⟩ := by
 have hne : enc (m : Int) ≠ [] := fun e => by have := (enc_len (m : Int)).1; rw [e] at this; simp at this
 have hel := (enc_len (m : Int)).2
 refine fn_okTE Tryz.wf Tryz.tab_ok Tryz.func64 (by decide +kernel) rfl rfl ?_
 refine E.seq (E.of Tryz.wf Tryz.tab_ok ?_)
 refine E.seq (E.of Tryz.wf Tryz.tab_ok ?_)
 refine (copyCheck_ok s).mono ?_
 rintro _ _ ⟨rfl, rfl⟩
 refine E.open (i := 0) (T := 75) (U := 5) (s := s) rfl fun pv hpv => ⟨fun hs0 => E.of Tryz.wf Tryz.tab_ok ?_, fun hs0 => E.of Tryz.wf Tryz.tab_ok ?_⟩
 ·subst hs0
  have hr := AppendRune_ok [] m hv (by simp)
  rw [List.nil_append] at hr ⊢
  refine wR (k := ?_)
  refine RunC.useNil hr 1 2 rfl rfl ⟨⟨rfl, rfl, rfl⟩, rfl, trivial⟩ ?_
  refine wR (k := ?_)
  exact ⟨.tup [.d (.int .i64 (enc (m : Int)).length), .nili], ⟨1, [(0, bldO (enc (m : Int)))]⟩, (fin_close 0 1 75 5 (enc (m : Int)) hpv rfl rfl hne (Nat.le_of_ble_eq_true rfl) rfl).trans (fin_mv [] rfl rfl rfl ⟨⟨rfl, rfl, rfl⟩, trivial⟩ ⟨congrArg (D.int .i64) (by omega), trivial, trivial⟩), rfl, rfl⟩
 ·have hr := AppendRune_ok s m hv hs
  refine wR (k := ?_)
  refine RunC.use hr 1 2 3 rfl rfl rfl rfl ⟨⟨rfl, rfl, rfl⟩, rfl, trivial⟩ ?_
  refine wR (k := ?_)
  exact ⟨.tup [.d (.int .i64 (enc (m : Int)).length), .nili], ⟨1, [(0, bldO (s ++ enc (m : Int)))]⟩, (fin_close 0 2 75 5 (s ++ enc (m : Int)) hpv rfl rfl (by simp [hs0]) (Nat.le_of_ble_eq_true rfl) rfl).trans (fin_mv [] rfl rfl rfl ⟨⟨rfl, rfl, rfl⟩, trivial⟩ ⟨congrArg (D.int .i64) (by rw [List.length_append]; omega), trivial, trivial⟩), rfl, rfl⟩
def fixR (last : Nat) (t : List UInt8) : List UInt8 := if last = 13 ∧ fixF.hdN t = 10 then fixB (t.drop 1) else fixB t
theorem fixR_ne {last : Nat} {t : List UInt8} (h : last ≠ 13) : fixR last t = fixB t := by unfold fixR; rw [if_neg (fun e => h e.1)]
theorem fixR_c {last : Nat} {c : UInt8} {r : List UInt8} (h : ¬ (last = 13 ∧ c = 10)) : fixR last (c :: r) = fixB (c :: r) := by unfold fixR; rw [if_neg (fun e => h ⟨e.1, e.2⟩)]
theorem hdN_ne : ∀ {t : List UInt8}, fixF.hdN t = 10 → ∃ r, t = 10 :: r
 | [], h => absurd h (by decide)
 | c :: r, h => ⟨r, by rw [show c = 10 from h]⟩
theorem fixB_cr (r : List UInt8) : fixB (13 :: r) = [10] ++ fixR 13 r := by
 rw [fixB_cons]
 have e1 : right (13 :: r) = 1 := by unfold right; dsimp only; rw [if_pos (by decide)]
 rw [e1, if_neg (by decide), if_pos rfl]
 unfold fixR
 by_cases h : fixF.hdN r = 10
 ·obtain ⟨r2, rfl⟩ := hdN_ne h
  rw [if_pos h, if_pos ⟨rfl, h⟩, List.nil_append, fixB_cons]
  have e2 : right (10 :: r2) = 1 := by unfold right; dsimp only; rw [if_pos (by decide)]
  rw [e2, if_neg (by decide), if_neg (by decide)]; rfl
 ·rw [if_neg h, if_neg (fun e => h e.2)]
theorem fix_odd {c : UInt8} {r : List UInt8} (h : right (c :: r) = 0 ∨ c = 0) : fixB (c :: r) = [239, 191, 189] ++ fixB ((c :: r).drop (max (right (c :: r)) 1)) := by rw [fixB_cons, if_pos h]
theorem fix_take {c : UInt8} {r : List UInt8} (h : right (c :: r) ≠ 0) (h0 : c ≠ 0) (h13 : c ≠ 13) : fixB (c :: r) = (c :: r).take (right (c :: r)) ++ fixB ((c :: r).drop (right (c :: r))) := by
 rw [fixB_cons, if_neg (fun e => e.elim h h0), if_neg h13]
set_option maxRecDepth 100000 in
set_option maxHeartbeats 2000000 in
theorem Fix_ok (raw : List UInt8) (hs : raw.length ≤ 100000000) : PureC Tryz.prog 25 [.d (.sl (bytesD raw))] (.d (.str (fixB raw))) := by
 refine pure_okT Tryz.wf Tryz.tab_ok Tryz.func25 (by decide +kernel) rfl rfl rfl rfl ?_
 refine wR (k := ?_)
 refine loopT Tryz.wf Tryz.tab_ok (fun n s' σ => ∃ (k : Nat) (out : List UInt8) (last : Nat), n = raw.length - k ∧ k ≤ raw.length ∧ last ≤ 1114111 ∧ out.length ≤ 3 * k ∧ fixB raw = out ++ fixR last (raw.drop k) ∧ s' = [(3, .ref 0 0 0), (4, .d (.int .i32 last)), (9, .ref 1 0 0)] ∧ σ = ⟨2, [(1, .iter raw k), (0, bldO out)]⟩)
  ⟨0, [], 0, rfl, Nat.zero_le _, Nat.zero_le _, Nat.le_refl _, rfl, rfl, rfl⟩ (Mv.of [.old 0, .old 1] rfl rfl rfl ⟨⟨rfl, rfl⟩, ⟨rfl, rfl, rfl⟩, trivial⟩ ⟨⟨rfl, rfl, rfl⟩, rfl, ⟨rfl, rfl, rfl⟩, trivial⟩) ?_
 rintro _ _ _ ⟨k, out, last, rfl, hk, hla, hol, hI, rfl, rfl⟩
 by_cases hlt : k < raw.length
 ·have hdr := List.drop_eq_getElem_cons hlt
  have hde := decode_eq raw k
  have hrl := right_le (raw.drop k)
  have hr4 := right_le4 (raw.drop k)
  have hdd : ∀ q, (raw.drop k).drop q = raw.drop (k + q) := fun q => List.drop_drop
  rw [List.length_drop] at hrl
  generalize raw[k] = c at *
  generalize raw.drop (k + 1) = r at *
  rw [hdr] at hI hde hrl hr4 hdd
  refine ⟨fun _ => ?_, fun h => absurd h (by omega)⟩
  rw [hde]
  rcases dec_right c r with ⟨h1, h2⟩ | ⟨h1, m, h2, hv, he, hc, hm⟩
  ·have hc10 : ¬ (last = 13 ∧ c = 10) := fun e => by
    rw [e.2] at h1
    unfold right at h1
    dsimp only at h1
    rw [if_pos (by decide)] at h1; cases h1
   rw [fixR_c hc10, fix_odd (.inl h1), h1, hdd] at hI
   rw [h2]
   refine wR (k := ?_)
   refine CallsAbs.frame (WriteString_ok (out) ([239, 191, 189]) (by simp; omega)) [.old 0] ⟨Nat.zero_le _, rfl, rfl, ⟨⟨rfl, rfl, rfl⟩, trivial⟩⟩ ⟨⟨rfl, rfl, rfl⟩, rfl, trivial⟩ ?_
   rintro _ _ ⟨rfl, rfl⟩
   refine ⟨.tup [.d (.int .i64 (([239, 191, 189] : List UInt8).length : Nat)), .nili], [(0, .bld 75 5 (out ++ [239, 191, 189]))], ⟨⟨rfl, rfl, rfl⟩, trivial⟩, rfl, ⟨rfl, trivial, trivial⟩, ?_⟩
   refine wR (k := ?_)
   exact ⟨_, _, _, ⟨k + 1, out ++ [239, 191, 189], 65533, rfl, by omega, by omega, (by simp; omega), (by rw [fixR_ne (by decide), List.append_assoc]; exact hI), rfl, rfl⟩, by omega, Mv.of [.old 0, .old 1] rfl rfl rfl ⟨⟨rfl, rfl⟩, ⟨rfl, rfl, rfl⟩, trivial⟩ ⟨⟨rfl, rfl, rfl⟩, rfl, ⟨rfl, rfl, rfl⟩, trivial⟩⟩
  ·have hq1 : m < 128 → right (c :: r) = 1 := fun hlt2 => by
    unfold right; dsimp only; rw [if_pos (by omega)]
   have htk := fun h0 h13 => fix_take (c := c) (r := r) h1 h0 h13
   have hod := fun h0 => fix_odd (c := c) (r := r) (.inr h0)
   have hcN : ∀ n : Nat, n < 128 → m = n → c = UInt8.ofNat n := fun n hn e => by rw [ofNat_eq (c := c) (n := n) (by omega)]
   have hcM : ∀ d : UInt8, d.toNat < 128 → c = d → m = d.toNat := fun d hd e => by rw [e] at hc; omega
   rw [h2]
   generalize right (c :: r) = q at *
   rw [hdd] at htk hod
   have hel : (enc (m : Int)).length = q := by
    rw [he, List.length_take, List.length_cons]
    have := congrArg List.length hdr
    rw [List.length_drop, List.length_cons] at this
    omega
   by_cases hm0 : m = 0
   ·have hc0 := hcN 0 (by decide) hm0
    rw [fixR_c (fun e => by rw [e.2] at hc0; revert hc0; decide), hod hc0, hq1 (by omega)] at hI
    have hq := hq1 (by omega)
    subst hm0
    subst hq
    refine wR (k := ?_)
    refine CallsAbs.frame (WriteString_ok (out) ([239, 191, 189]) (by simp; omega)) [.old 0] ⟨Nat.zero_le _, rfl, rfl, ⟨⟨rfl, rfl, rfl⟩, trivial⟩⟩ ⟨⟨rfl, rfl, rfl⟩, rfl, trivial⟩ ?_
    rintro _ _ ⟨rfl, rfl⟩
    refine ⟨.tup [.d (.int .i64 (([239, 191, 189] : List UInt8).length : Nat)), .nili], [(0, .bld 75 5 (out ++ [239, 191, 189]))], ⟨⟨rfl, rfl, rfl⟩, trivial⟩, rfl, ⟨rfl, trivial, trivial⟩, ?_⟩
    refine wR (k := ?_)
    exact ⟨_, _, _, ⟨k + 1, out ++ [239, 191, 189], 0, rfl, by omega, by omega, (by simp; omega), (by rw [fixR_ne (by decide), List.append_assoc]; exact hI), rfl, rfl⟩, by omega, Mv.of [.old 0, .old 1] rfl rfl rfl ⟨⟨rfl, rfl⟩, ⟨rfl, rfl, rfl⟩, trivial⟩ ⟨⟨rfl, rfl, rfl⟩, rfl, ⟨rfl, rfl, rfl⟩, trivial⟩⟩
   ·have hm0' : ¬ (m : Int) = 0 := by omega
    have hc0 : c ≠ 0 := fun e => hm0 (hcM 0 (by decide) e)
    by_cases hmE : m = 65533
    ·subst hmE
     rw [fixR_c (fun e => by have := hcM 10 (by decide) e.2; revert this; decide), htk hc0 (fun e => by have := hcM 13 (by decide) e; revert this; decide), ← he] at hI
     have hee : enc ((65533 : Nat) : Int) = [239, 191, 189] := by decide +kernel
     rw [hee] at hI hel
     have hq : q = 3 := hel.symm
     subst hq
     refine wR (k := ?_)
     refine CallsAbs.frame (WriteString_ok (out) ([239, 191, 189]) (by simp; omega)) [.old 0] ⟨Nat.zero_le _, rfl, rfl, ⟨⟨rfl, rfl, rfl⟩, trivial⟩⟩ ⟨⟨rfl, rfl, rfl⟩, rfl, trivial⟩ ?_
     rintro _ _ ⟨rfl, rfl⟩
     refine ⟨.tup [.d (.int .i64 (([239, 191, 189] : List UInt8).length : Nat)), .nili], [(0, .bld 75 5 (out ++ [239, 191, 189]))], ⟨⟨rfl, rfl, rfl⟩, trivial⟩, rfl, ⟨rfl, trivial, trivial⟩, ?_⟩
     refine wR (k := ?_)
     exact ⟨_, _, _, ⟨k + 3, out ++ [239, 191, 189], 65533, rfl, by omega, by omega, (by simp; omega), (by rw [fixR_ne (by decide), List.append_assoc]; exact hI), rfl, rfl⟩, by omega, Mv.of [.old 0, .old 1] rfl rfl rfl ⟨⟨rfl, rfl⟩, ⟨rfl, rfl, rfl⟩, trivial⟩ ⟨⟨rfl, rfl, rfl⟩, rfl, ⟨rfl, rfl, rfl⟩, trivial⟩⟩
    ·have hmE' : ¬ (m : Int) = 65533 := by omega
     by_cases hm13 : m = 13
     ·have hc13 := hcN 13 (by decide) hm13
      have hq := hq1 (by omega)
      have e13 : c = 13 := hc13
      rw [fixR_c (fun e => by rw [e.2] at e13; revert e13; decide), e13, fixB_cr] at hI
      have hr : r = raw.drop (k + 1) := by have := hdd 1; exact this
      rw [hr] at hI
      subst hm13
      subst hq
      refine wR (k := ?_)
      refine CallsAbs.frame (WriteByte_ok (out) (10) (by omega)) [.old 0] ⟨Nat.zero_le _, rfl, rfl, ⟨⟨rfl, rfl, rfl⟩, trivial⟩⟩ ⟨⟨rfl, rfl, rfl⟩, rfl, trivial⟩ ?_
      rintro _ _ ⟨rfl, rfl⟩
      refine ⟨.nili, [(0, .bld 75 5 (out ++ [10]))], ⟨⟨rfl, rfl, rfl⟩, trivial⟩, rfl, trivial, ?_⟩
      refine wR (k := ?_)
      exact ⟨_, _, _, ⟨k + 1, out ++ [10], 13, rfl, by omega, by omega, (by simp; omega), (by rw [List.append_assoc]; exact hI), rfl, rfl⟩, by omega, Mv.of [.old 0, .old 1] rfl rfl rfl ⟨⟨rfl, rfl⟩, ⟨rfl, rfl, rfl⟩, trivial⟩ ⟨⟨rfl, rfl, rfl⟩, rfl, ⟨rfl, rfl, rfl⟩, trivial⟩⟩
     ·have hm13' : ¬ (m : Int) = 13 := by omega
      have hc13 : c ≠ 13 := fun e => hm13 (hcM 13 (by decide) e)
      by_cases hmL : m = 10 ∧ last = 13
      ·obtain ⟨rfl, rfl⟩ := hmL
       have hc10 : c = 10 := hcN 10 (by decide) rfl
       have hq := hq1 (by omega)
       have e2 : fixR 13 (c :: r) = fixB r := by unfold fixR; rw [if_pos ⟨rfl, hc10⟩]; rfl
       have hr : r = raw.drop (k + 1) := by have := hdd 1; exact this
       rw [e2, hr] at hI
       subst hq
       refine wR (k := ?_)
       exact ⟨_, _, _, ⟨k + 1, out, 10, rfl, by omega, by omega, (by omega), (by rw [fixR_ne (by decide)]; exact hI), rfl, rfl⟩, by omega, Mv.of [.old 0, .old 1] rfl rfl rfl ⟨⟨rfl, rfl⟩, ⟨rfl, rfl, rfl⟩, trivial⟩ ⟨⟨rfl, rfl, rfl⟩, rfl, ⟨rfl, rfl, rfl⟩, trivial⟩⟩
      ·rw [fixR_c (fun e => hmL ⟨hcM 10 (by decide) e.2, e.1⟩), htk hc0 hc13, ← he] at hI
       by_cases hm10 : m = 10
       ·have hl13 : ¬ (last : Int) = 13 := fun e => hmL ⟨hm10, by omega⟩
        have hm10' : (m : Int) = 10 := by omega
        repeat refine wO ?_
        repeat refine wD ?_
        refine CallsAbs.frame (WriteRune_ok (out) (m) hv (by omega)) [.old 0] ⟨Nat.zero_le _, rfl, rfl, ⟨⟨rfl, rfl, rfl⟩, trivial⟩⟩ ⟨⟨rfl, rfl, rfl⟩, rfl, trivial⟩ ?_
        rintro _ _ ⟨rfl, rfl⟩
        refine ⟨.tup [.d (.int .i64 ((enc (m : Int)).length : Nat)), .nili], [(0, .bld 75 5 (out ++ enc (m : Int)))], ⟨⟨rfl, rfl, rfl⟩, trivial⟩, rfl, ⟨rfl, trivial, trivial⟩, ?_⟩
        refine wR (k := ?_)
        exact ⟨_, _, _, ⟨k + q, out ++ enc (m : Int), m, rfl, by omega, by omega, (by rw [List.length_append]; omega), (by rw [fixR_ne hm13, List.append_assoc]; exact hI), rfl, rfl⟩, by omega, Mv.of [.old 0, .old 1] rfl rfl rfl ⟨⟨rfl, rfl⟩, ⟨rfl, rfl, rfl⟩, trivial⟩ ⟨⟨rfl, rfl, rfl⟩, rfl, ⟨rfl, rfl, rfl⟩, trivial⟩⟩
       ·have hm10' : ¬ (m : Int) = 10 := by omega
        repeat refine wO ?_
        repeat refine wD ?_
        refine CallsAbs.frame (WriteRune_ok (out) (m) hv (by omega)) [.old 0] ⟨Nat.zero_le _, rfl, rfl, ⟨⟨rfl, rfl, rfl⟩, trivial⟩⟩ ⟨⟨rfl, rfl, rfl⟩, rfl, trivial⟩ ?_
        rintro _ _ ⟨rfl, rfl⟩
        refine ⟨.tup [.d (.int .i64 ((enc (m : Int)).length : Nat)), .nili], [(0, .bld 75 5 (out ++ enc (m : Int)))], ⟨⟨rfl, rfl, rfl⟩, trivial⟩, rfl, ⟨rfl, trivial, trivial⟩, ?_⟩
        refine wR (k := ?_)
        exact ⟨_, _, _, ⟨k + q, out ++ enc (m : Int), m, rfl, by omega, by omega, (by rw [List.length_append]; omega), (by rw [fixR_ne hm13, List.append_assoc]; exact hI), rfl, rfl⟩, by omega, Mv.of [.old 0, .old 1] rfl rfl rfl ⟨⟨rfl, rfl⟩, ⟨rfl, rfl, rfl⟩, trivial⟩ ⟨⟨rfl, rfl, rfl⟩, rfl, ⟨rfl, rfl, rfl⟩, trivial⟩⟩
 ·have hk' : k = raw.length := by omega
  subst hk'
  rw [List.drop_length] at hI
  have he : fixR last [] = [] := by
   unfold fixR
   split
   ·rfl
   ·rfl
  rw [he, List.append_nil] at hI
  rw [hI]
  refine wR (k := ?_)
  refine CallsAbs.frame (String_ok (out) (by omega)) [.old 0] ⟨Nat.zero_le _, rfl, rfl, ⟨⟨rfl, rfl, rfl⟩, trivial⟩⟩ ⟨⟨rfl, rfl, rfl⟩, trivial⟩ ?_
  rintro _ _ ⟨rfl, rfl⟩
  refine ⟨.d (.str (out)), [(0, .dead)], ⟨trivial, trivial⟩, rfl, rfl, ?_⟩
  exact ⟨_, _, fin_out rfl, rfl⟩
def GdA (ats : List Attr) : Prop := ∀ a ∈ ats, Gd a.2
theorem GdA.add {ats : List Attr} (h : GdA ats) {a : Attr} (ha : Gd a.2) : GdA (addA ats a) := by
 unfold addA
 split
 ·exact h
 ·intro b hb
  rcases List.mem_append.1 hb with hb | hb
  ·exact h b hb
  ·rw [List.mem_singleton] at hb; rw [hb]; exact ha
end Go.Proofs.YthngplknbbcecaaGreatDoor
namespace Go.Proofs.YthngplknbbcecaaGreatDoor
open Go.Aw
set_option maxHeartbeats 1600000
set_option linter.unusedSimpArgs false
set_option linter.unusedVariables false
mutual
def txN : Node → List UInt8
 | .mk _ _ t k => t ++ txL k
def txL : List Node → List UInt8
 | [] => []
 | n :: r => txN n ++ txL r
end
theorem txN_eq (n : Node) : txN n = n.text ++ txL n.kids := by cases n; unfold txN; rfl
theorem txL_cons (n : Node) (r : List Node) : txL (n :: r) = txN n ++ txL r := by rw [txL]
theorem txL_append : ∀ a b : List Node, txL (a ++ b) = txL a ++ txL b
 | [], b => by rw [txL]; rfl
 | n :: r, b => by rw [List.cons_append, txL_cons, txL_cons, txL_append r b, List.append_assoc]
theorem txL_take (l : List Node) (k : Nat) (h : k < l.length) : txL (l.take (k + 1)) = txL (l.take k) ++ (l[k].text ++ txL l[k].kids) := by
 rw [List.take_succ_eq_append_getElem h, txL_append, txL_cons, txN_eq]; simp [txL]
mutual
theorem tx_wtN : ∀ n : Node, (txN n).length ≤ wtN n
 | .mk nm a t k => by
  have := tx_wtL k
  rw [txN, wtN, List.length_append]; omega
theorem tx_wtL : ∀ l : List Node, (txL l).length ≤ wtL l
 | [] => by rw [txL]; exact Nat.zero_le _
 | n :: r => by
  have h1 := tx_wtN n
  have h2 := tx_wtL r
  rw [txL_cons, wtL_cons, List.length_append]; omega
end
theorem wtL_le {l : List Node} {n : Node} (h : n ∈ l) : wtN n ≤ wtL l := by
 induction l with
 | nil => simp at h
 | cons m r ih =>
  rw [wtL_cons]
  rcases List.mem_cons.1 h with rfl | h
  ·omega
  ·have := ih h; omega
theorem wtL_take_le (l : List Node) (k : Nat) : wtL (l.take k) ≤ wtL l := by
 have h := wtL_append (l.take k) (l.drop k)
 rw [List.take_append_drop] at h
 omega
set_option maxRecDepth 100000 in
theorem Text_ok (N : Nat) : ∀ (l : List Node), szL l ≤ N → wtL l ≤ 1000000 → PureC Tryz.prog 28 [.d (.sl (nodesD l))] (.d (.str (txL l))) := by
 induction N using Nat.strongRecOn with
 | ind N ih =>
 intro l hN hw
 refine PureC.of rfl rfl (fn_okTE Tryz.wf Tryz.tab_ok Tryz.func28 (by decide +kernel) rfl rfl ?_)
 have hn := nodesD_len l
 have hsl := sz_len l
 have hsz := sz_wtL l
 refine E.seq (E.of Tryz.wf Tryz.tab_ok ?_)
 refine wR (k := ?_)
 refine E.seq (E.of Tryz.wf Tryz.tab_ok ?_)
 refine wR (k := ?_)
 refine E.seq ?_
 refine E.seq (E.of Tryz.wf Tryz.tab_ok ?_)
 refine wR (k := ?_)
 refine blockE ?_
 refine loopE (fun m s' σ => ∃ k : Nat, m = l.length - k ∧ k ≤ l.length ∧ s' = [(3, .d (.str (txL (l.take k)))), (6, .d (.sl (nodesD l))), (7, .d (.int .i64 l.length)), (8, .d (.int .i64 k))] ∧ σ = ⟨0, []⟩)
  ⟨0, rfl, Nat.zero_le _, rfl, rfl⟩ (Mv.of [] rfl rfl rfl trivial ⟨congrArg D.str (by rw [List.take_zero, txL]), rfl, congrArg (D.int .i64) (by rw [hn]), rfl, trivial⟩) ?_
 rintro _ _ _ ⟨k, rfl, hk, rfl, rfl⟩
 by_cases hlt : k < l.length
 ·have hget := nodesD_get l k hlt
  have hks := kids_lt (List.getElem_mem hlt)
  have hwn := wtL_le (List.getElem_mem hlt)
  rw [wtN_eq] at hwn
  have hc1 := ih (szL l[k].kids) (by omega) l[k].kids (Nat.le_refl _) (by omega)
  have htk := txL_take l k hlt
  have h1 := tx_wtL (l.take k)
  have h2 := wtL_take_le l k
  have h3 := tx_wtL l[k].kids
  generalize txL (l.take k) = acc at *
  generalize txL l[k].kids = x at *
  refine E.of Tryz.wf Tryz.tab_ok ?_
  refine wR (k := ?_)
  refine drawnT Tryz.wf Tryz.tab_ok Tryz.mixed (by decide +kernel) ?_
  repeat' (first | refine qO ?_ | refine qP ?_ | fail)
  refine wR (k := ?_)
  exact ⟨_, _, _, ⟨k + 1, rfl, hlt, rfl, rfl⟩, by omega, Mv.of [] rfl rfl rfl trivial ⟨congrArg D.str htk, rfl, rfl, rfl, trivial⟩⟩
 ·have hk' : k = l.length := by omega
  rw [List.take_of_length_le (by omega)]
  refine E.of Tryz.wf Tryz.tab_ok ?_
  refine wR (k := ?_)
  refine E.of Tryz.wf Tryz.tab_ok ?_
  refine wR (k := ?_)
  exact ⟨_, _, fin_out rfl, rfl, rfl⟩
end Go.Proofs.YthngplknbbcecaaGreatDoor

namespace Go.Proofs.YthngplknbbcecaaGreatDoor
open Go.Aw
set_option maxHeartbeats 1600000
set_option linter.unusedSimpArgs false
set_option linter.unusedVariables false
def shownB (p : Pol) (s : List UInt8) : List UInt8 := match buildL (toks s) with
 | some l => if (szL (treeB p l) : Int) ≤ p.nd ∧ (dpL (treeB p l) : Int) ≤ p.dp then htL (treeB p l) else escape false s
 | none => escape false s
def cleanB (p : Pol) (raw : List UInt8) : List UInt8 × Int := if rightB p = true then if (raw.length : Int) ≤ p.by' then (shownB p (fixB raw), 0) else ([], 4) else ([], 2)
theorem toks_weak (s : List UInt8) : ∀ t ∈ toks s, goodT2W t := fun t ht hk => by
 have h := toks_good s t ht
 refine ⟨?_, h.2.1.1 (.inl hk)⟩
 have e : owB (.mk t.nm t.ats [] []) = (decide (([] : List UInt8) = []) && (!(decide (t.nm ∈ voids) && !decide (([] : List Node) = [])) && decide ((t.ats.map Prod.fst).Nodup))) := rfl
 rw [e, decide_eq_true (nodup_of h.2.2.2.2.2)]
 simp
theorem built_weak {s : List UInt8} {l : List Node} (h : buildL (toks s) = some l) : swL false false false l = true := build_stableW (toks_weak s) h
theorem htL_text (s : List UInt8) : htL [.mk [] [] s []] = escape false s := by
 rw [htL_cons, htN_eq, if_pos (show (Node.mk [] [] s []).name = [] from rfl), htL, List.append_nil]; rfl
theorem page_toks {p : Pol} {t : List Node} (h : safeB p t = true) : toks (htL t) = tkL t ∧ buildL (tkL t) = some t := by
 obtain ⟨_, _, h3, _⟩ := safe_parts.1 h
 have h1 := toks_page t false false false h3.2.2 [] (.inl rfl)
 rw [List.append_nil, toks_nil, List.append_nil] at h1
 exact ⟨h1, build_page h3.2.2 h3.1 h3.2.1⟩
mutual
def allN : Node → List UInt8
 | .mk nm _ t k => if dropB nm = true then [] else t ++ allL k
def allL : List Node → List UInt8
 | [] => []
 | n :: r => allN n ++ allL r
end
theorem allN_eq (n : Node) : allN n = if dropB n.name = true then [] else n.text ++ allL n.kids := by cases n; rw [allN]; rfl
theorem allL_cons (n : Node) (r : List Node) : allL (n :: r) = allN n ++ allL r := by rw [allL]
def TK (out : List Node) : Prop := ∀ m ∈ out, m.name = [] → m.kids = []
theorem TK.put {out : List Node} (h : TK out) (n : Node) : TK (putN out n) := by
 by_cases h0 : n.name = []
 ·by_cases ht : n.text = []
  ·rw [putN_nil h0 ht]; exact h
  ·cases hl : lastT out with
   | true =>
    obtain ⟨ys, m, rfl, hm⟩ := lastT_some hl
    rw [putN_text h0 ht ys m hm]
    intro w hw hwn
    rcases List.mem_append.1 hw with hw | hw
    ·exact h w (by simp [hw]) hwn
    ·rw [List.mem_singleton] at hw
     rw [hw]; exact h m (by simp) hm
   | false =>
    rw [putN_new h0 ht hl]
    intro w hw hwn
    rcases List.mem_append.1 hw with hw | hw
    ·exact h w hw hwn
    ·rw [List.mem_singleton] at hw; rw [hw]; rfl
 ·rw [putN_el h0]
  intro w hw hwn
  rcases List.mem_append.1 hw with hw | hw
  ·exact h w hw hwn
  ·rw [List.mem_singleton] at hw; rw [hw] at hwn; exact absurd hwn h0
theorem tx_putT {out : List Node} (hT : TK out) {n : Node} (h0 : n.name = []) : txL (putN out n) = txL out ++ n.text := by
 by_cases ht : n.text = []
 ·rw [putN_nil h0 ht, ht, List.append_nil]
 ·cases hl : lastT out with
  | true =>
   obtain ⟨ys, m, rfl, hm⟩ := lastT_some hl
   rw [putN_text h0 ht ys m hm, txL_append, txL_append, txL_cons, txL_cons, txN_eq, txN_eq, txL]
   show txL ys ++ (((m.text ++ n.text) ++ txL m.kids) ++ []) = txL ys ++ ((m.text ++ txL m.kids) ++ []) ++ n.text
   rw [hT m (by simp) hm, txL]; simp
  | false =>
   rw [putN_new h0 ht hl, txL_append, txL_cons, txN_eq, txL]
   show txL out ++ ((n.text ++ txL []) ++ []) = _
   rw [txL]; simp
mutual
theorem clN_tx (p : Pol) : ∀ (n : Node) (P LI : Bool) (out : List Node), (n.name ≠ [] → swN P LI n = true) → (n.name = [] → n.kids = []) → TK out → TK (clN p out n) ∧ txL (clN p out n) = txL out ++ allN n
 | .mk nm a t k, P, LI, out, hn, hk, ho => by
  rw [clN, allN]
  by_cases h0 : nm = []
  ·have hk0 : k = [] := hk h0
   rw [if_pos h0, hk0, h0, if_neg (by decide), allL, List.append_nil]
   exact ⟨ho.put _, tx_putT ho rfl⟩
  ·rw [if_neg h0]
   by_cases h1 : dropB nm = true
   ·rw [if_pos h1, if_pos h1, List.append_nil]; exact ⟨ho, rfl⟩
   ·rw [if_neg h1, if_neg h1]
    have hw := hn h0
    rw [swN] at hw
    simp only [Bool.and_eq_true] at hw
    have o1 : t = [] := (owB_parts hw.1.1.1).1
    rw [o1, List.nil_append]
    by_cases h2 : nm ∈ p.el
    ·rw [if_pos h2]
     have ih := clL_tx p k false _ _ [] hw.2 (fun m hm => by cases hm)
     refine ⟨ho.put _, ?_⟩
     rw [putN_el (show (Node.mk nm (attrsP p nm a) [] (clL p [] k)).name ≠ [] from h0), txL_append, txL_cons, txN_eq, txL]
     show txL out ++ (([] ++ txL (clL p [] k)) ++ []) = _
     rw [ih.2, txL]; simp
    ·rw [if_neg h2]
     exact clL_tx p k false _ _ out hw.2 ho
theorem clL_tx (p : Pol) : ∀ (l : List Node) (tx P LI : Bool) (out : List Node), swL tx P LI l = true → TK out → TK (clL p out l) ∧ txL (clL p out l) = txL out ++ allL l
 | [], tx, P, LI, out, _, ho => by rw [clL, allL, List.append_nil]; exact ⟨ho, rfl⟩
 | n :: r, tx, P, LI, out, h, ho => by
  rw [swL_cons] at h
  rw [clL_cons, allL_cons]
  by_cases h0 : n.name = []
  ·rw [if_pos h0] at h
   simp only [Bool.and_eq_true, decide_eq_true_eq] at h
   have h1 := clN_tx p n P LI out (fun h1 => absurd h0 h1) (fun _ => h.1.2) ho
   have h2 := clL_tx p r true P LI _ h.2 h1.1
   exact ⟨h2.1, by rw [h2.2, h1.2, List.append_assoc]⟩
  ·rw [if_neg h0, Bool.and_eq_true] at h
   have h1 := clN_tx p n P LI out (fun _ => h.1) (fun h1 => absurd h1 h0) ho
   have h2 := clL_tx p r false P LI _ h.2 h1.1
   exact ⟨h2.1, by rw [h2.2, h1.2, List.append_assoc]⟩
end
theorem tree_text (p : Pol) {l : List Node} (h : swL false false false l = true) : txL (treeB p l) = allL l := by
 have := (clL_tx p l false false false [] h (fun m hm => by cases hm)).2
 rw [txL, List.nil_append] at this
 exact this
theorem fix_no : ∀ (n : Nat) (s : List UInt8), s.length ≤ n → (60 : UInt8) ∉ s → (60 : UInt8) ∉ fixB s
 | _, [], _, _ => by simp [fixB_nil]
 | 0, c :: r, h, _ => by simp at h
 | n + 1, c :: r, h, hs => by
  rw [List.length_cons] at h
  have hd : ∀ k : Nat, 1 ≤ k → (60 : UInt8) ∉ fixB ((c :: r).drop k) := fun k hk => fix_no n _ (by rw [List.length_drop, List.length_cons]; omega) (fun hm => hs (List.mem_of_mem_drop hm))
  rw [fixB_cons]
  by_cases h0 : right (c :: r) = 0 ∨ c = 0
  ·rw [if_pos h0, List.mem_append, not_or]
   exact ⟨by decide, hd _ (by omega)⟩
  ·rw [if_neg h0]
   have hne : right (c :: r) ≠ 0 := fun e => h0 (.inl e)
   by_cases h13 : c = 13
   ·rw [if_pos h13, List.mem_append, not_or]
    refine ⟨?_, hd 1 (by omega)⟩
    split <;> decide
   ·rw [if_neg h13, List.mem_append, not_or]
    exact ⟨fun hm => hs (List.mem_of_mem_take hm), hd _ (by omega)⟩
theorem shown_text {p : Pol} (hr : rightB p = true) {s : List UInt8} (hs : (60 : UInt8) ∉ s) : shownB p s = escape false (resolve s) := by
 by_cases h0 : s = []
 ·subst h0
  unfold shownB
  rw [toks_nil, show buildL [] = some [] from rfl]
  dsimp only
  rw [show treeB p [] = [] from by unfold treeB; rw [clL], htL]
  split <;> rfl
 ·have h1 := toks_text s [] h0 hs (.inl rfl)
  rw [List.append_nil, toks_nil] at h1
  have hne := resolve_ne h0
  have hsafe : safeB p [.mk [] [] (resolve s) []] = true := by rw [safe_text hr, decide_eq_false hne]; rfl
  have h2 := (page_toks hsafe).2
  rw [show tkL [.mk [] [] (resolve s) []] = [textT (resolve s)] from by rw [tkL_cons, tkN_eq, if_pos (show (Node.mk [] [] (resolve s) []).name = [] from rfl), tkL]; rfl] at h2
  obtain ⟨h3, h4, _⟩ := safe_parts.1 hsafe
  unfold shownB
  rw [h1, h2]
  dsimp only
  rw [tree_id hr hsafe, if_pos ⟨h3, h4⟩, htL_text]
def OneT (out : List Node) : Prop := out = [] ∨ ∃ x, x ≠ [] ∧ out = [.mk [] [] x []]
theorem OneT.put {out : List Node} (h : OneT out) {n : Node} (h0 : n.name = []) : OneT (putN out n) := by
 by_cases ht : n.text = []
 ·rw [putN_nil h0 ht]; exact h
 ·rcases h with rfl | ⟨x, hx, rfl⟩
  ·rw [putN_new h0 ht rfl]; exact .inr ⟨_, ht, rfl⟩
  ·have := putN_text h0 ht [] (.mk [] [] x []) rfl
   rw [List.nil_append] at this
   rw [this]
   exact .inr ⟨x ++ n.text, fun e => hx (List.append_eq_nil_iff.1 e).1, rfl⟩
mutual
theorem clN_one {p : Pol} (hp : p.el = []) : ∀ (n : Node) (out : List Node), OneT out → OneT (clN p out n)
 | .mk nm a t k, out, ho => by
  rw [clN]
  split
  ·rename_i h; exact ho.put h
  ·split
   ·exact ho
   ·rw [if_neg (by rw [hp]; exact List.not_mem_nil)]
    exact clL_one hp k out ho
theorem clL_one {p : Pol} (hp : p.el = []) : ∀ (l : List Node) (out : List Node), OneT out → OneT (clL p out l)
 | [], out, ho => by rw [clL]; exact ho
 | n :: r, out, ho => by rw [clL_cons]; exact clL_one hp r _ (clN_one hp n out ho)
end
theorem shown_nothing {p : Pol} (hp : p.el = []) (s : List UInt8) : ∃ x, shownB p s = escape false x := by
 unfold shownB
 cases hb : buildL (toks s) with
 | none => exact ⟨s, rfl⟩
 | some l =>
  dsimp only
  split
  ·rcases clL_one hp l [] (.inl rfl) with h | ⟨x, _, h⟩
   ·exact ⟨[], by rw [show treeB p l = [] from h, htL]; rfl⟩
   ·exact ⟨x, by rw [show treeB p l = _ from h, htL_text]⟩
  ·exact ⟨s, rfl⟩
end Go.Proofs.YthngplknbbcecaaGreatDoor

namespace Go.Proofs.YthngplknbbcecaaGreatDoor
open Go.Aw
set_option maxHeartbeats 1600000
set_option linter.unusedSimpArgs false
set_option linter.unusedVariables false
theorem dok_str {n : Nat} {row : List D} (h : DOk Tryz.prog n 9 row) : ∃ s, row = [.str s] ∧ s.length ≤ 140737488351232 := by
 cases n with
 | zero => exact h.elim
 | succ n => simp only [DOk, Tryz.underlying9] at h; exact h
theorem dok_int {n : Nat} {row : List D} (h : DOk Tryz.prog n 3 row) : ∃ x, row = [.int .i64 x] ∧ -9223372036854775808 ≤ x ∧ x ≤ 9223372036854775807 := by
 cases n with
 | zero => exact h.elim
 | succ n => simp only [DOk, Tryz.underlying3] at h; exact h
theorem dok_u8 {n : Nat} {row : List D} (h : DOk Tryz.prog n 5 row) : ∃ c : UInt8, row = [.int .u8 c.toNat] := by
 cases n with
 | zero => exact h.elim
 | succ n =>
  simp only [DOk, Tryz.underlying5] at h
  obtain ⟨x, rfl, h0, h1⟩ := h
  refine ⟨UInt8.ofNat x.toNat, ?_⟩
  have : (UInt8.ofNat x.toNat).toNat = x.toNat := UInt8.toNat_ofNat_of_lt' (by show _ < 256; omega)
  rw [this]
  congr 2
  omega
theorem bytes_str : Tryz.prog.bytesOf 9 = 16 := by kernel_rfl
theorem dok_strs {n : Nat} {row : List D} (h : DOk Tryz.prog n 22 row) : ∃ l : List (List UInt8), row = [.sl (strsD l)] ∧ l.length * 16 ≤ 140737488351232 ∧ ∀ s ∈ l, s.length ≤ 140737488351232 := by
 cases n with
 | zero => exact h.elim
 | succ n =>
  simp only [DOk, Tryz.underlying22] at h
  obtain ⟨rows, rfl, h1, h2⟩ := h
  rw [bytes_str] at h1
  have : ∃ l : List (List UInt8), rows = strsD l ∧ ∀ s ∈ l, s.length ≤ 140737488351232 := by
   clear h1
   induction rows with
   | nil => exact ⟨[], rfl, by simp⟩
   | cons r rs ih =>
    obtain ⟨s, rfl, hs⟩ := dok_str (h2 r (by simp))
    obtain ⟨l, rfl, hl⟩ := ih (fun q hq => h2 q (by simp [hq]))
    exact ⟨s :: l, rfl, by simpa using ⟨hs, hl⟩⟩
  obtain ⟨l, rfl, hl⟩ := this
  exact ⟨l, rfl, by simpa [strsD] using h1, hl⟩
end Go.Proofs.YthngplknbbcecaaGreatDoor
namespace Go.Proofs.YthngplknbbcecaaGreatDoor
open Go.Aw
set_option maxHeartbeats 1600000
set_option linter.unusedSimpArgs false
set_option linter.unusedVariables false
theorem attrsH_wt : ∀ l : List (List UInt8 × List UInt8), (attrsH l).length ≤ 6 * wtA l
 | [] => Nat.le_refl _
 | a :: r => by
  have e : wtA (a :: r) = (1 + a.1.length + a.2.length) + wtA r := rfl
  have ih := attrsH_wt r
  have hel := (escape_len a.2.length true a.2 (Nat.le_refl _)).2
  rw [attrsH_cons, e]
  unfold attrH
  simp only [List.length_append, List.length_cons, List.length_nil]
  omega
mutual
theorem ht_wtN : ∀ n : Node, (htN n).length ≤ 6 * wtN n
 | .mk nm a t k => by
  have h1 := attrsH_wt a
  have h2 := ht_wtL k
  have h3 := (escape_len t.length false t (Nat.le_refl _)).2
  unfold htN wtN
  split
  ·omega
  ·split
   ·simp only [List.length_append, List.length_cons, List.length_nil]; omega
   ·simp only [List.length_append, List.length_cons, List.length_nil]; omega
theorem ht_wtL : ∀ l : List Node, (htL l).length ≤ 6 * wtL l
 | [] => by simp [htL]
 | n :: r => by
  have h1 := ht_wtN n
  have h2 := ht_wtL r
  unfold htL wtL
  rw [List.length_append]
  omega
end
end Go.Proofs.YthngplknbbcecaaGreatDoor

namespace Go.Proofs.YthngplknbbcecaaGreatDoor
open Go.Aw
set_option maxHeartbeats 1600000
set_option linter.unusedSimpArgs false
set_option linter.unusedVariables false
theorem startO_tot (nm : List UInt8) (ops : List Op) : totO (startO nm ops) ≤ totO ops := by
 show totO (if nm = [108, 105] ∧ liB (if nm ∈ blocks then closeO [112] ops else ops) = true then closeO [108, 105] (if nm ∈ blocks then closeO [112] ops else ops) else (if nm ∈ blocks then closeO [112] ops else ops)) ≤ _
 have h : totO (if nm ∈ blocks then closeO [112] ops else ops) ≤ totO ops := by
  split
  ·exact closeO_tot _ _
  ·exact Nat.le_refl _
 generalize (if nm ∈ blocks then closeO [112] ops else ops) = x at h ⊢
 split
 ·exact Nat.le_trans (closeO_tot _ _) h
 ·exact h
theorem startS_tot (nm : List UInt8) (ats : List Attr) (s : Bs) : totO (startS nm ats s).ops ≤ totO s.ops + 1 := by
 have h := startO_tot nm s.ops
 show totO (if nm ∈ voids then putO (.mk nm ats [] []) (startO nm s.ops) else (nm, ats, []) :: startO nm s.ops) ≤ _
 split
 ·have := putO_tot (.mk nm ats [] []) (startO nm s.ops); omega
 ·rw [totO]; simp only [List.length_nil]; omega
set_option maxRecDepth 100000 in
theorem end_ok (nm : List UInt8) (s : Bs) (hs : totO s.ops ≤ 999990) (hc : s.cnt ≤ 1000000) : Meth Tryz.prog 68 [.ref 0 0 0, .d (.str nm)] (.tup []) s (endS nm s) := by
 intro o r vs ho hv
 have hm1 := close_ok nm s (by omega)
 have hm2 := start_ok nm [] s (by omega) hc (by simp)
 have hm3 := close_ok nm (startS nm [] s) (by have := startS_tot nm [] s; omega)
 have share : ∀ s' : Bs, endS nm s = s' → CallsAbs Tryz.prog 68 [.ref 0 0 0, .d (.str nm)] (B0 vs o r s.cnt s.full) (fun x σ' => x = .tup [] ∧ Bp s'.ops s'.cnt s'.full σ') → CallsAbs Tryz.prog 68 [.ref 0 0 0, .d (.str nm)] (B0 vs o r s.cnt s.full) (fun x σ' => x = .tup [] ∧ Bp (endS nm s).ops (endS nm s).cnt (endS nm s).full σ') := fun s' e h => e ▸ h
 by_cases hop : openB nm s.ops = true
 ·refine share ⟨closeO nm s.ops, s.cnt, s.full⟩ (by unfold endS; rw [if_pos hop]) ?_
  refine fn_okTE Tryz.wf Tryz.tab_ok Tryz.func68 (by decide +kernel) rfl rfl ?_
  refine E.fm (s' := [(0, .ref 0 0 0), (1, .d (.str nm))]) (σ' := B3 vs o r s.cnt s.full) (B_up vs o r _ _ ⟨⟨rfl, rfl, rfl⟩, rfl, trivial⟩) ?_
  refine E.of Tryz.wf Tryz.tab_ok ?_
  refine hm1.use (vs := vs) 4 5 6 7 8 9 10 ho hv rfl rfl rfl rfl rfl rfl rfl rfl rfl rfl ⟨⟨rfl, rfl, rfl⟩, rfl, trivial⟩ fun o2 r2 vs2 q1 q2 => ?_
  rw [hop]
  refine wR (k := ?_)
  exact ⟨.tup [], B3 vs2 o2 r2 _ _, fin_mv [.old 7, .old 8, .old 9] rfl rfl rfl ⟨⟨rfl, rfl⟩, ⟨rfl, .inl ⟨rfl, dataA_pure _⟩⟩, ⟨rfl, .inr (openR_rel rfl _ _ _)⟩, ⟨rfl, .inr ⟨⟨⟨rfl, rfl, rfl⟩, rfl, rfl, trivial⟩, trivial⟩⟩, trivial⟩ trivial, rfl, _, _, vs2, q1, q2, rfl⟩
 have hop : openB nm s.ops = false := by simpa using hop
 have hcl : closeO nm s.ops = s.ops := by unfold closeO; rw [if_neg (by rw [hop]; decide)]
 by_cases hp : nm = [112]
 ·refine share ⟨closeO nm (startS nm [] s).ops, (startS nm [] s).cnt, (startS nm [] s).full⟩ (by unfold endS; rw [if_neg (by rw [hop]; decide), if_pos hp]) ?_
  refine fn_okTE Tryz.wf Tryz.tab_ok Tryz.func68 (by decide +kernel) rfl rfl ?_
  refine E.fm (s' := [(0, .ref 0 0 0), (1, .d (.str nm))]) (σ' := B3 vs o r s.cnt s.full) (B_up vs o r _ _ ⟨⟨rfl, rfl, rfl⟩, rfl, trivial⟩) ?_
  refine E.of Tryz.wf Tryz.tab_ok ?_
  refine hm1.use (vs := vs) 4 5 6 7 8 9 10 ho hv rfl rfl rfl rfl rfl rfl rfl rfl rfl rfl ⟨⟨rfl, rfl, rfl⟩, rfl, trivial⟩ fun o2 r2 vs2 q1 q2 => ?_
  rw [hop]
  dsimp only at q1
  rw [hcl] at q1
  repeat' (first | refine wO ?_ | (refine ⟨fun h => ?_, fun h => ?_⟩ <;> (try simp only [wS, List.length_cons, List.length_nil] at h) <;> (try exact wX h)) | refine wP ?_ | fail)
  ·refine hm2.use (vs := vs2) 7 8 9 10 11 12 13 q1 q2 rfl rfl rfl rfl rfl rfl rfl rfl rfl rfl ⟨⟨rfl, rfl, rfl⟩, rfl, rfl, trivial⟩ fun o3 r3 vs3 q3 q4 => ?_
   refine hm3.use (vs := vs3) 10 11 12 13 14 15 16 q3 q4 rfl rfl rfl rfl rfl rfl rfl rfl rfl rfl ⟨⟨rfl, rfl, rfl⟩, rfl, trivial⟩ fun o4 r4 vs4 q5 q6 => ?_
   exact ⟨.tup [], B3 vs4 o4 r4 _ _, fin_mv [.old 13, .old 14, .old 15] rfl rfl rfl ⟨⟨rfl, rfl⟩, ⟨rfl, .inl ⟨rfl, dataA_pure _⟩⟩, ⟨rfl, .inr (openR_rel rfl _ _ _)⟩, ⟨rfl, .inr ⟨⟨⟨rfl, rfl, rfl⟩, rfl, rfl, trivial⟩, trivial⟩⟩, trivial⟩ trivial, rfl, _, _, vs4, q5, q6, rfl⟩
  all_goals exact absurd hp (by assumption)
 by_cases hb : nm = [98, 114]
 ·refine share (startS nm [] s) (by unfold endS; rw [if_neg (by rw [hop]; decide), if_neg hp, if_pos hb]) ?_
  refine fn_okTE Tryz.wf Tryz.tab_ok Tryz.func68 (by decide +kernel) rfl rfl ?_
  refine E.fm (s' := [(0, .ref 0 0 0), (1, .d (.str nm))]) (σ' := B3 vs o r s.cnt s.full) (B_up vs o r _ _ ⟨⟨rfl, rfl, rfl⟩, rfl, trivial⟩) ?_
  refine E.of Tryz.wf Tryz.tab_ok ?_
  refine hm1.use (vs := vs) 4 5 6 7 8 9 10 ho hv rfl rfl rfl rfl rfl rfl rfl rfl rfl rfl ⟨⟨rfl, rfl, rfl⟩, rfl, trivial⟩ fun o2 r2 vs2 q1 q2 => ?_
  rw [hop]
  dsimp only at q1
  rw [hcl] at q1
  repeat' (first | refine wO ?_ | (refine ⟨fun h => ?_, fun h => ?_⟩ <;> (try simp only [wS, List.length_cons, List.length_nil] at h) <;> (try exact wX h)) | refine wP ?_ | fail)
  ·refine hm2.use (vs := vs2) 7 8 9 10 11 12 13 q1 q2 rfl rfl rfl rfl rfl rfl rfl rfl rfl rfl ⟨⟨rfl, rfl, rfl⟩, rfl, rfl, trivial⟩ fun o3 r3 vs3 q3 q4 => ?_
   exact ⟨.tup [], B3 vs3 o3 r3 _ _, fin_mv [.old 10, .old 11, .old 12] rfl rfl rfl ⟨⟨rfl, rfl⟩, ⟨rfl, .inl ⟨rfl, dataA_pure _⟩⟩, ⟨rfl, .inr (openR_rel rfl _ _ _)⟩, ⟨rfl, .inr ⟨⟨⟨rfl, rfl, rfl⟩, rfl, rfl, trivial⟩, trivial⟩⟩, trivial⟩ trivial, rfl, _, _, vs3, q3, q4, rfl⟩
  all_goals first | exact absurd (by assumption) hp | exact absurd hb (by assumption)
 ·refine share s (by unfold endS; rw [if_neg (by rw [hop]; decide), if_neg hp, if_neg hb]) ?_
  refine fn_okTE Tryz.wf Tryz.tab_ok Tryz.func68 (by decide +kernel) rfl rfl ?_
  refine E.fm (s' := [(0, .ref 0 0 0), (1, .d (.str nm))]) (σ' := B3 vs o r s.cnt s.full) (B_up vs o r _ _ ⟨⟨rfl, rfl, rfl⟩, rfl, trivial⟩) ?_
  refine E.of Tryz.wf Tryz.tab_ok ?_
  refine hm1.use (vs := vs) 4 5 6 7 8 9 10 ho hv rfl rfl rfl rfl rfl rfl rfl rfl rfl rfl ⟨⟨rfl, rfl, rfl⟩, rfl, trivial⟩ fun o2 r2 vs2 q1 q2 => ?_
  rw [hop]
  dsimp only at q1
  rw [hcl] at q1
  refine wR (k := ?_)
  exact ⟨.tup [], B3 vs2 o2 r2 _ _, fin_mv [.old 7, .old 8, .old 9] rfl rfl rfl ⟨⟨rfl, rfl⟩, ⟨rfl, .inl ⟨rfl, dataA_pure _⟩⟩, ⟨rfl, .inr (openR_rel rfl _ _ _)⟩, ⟨rfl, .inr ⟨⟨⟨rfl, rfl, rfl⟩, rfl, rfl, trivial⟩, trivial⟩⟩, trivial⟩ trivial, rfl, _, _, vs2, q1, q2, rfl⟩
def txB (X : Nat) (ops : List Op) : Prop := ∀ o ∈ ops, ∀ n ∈ o.2.2, n.text.length ≤ X
theorem txB_mono {X Y : Nat} {ops : List Op} (h : txB X ops) (hl : X ≤ Y) : txB Y ops := fun o ho n hn => Nat.le_trans (h o ho n hn) hl
theorem putO_tx {X : Nat} (n : Node) (hn : n.text.length ≤ X) : ∀ {ops : List Op}, txB X ops → txB X (putO n ops)
 | [], h => h
 | (a, b, k) :: r, h => fun o ho m hm => by
  rcases List.mem_cons.1 ho with rfl | ho
  ·rcases List.mem_append.1 hm with hm | hm
   ·exact h (a, b, k) (by simp) m hm
   ·rw [List.mem_singleton.1 hm]; exact hn
  ·exact h o (by simp [ho]) m hm
theorem shutO_tx {X : Nat} : ∀ {ops : List Op}, txB X ops → txB X (shutO ops)
 | [], h => h
 | (a, b, k) :: r, h => putO_tx (ops := r) (.mk a b [] k) (Nat.zero_le _) fun o ho => h o (by simp [ho])
theorem closeF_tx {X : Nat} (nm : List UInt8) : ∀ (n : Nat) {ops : List Op}, txB X ops → txB X (closeF nm n ops)
 | 0, _, h => h
 | n + 1, [], h => h
 | n + 1, [_], h => h
 | n + 1, o :: p :: r, h => by
  rw [closeF]
  split
  ·exact shutO_tx h
  ·exact closeF_tx nm n (shutO_tx h)
theorem closeO_tx {X : Nat} (nm : List UInt8) {ops : List Op} (h : txB X ops) : txB X (closeO nm ops) := by
 unfold closeO
 split
 ·exact closeF_tx nm _ h
 ·exact h
theorem startO_tx {X : Nat} (nm : List UInt8) {ops : List Op} (h0 : txB X ops) : txB X (startO nm ops) := by
 show txB X (if nm = [108, 105] ∧ liB (if nm ∈ blocks then closeO [112] ops else ops) = true then closeO [108, 105] (if nm ∈ blocks then closeO [112] ops else ops) else (if nm ∈ blocks then closeO [112] ops else ops))
 have h : txB X (if nm ∈ blocks then closeO [112] ops else ops) := by
  split
  ·exact closeO_tx _ h0
  ·exact h0
 generalize (if nm ∈ blocks then closeO [112] ops else ops) = x at h ⊢
 split
 ·exact closeO_tx _ h
 ·exact h
theorem startS_tx {X : Nat} (nm : List UInt8) (ats : List Attr) {s : Bs} (h : txB X s.ops) : txB X (startS nm ats s).ops := by
 have h0 := startO_tx nm h
 show txB X (if nm ∈ voids then putO (.mk nm ats [] []) (startO nm s.ops) else (nm, ats, []) :: startO nm s.ops)
 split
 ·exact putO_tx _ (Nat.zero_le _) h0
 ·intro o ho
  rcases List.mem_cons.1 ho with rfl | ho
  ·intro n hn; cases hn
  ·exact h0 o ho
theorem endS_tx {X : Nat} (nm : List UInt8) {s : Bs} (h : txB X s.ops) : txB X (endS nm s).ops := by
 unfold endS
 split
 ·exact closeO_tx _ h
 ·split
  ·exact closeO_tx _ (startS_tx nm [] h)
  ·split
   ·exact startS_tx nm [] h
   ·exact h
theorem addText_tx {X : Nat} (x : List UInt8) : ∀ {ops : List Op}, txB X ops → txB (X + x.length) (addText x ops)
 | [], h => fun o ho => by cases ho
 | (a, b, k) :: r, h => by
  have hr : txB (X + x.length) r := fun o ho n hn => Nat.le_trans (h o (by simp [ho]) n hn) (Nat.le_add_right _ _)
  have hk : ∀ n ∈ k, n.text.length ≤ X := h (a, b, k) (by simp)
  cases hn : k.getLast? with
  | some n =>
   have e : addText x ((a, b, k) :: r) = (a, b, k.dropLast ++ [.mk n.name n.attrs (n.text ++ x) n.kids]) :: r := by simp only [addText, hn]
   have hn2 := hk n (List.mem_of_getLast? hn)
   rw [e]
   intro o ho m hm
   rcases List.mem_cons.1 ho with rfl | ho
   ·rcases List.mem_append.1 hm with hm | hm
    ·exact Nat.le_trans (hk m (List.dropLast_subset _ hm)) (Nat.le_add_right _ _)
    ·rw [List.mem_singleton.1 hm]
     show (n.text ++ x).length ≤ _
     rw [List.length_append]; omega
   ·exact hr o ho m hm
  | none =>
   have e : addText x ((a, b, k) :: r) = (a, b, k) :: r := by simp only [addText, hn]
   rw [e]
   exact txB_mono h (Nat.le_add_right _ _)
theorem textS_tx {X : Nat} (x : List UInt8) {s : Bs} (h : txB X s.ops) : txB (X + x.length) (textS x s).ops := by
 unfold textS
 split
 ·exact txB_mono h (Nat.le_add_right _ _)
 ·split
  ·exact addText_tx x h
  ·exact putO_tx (.mk [] [] x []) (by show x.length ≤ _; omega) (txB_mono h (Nat.le_add_right _ _))
theorem tokS_tx {X : Nat} (t : Tok) {s : Bs} (h : txB X s.ops) : txB (X + t.tx.length) (tokS t s).ops := by
 unfold tokS
 split
 ·exact textS_tx _ h
 ·split
  ·exact txB_mono (startS_tx _ _ h) (Nat.le_add_right _ _)
  ·split
   ·exact txB_mono (endS_tx _ h) (Nat.le_add_right _ _)
   ·exact txB_mono h (Nat.le_add_right _ _)
def Inv (s : Bs) : Prop := totO s.ops ≤ s.cnt + 1
theorem addText_tot (x : List UInt8) : ∀ ops : List Op, totO (addText x ops) ≤ totO ops
 | [] => Nat.le_refl _
 | (a, b, k) :: r => by
  cases hn : k.getLast? with
  | some n =>
   have e : addText x ((a, b, k) :: r) = (a, b, k.dropLast ++ [.mk n.name n.attrs (n.text ++ x) n.kids]) :: r := by simp only [addText, hn]
   rw [e]
   have : k ≠ [] := fun e => by subst e; cases hn
   have hl := List.length_pos_iff.2 this
   simp only [totO, List.length_append, List.length_dropLast, List.length_cons, List.length_nil]; omega
  | none =>
   have e : addText x ((a, b, k) :: r) = (a, b, k) :: r := by simp only [addText, hn]
   rw [e]
   exact Nat.le_refl _
theorem startS_inv (nm : List UInt8) (ats : List Attr) {s : Bs} (h : Inv s) : Inv (startS nm ats s) := by
 have := startS_tot nm ats s
 unfold Inv at h ⊢
 show _ ≤ s.cnt + 1 + 1
 omega
theorem endS_inv (nm : List UInt8) {s : Bs} (h : Inv s) : Inv (endS nm s) := by
 unfold endS
 split
 ·exact Nat.le_trans (closeO_tot _ _) h
 ·split
  ·exact Nat.le_trans (closeO_tot _ _) (startS_inv nm [] h)
  ·split
   ·exact startS_inv nm [] h
   ·exact h
theorem textS_inv (x : List UInt8) {s : Bs} (h : Inv s) : Inv (textS x s) := by
 unfold textS
 split
 ·exact h
 ·split
  ·exact Nat.le_trans (addText_tot _ _) h
  ·have := putO_tot (.mk [] [] x []) s.ops
   unfold Inv at h ⊢
   show totO (putO _ s.ops) ≤ s.cnt + 1 + 1
   omega
theorem tokS_inv (t : Tok) {s : Bs} (h : Inv s) : Inv (tokS t s) := by
 unfold tokS
 split
 ·exact textS_inv _ h
 ·split
  ·exact startS_inv _ _ h
  ·split
   ·exact endS_inv _ h
   ·exact h
def Few (s : Bs) : Prop := s.full = false → s.cnt ≤ 2000
theorem countS_few (s : Bs) : Few (countS s) := fun h => by
 unfold countS at h ⊢
 simp only [Bool.or_eq_false_iff, decide_eq_false_iff_not] at h
 dsimp only; omega
theorem endS_few (nm : List UInt8) {s : Bs} (h : Few s) : Few (endS nm s) := by
 unfold endS
 split
 ·exact h
 ·split
  ·exact countS_few _
  ·split
   ·exact countS_few _
   ·exact h
theorem textS_few (x : List UInt8) {s : Bs} (h : Few s) : Few (textS x s) := by
 unfold textS
 split
 ·exact h
 ·split
  ·exact h
  ·exact countS_few _
theorem tokS_few (t : Tok) {s : Bs} (h : Few s) : Few (tokS t s) := by
 unfold tokS
 split
 ·exact textS_few _ h
 ·split
  ·exact countS_few _
  ·split
   ·exact endS_few _ h
   ·exact h
theorem finO_step (o p : Op) (r : List Op) : finO (o :: p :: r).length (o :: p :: r) = finO (shutO (o :: p :: r)).length (shutO (o :: p :: r)) := by
 rw [shutO_len]
 show finO (r.length + 1 + 1) (o :: p :: r) = _
 rw [finO]
def builtA (T : List Tok) : AV := match buildL T with
 | some l => .tup [.d (.sl (nodesD l)), .d (.int .i64 0)]
 | none => .tup [.d (.sl []), .d (.int .i64 5)]
def txs (T : List Tok) : Nat := (T.map fun t => t.tx.length).sum
def start0 : Bs := ⟨[([], [], [])], 0, false⟩
theorem builtA_pure (T : List Tok) : (builtA T).pure = true := by unfold builtA; cases buildL T <;> rfl
theorem builtA_none {T : List Tok} (h : buildL T = none) : builtA T = .tup [.d (.sl []), .d (.int .i64 5)] := by unfold builtA; rw [h]
theorem builtA_some {T : List Tok} {l : List Node} (h : buildL T = some l) : builtA T = .tup [.d (.sl (nodesD l)), .d (.int .i64 0)] := by unfold builtA; rw [h]
theorem runS_none {T : List Tok} (h : runS T start0 = none) : buildL T = none := by unfold buildL; rw [show runS T ⟨[([], [], [])], 0, false⟩ = _ from h]; rfl
theorem runS_cons (t : Tok) (r : List Tok) (s : Bs) : runS (t :: r) s = if (tokS t s).full then none else runS r (tokS t s) := rfl
theorem tok_arg (t : Tok) : tokD t = [.int .i64 t.kd, .str t.nm, .sl (attrsD t.ats), .bool t.cl, .str t.tx] := rfl
set_option maxRecDepth 100000 in
theorem Build_ok (T : List Tok) (hT : T.length ≤ 1000000) (ha : ∀ t ∈ T, t.ats.length ≤ 1000000) (hx : txs T ≤ 1000000000000000) : PureC Tryz.prog 27 [.d (.sl (toksD T))] (builtA T) := by
 have hp := builtA_pure T
 refine pure_okT Tryz.wf Tryz.tab_ok Tryz.func27 (by decide +kernel) rfl rfl rfl hp ?_
 have hn := toksD_len T
 repeat' (first | refine wO ?_ | (refine ⟨fun h => ?_, fun h => ?_⟩ <;> (try simp only [wS, List.length_cons, List.length_nil] at h) <;> (try exact wX h)) | refine wP ?_ | fail)
 refine E.fm (s' := [(4, .ref 1 0 0), (11, .d (.sl (toksD T))), (12, .d (.int .i64 ((toksD T).length : Nat))), (13, .d (.int .i64 0))]) (fin_kin0 (4, 58)) ?_
 refine loopT Tryz.wf Tryz.tab_ok (fun n s' σ => ∃ (k : Nat) (s : Bs) (o : Op) (r : List Op) (vs : List OV), n = T.length - k ∧ k ≤ T.length ∧ runS T start0 = runS (T.drop k) s ∧ Inv s ∧ Few s ∧ s.full = false ∧ txB (txs (T.take k)) s.ops ∧ s.ops = o :: r ∧ vs.length = r.length ∧
   s' = [(4, .ref 0 0 0), (11, .d (.sl (toksD T))), (12, .d (.int .i64 T.length)), (13, .d (.int .i64 k))] ∧ σ = B0 vs o r s.cnt s.full)
  ⟨0, start0, ([], [], []), [], [], rfl, Nat.zero_le _, rfl, Nat.le_refl _, fun _ => Nat.zero_le _, rfl, (fun o ho n hn => by rw [List.mem_singleton.1 ho] at hn; cases hn), rfl, rfl, rfl, rfl⟩
  (Mv.of [.old 1, .old 0, .phan 4, .old 2] rfl rfl rfl ⟨⟨rfl, rfl⟩, rfl, ⟨rfl, .inr ⟨⟨rfl, rfl, rfl, ⟨rfl, rfl, rfl⟩, rfl, trivial⟩, trivial⟩⟩, ⟨rfl, .inr ⟨⟨⟨rfl, rfl, rfl⟩, rfl, rfl, trivial⟩, trivial⟩⟩, trivial⟩ ⟨⟨rfl, rfl, rfl⟩, rfl, congrArg (fun n : Nat => D.int .i64 n) hn.symm, rfl, trivial⟩) ?_
 rintro _ _ _ ⟨k, s, o, r, vs, rfl, hk, hrun, hinv, hfew, hful, htx, ho, hv, rfl, rfl⟩
 obtain ⟨ops, c, f⟩ := s
 dsimp only at ho hful htx
 subst ho
 subst hful
 have hc : c ≤ 2000 := hfew rfl
 have htot : totO (o :: r) ≤ 2001 := by have : totO (o :: r) ≤ c + 1 := hinv; omega
 refine ⟨fun h => ?_, fun h => ?_⟩
 ·have hlt : k < T.length := by have := of_decide_eq_true h; omega
  clear h
  have hg := toksD_get T k hlt
  rw [tok_arg] at hg
  have hmem : T[k] ∈ T := List.getElem_mem hlt
  have hat := ha _ hmem
  have htk : txs (T.take (k + 1)) = txs (T.take k) + T[k].tx.length := by
   unfold txs; rw [List.take_succ_eq_append_getElem hlt, List.map_append, List.sum_append]; simp
  have htl : txs (T.take (k + 1)) ≤ txs T := by
   have : txs T = txs (T.take (k + 1)) + txs (T.drop (k + 1)) := by
    conv => lhs; rw [← List.take_append_drop (k + 1) T]
    simp only [txs, List.map_append, List.sum_append]
   omega
  rw [List.drop_eq_getElem_cons hlt, runS_cons] at hrun
  have hinv2 := tokS_inv T[k] hinv
  have hfew2 := tokS_few T[k] hfew
  have htx2 := tokS_tx T[k] (s := ⟨o :: r, c, false⟩) htx
  rw [← htk] at htx2
  repeat' (first | refine wO ?_ | (refine ⟨fun h => ?_, fun h => ?_⟩ <;> (try simp only [wS, List.length_cons, List.length_nil] at h) <;> (try exact wX h)) | refine wP ?_ | fail)
  ·have e : tokS T[k] ⟨o :: r, c, false⟩ = textS T[k].tx ⟨o :: r, c, false⟩ := by unfold tokS; rw [if_pos (by assumption)]
   have hm := text_ok2 T[k].tx ⟨o :: r, c, false⟩ (show totO (o :: r) ≤ _ by omega) (show c ≤ _ by omega) (fun o' ho' n hn' => by have := htx o' ho' n hn'; omega)
   rw [← e] at hm
   refine hm.use (vs := vs) 1 2 3 5 6 7 8 rfl hv rfl rfl rfl rfl rfl rfl rfl rfl rfl rfl ⟨⟨rfl, rfl, rfl⟩, rfl, trivial⟩ fun o2 r2 vs2 q1 q2 => ?_
   repeat' (first | refine wO ?_ | (refine ⟨fun h => ?_, fun h => ?_⟩ <;> (try simp only [wS, List.length_cons, List.length_nil] at h) <;> (try exact wX h)) | refine wP ?_ | fail)
   ·rw [if_pos h] at hrun
    exact ⟨.tup [.d (.sl []), .d (.int .i64 5)], ⟨0, []⟩, fin_mv [] rfl rfl rfl trivial ⟨rfl, rfl, trivial⟩, (builtA_none (runS_none hrun)).symm⟩
   ·have hf2 : (tokS T[k] ⟨o :: r, c, false⟩).full = false := by simpa using h
    rw [if_neg (by rw [hf2]; decide)] at hrun
    exact ⟨_, _, _, ⟨k + 1, tokS T[k] ⟨o :: r, c, false⟩, o2, r2, vs2, rfl, hlt, hrun, hinv2, hfew2, hf2, htx2, q1, q2, rfl, rfl⟩, by omega, Mv.of [.old 0, .old 5, .old 6, .old 7] rfl rfl rfl ⟨⟨rfl, rfl⟩, ⟨rfl, .inl ⟨rfl, dataA_pure _⟩⟩, ⟨rfl, .inr (openR_rel rfl _ _ _)⟩, ⟨rfl, .inr ⟨⟨⟨rfl, rfl, rfl⟩, rfl, rfl, trivial⟩, trivial⟩⟩, trivial⟩ ⟨⟨rfl, rfl, rfl⟩, rfl, rfl, rfl, trivial⟩⟩
  ·have e : tokS T[k] ⟨o :: r, c, false⟩ = startS T[k].nm T[k].ats ⟨o :: r, c, false⟩ := by unfold tokS; rw [if_neg (by assumption), if_pos (by assumption)]
   have hm := start_ok T[k].nm T[k].ats ⟨o :: r, c, false⟩ (show totO (o :: r) ≤ _ by omega) (show c ≤ _ by omega) hat
   rw [← e] at hm
   refine hm.use (vs := vs) 1 2 3 5 6 7 8 rfl hv rfl rfl rfl rfl rfl rfl rfl rfl rfl rfl ⟨⟨rfl, rfl, rfl⟩, rfl, rfl, trivial⟩ fun o2 r2 vs2 q1 q2 => ?_
   repeat' (first | refine wO ?_ | (refine ⟨fun h => ?_, fun h => ?_⟩ <;> (try simp only [wS, List.length_cons, List.length_nil] at h) <;> (try exact wX h)) | refine wP ?_ | fail)
   ·rw [if_pos h] at hrun
    exact ⟨.tup [.d (.sl []), .d (.int .i64 5)], ⟨0, []⟩, fin_mv [] rfl rfl rfl trivial ⟨rfl, rfl, trivial⟩, (builtA_none (runS_none hrun)).symm⟩
   ·have hf2 : (tokS T[k] ⟨o :: r, c, false⟩).full = false := by simpa using h
    rw [if_neg (by rw [hf2]; decide)] at hrun
    exact ⟨_, _, _, ⟨k + 1, tokS T[k] ⟨o :: r, c, false⟩, o2, r2, vs2, rfl, hlt, hrun, hinv2, hfew2, hf2, htx2, q1, q2, rfl, rfl⟩, by omega, Mv.of [.old 0, .old 5, .old 6, .old 7] rfl rfl rfl ⟨⟨rfl, rfl⟩, ⟨rfl, .inl ⟨rfl, dataA_pure _⟩⟩, ⟨rfl, .inr (openR_rel rfl _ _ _)⟩, ⟨rfl, .inr ⟨⟨⟨rfl, rfl, rfl⟩, rfl, rfl, trivial⟩, trivial⟩⟩, trivial⟩ ⟨⟨rfl, rfl, rfl⟩, rfl, rfl, rfl, trivial⟩⟩
  ·have e : tokS T[k] ⟨o :: r, c, false⟩ = endS T[k].nm ⟨o :: r, c, false⟩ := by unfold tokS; rw [if_neg (by assumption), if_neg (by assumption), if_pos (by assumption)]
   have hm := end_ok T[k].nm ⟨o :: r, c, false⟩ (show totO (o :: r) ≤ _ by omega) (show c ≤ _ by omega)
   rw [← e] at hm
   refine hm.use (vs := vs) 1 2 3 5 6 7 8 rfl hv rfl rfl rfl rfl rfl rfl rfl rfl rfl rfl ⟨⟨rfl, rfl, rfl⟩, rfl, trivial⟩ fun o2 r2 vs2 q1 q2 => ?_
   repeat' (first | refine wO ?_ | (refine ⟨fun h => ?_, fun h => ?_⟩ <;> (try simp only [wS, List.length_cons, List.length_nil] at h) <;> (try exact wX h)) | refine wP ?_ | fail)
   ·rw [if_pos h] at hrun
    exact ⟨.tup [.d (.sl []), .d (.int .i64 5)], ⟨0, []⟩, fin_mv [] rfl rfl rfl trivial ⟨rfl, rfl, trivial⟩, (builtA_none (runS_none hrun)).symm⟩
   ·have hf2 : (tokS T[k] ⟨o :: r, c, false⟩).full = false := by simpa using h
    rw [if_neg (by rw [hf2]; decide)] at hrun
    exact ⟨_, _, _, ⟨k + 1, tokS T[k] ⟨o :: r, c, false⟩, o2, r2, vs2, rfl, hlt, hrun, hinv2, hfew2, hf2, htx2, q1, q2, rfl, rfl⟩, by omega, Mv.of [.old 0, .old 5, .old 6, .old 7] rfl rfl rfl ⟨⟨rfl, rfl⟩, ⟨rfl, .inl ⟨rfl, dataA_pure _⟩⟩, ⟨rfl, .inr (openR_rel rfl _ _ _)⟩, ⟨rfl, .inr ⟨⟨⟨rfl, rfl, rfl⟩, rfl, rfl, trivial⟩, trivial⟩⟩, trivial⟩ ⟨⟨rfl, rfl, rfl⟩, rfl, rfl, rfl, trivial⟩⟩
  ·have e : tokS T[k] ⟨o :: r, c, false⟩ = ⟨o :: r, c, false⟩ := by unfold tokS; rw [if_neg (by assumption), if_neg (by assumption), if_neg (by assumption)]
   rw [e] at hrun htx2
   rw [if_neg (show ¬ (false = true) by decide)] at hrun
   exact ⟨_, _, _, ⟨k + 1, ⟨o :: r, c, false⟩, o, r, vs, rfl, hlt, hrun, hinv, hfew, rfl, htx2, rfl, hv, rfl, rfl⟩, by omega, Mv.of [.old 0, .old 1, .old 2, .old 3] rfl rfl rfl ⟨⟨rfl, rfl⟩, ⟨rfl, .inl ⟨rfl, dataA_pure _⟩⟩, ⟨rfl, .inr (openR_rel rfl _ _ _)⟩, ⟨rfl, .inr ⟨⟨⟨rfl, rfl, rfl⟩, rfl, rfl, trivial⟩, trivial⟩⟩, trivial⟩ ⟨⟨rfl, rfl, rfl⟩, rfl, rfl, rfl, trivial⟩⟩
 ·have hk' : k = T.length := by have := of_decide_eq_false h; omega
  subst hk'
  rw [List.drop_length] at hrun
  have hb : buildL T = some (rootK (finO (o :: r).length (o :: r))) := by
   unfold buildL
   rw [show runS T ⟨[([], [], [])], 0, false⟩ = _ from hrun]; rfl
  refine loopT Tryz.wf Tryz.tab_ok (fun n s' σ => ∃ (q : List Op) (o' : Op) (r' : List Op) (vs' : List OV), n = q.length ∧ q = o' :: r' ∧ vs'.length = r'.length ∧ totO q ≤ 1000000 ∧ rootK (finO (o :: r).length (o :: r)) = rootK (finO q.length q) ∧
    s' = [(4, .ref 0 0 0)] ∧ σ = B0 vs' o' r' c false)
   ⟨o :: r, o, r, vs, rfl, rfl, hv, by omega, rfl, rfl, rfl⟩ (Mv.of [.old 0, .old 1, .old 2, .old 3] rfl rfl rfl ⟨⟨rfl, rfl⟩, ⟨rfl, .inl ⟨rfl, dataA_pure _⟩⟩, ⟨rfl, .inr (openR_rel rfl _ _ _)⟩, ⟨rfl, .inr ⟨⟨⟨rfl, rfl, rfl⟩, rfl, rfl, trivial⟩, trivial⟩⟩, trivial⟩ ⟨⟨rfl, rfl, rfl⟩, trivial⟩) ?_
  rintro _ _ _ ⟨q, o', r', vs', rfl, rfl, hv', hq, hfin, rfl, rfl⟩
  have hlq := totO_len (o' :: r')
  rw [List.length_cons] at hlq
  repeat' (first | refine wO ?_ | (refine ⟨fun h => ?_, fun h => ?_⟩ <;> (try simp only [wS, List.length_cons, List.length_nil] at h) <;> (try exact wX h)) | refine wP ?_ | fail)
  ·have hr' : ∃ p u, r' = p :: u := by cases r' with
    | nil => exfalso; simp at *
    | cons p u => exact ⟨p, u, rfl⟩
   obtain ⟨p, u, rfl⟩ := hr'
   have hm := shut_ok ⟨o' :: p :: u, c, false⟩ hq (by simp)
   have hsl := shutO_len o' p u
   refine hm.use (o := o') (r := p :: u) (vs := vs') 1 2 3 4 5 6 7 rfl hv' rfl rfl rfl rfl rfl rfl rfl rfl rfl rfl ⟨⟨rfl, rfl, rfl⟩, trivial⟩ fun o2 r2 vs2 q1 q2 => ?_
   exact ⟨_, _, _, ⟨shutO (o' :: p :: u), o2, r2, vs2, rfl, q1, q2, Nat.le_trans (shutO_tot _) hq, hfin.trans (congrArg rootK (finO_step o' p u)), rfl, rfl⟩, by rw [hsl]; simp, Mv.of [.old 0, .old 4, .old 5, .old 6] rfl rfl rfl ⟨⟨rfl, rfl⟩, ⟨rfl, .inl ⟨rfl, dataA_pure _⟩⟩, ⟨rfl, .inr (openR_rel rfl _ _ _)⟩, ⟨rfl, .inr ⟨⟨⟨rfl, rfl, rfl⟩, rfl, rfl, trivial⟩, trivial⟩⟩, trivial⟩ ⟨⟨rfl, rfl, rfl⟩, trivial⟩⟩
  ·have hr' : r' = [] := by cases r' with
    | nil => rfl
    | cons p u => exfalso; simp at *; omega
   subst hr'
   obtain rfl : vs' = [] := List.length_eq_zero_iff.1 hv'
   have hb2 : buildL T = some o'.2.2 := by
    rw [hb, hfin]; obtain ⟨a, b, k⟩ := o'; rfl
   refine ⟨_, rfl, _, rfl, ?_⟩
   refine ⟨.tup [.d (.sl (nodesD o'.2.2)), .d (.int .i64 0)], ⟨0, []⟩, ?_, (builtA_some hb2).symm⟩
   have h1 := fin_freeze (σ0 := ⟨0, []⟩) (σ := B0 [] o' [] c false) (r := .tup [.own 2 0 o'.2.2.length, .d (.int .i64 0)]) (ds := nodesD o'.2.2) 2 rfl (rowsD_d _) ⟨fun _ => by rw [nodesA_len, Nat.zero_add]; exact Nat.le_refl _, trivial, trivial⟩
   rw [show frz 2 (nodesD o'.2.2) (.tup [.own 2 0 o'.2.2.length, .d (.int .i64 0)]) = .tup [frz 2 (nodesD o'.2.2) (.own 2 0 o'.2.2.length), .d (.int .i64 0)] from rfl, frz_whole 2 _ _ (nodesD_len _).symm] at h1
   exact h1.trans (fin_mv [] rfl rfl rfl trivial ⟨rfl, rfl, trivial⟩)
end Go.Proofs.YthngplknbbcecaaGreatDoor
