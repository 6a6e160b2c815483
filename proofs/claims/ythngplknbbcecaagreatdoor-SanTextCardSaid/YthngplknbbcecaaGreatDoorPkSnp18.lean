/- What is proved here serves the claim: the walk over the code and the plain laws, part 18 of 18. -/
import Derived.Test.YthngplknbbcecaaGreatDoorPkSnp17
namespace Go.Proofs.YthngplknbbcecaaGreatDoor
open Go.Aw
set_option maxHeartbeats 1600000
set_option linter.unusedSimpArgs false
set_option linter.unusedVariables false
def wtT (t : Tok) : Nat := 1 + t.nm.length + t.tx.length + wtA t.ats
def wtTs (T : List Tok) : Nat := (T.map wtT).sum
theorem wtTs_cons (t : Tok) (T : List Tok) : wtTs (t :: T) = wtT t + wtTs T := rfl
theorem wtTs_app (a b : List Tok) : wtTs (a ++ b) = wtTs a + wtTs b := by unfold wtTs; rw [List.map_append, List.sum_append]
theorem txs_wt : ∀ T : List Tok, txs T ≤ wtTs T
 | [] => Nat.le_refl _
 | t :: T => by
  have := txs_wt T
  rw [wtTs_cons]
  show t.tx.length + txs T ≤ _
  unfold wtT; omega
theorem valueAt_wt {s v r : List UInt8} (h : valueAt s = some (v, r)) : v.length + r.length ≤ s.length := by
 unfold valueAt at h
 split at h
 ·cases h; simp
 ·split at h
  ·split at h
   ·cases h
   ·cases h; simp only [List.length_take, List.length_drop, List.length_cons]; omega
  ·cases h; simp only [List.length_take, List.length_drop, List.length_cons]; omega
theorem attrAt_wt {c : UInt8} {r r' : List UInt8} {a : Attr} (h : attrAt c r = some (a, r')) : a.1.length + a.2.length + r'.length ≤ 1 + r.length := by
 have h1 := skipB_le (r.drop (runN (hdB attrC) r))
 have hn : (lower (c :: r.take (runN (hdB attrC) r))).length = 1 + min (runN (hdB attrC) r) r.length := by simp [lower]; omega
 have hr := runN_le (hdB attrC) r
 rw [List.length_drop] at h1
 unfold attrAt at h
 split at h
 ·cases h
  show (lower (c :: r.take (runN (hdB attrC) r))).length + ([] : List UInt8).length + ([] : List UInt8).length ≤ _
  rw [hn]; simp only [List.length_nil]; omega
 ·rename_i d r1 e
  rw [e, List.length_cons] at h1
  split at h
  ·cases hv : valueAt (skipB r1) with
   | none => rw [hv] at h; cases h
   | some v =>
    rw [hv] at h
    cases h
    have h2 := valueAt_wt (v := v.1) (r := v.2) hv
    have h3 := skipB_le r1
    have h4 := resolve_len _ v.1 (Nat.le_refl _)
    show (lower (c :: r.take (runN (hdB attrC) r))).length + (resolve v.1).length + v.2.length ≤ _
    rw [hn]; omega
  ·cases h
   show (lower (c :: r.take (runN (hdB attrC) r))).length + ([] : List UInt8).length + (d :: r1).length ≤ _
   rw [hn]; simp only [List.length_nil, List.length_cons]; omega
theorem addA_wt (ats : List Attr) (a : Attr) : wtA (addA ats a) ≤ wtA ats + (1 + a.1.length + a.2.length) := by
 unfold addA
 split
 ·omega
 ·unfold wtA; rw [List.map_append, List.sum_append]; simp
theorem tagF_wt : ∀ (n : Nat) (s : List UInt8) (cl : Bool) (ats : List Attr) {x : Bool} {y : List Attr} {r : List UInt8}, tagF n s cl ats = some (x, y, r) → wtA y + 2 * r.length ≤ wtA ats + 2 * s.length
 | 0, _, _, _, _, _, _, h => by cases h
 | n + 1, [], _, _, _, _, _, h => by cases h
 | n + 1, c :: r, cl, ats, x, y, r', h => by
  unfold tagF at h
  rw [List.length_cons]
  split at h
  ·have := tagF_wt n _ _ _ h; omega
  ·split at h
   ·have := tagF_wt n _ _ _ h; omega
   ·split at h
    ·cases h; omega
    ·split at h
     ·cases h
     ·rename_i a r1 e
      have h1 := attrAt_wt e
      have h2 := addA_wt ats a
      have h3 := attrAt_le e
      have := tagF_wt n _ _ _ h
      omega
theorem tagAt_wt {s nm r : List UInt8} {cl : Bool} {ats : List Attr} (h : tagAt s = some (nm, cl, ats, r)) : nm.length + wtA ats + 2 * r.length ≤ 2 * s.length := by
 unfold tagAt at h
 cases e : between (s.drop (runN (hdB nameC) s)) false [] with
 | none => rw [e] at h; cases h
 | some t =>
  rw [e] at h
  cases h
  have h1 := tagF_wt _ _ _ _ (x := t.1) (y := t.2.1) (r := t.2.2) e
  have h2 := runN_le (hdB nameC) s
  rw [List.length_drop] at h1
  have h3 : wtA ([] : List Attr) = 0 := rfl
  show (lower (s.take (runN (hdB nameC) s))).length + wtA t.2.1 + 2 * t.2.2.length ≤ _
  have h4 : (lower (s.take (runN (hdB nameC) s))).length = runN (hdB nameC) s := by simp [lower]; omega
  omega
theorem step_wt (s r : List UInt8) (e : List Tok) (hs : s ≠ []) (h : step s = some (e, r)) : wtTs e + 2 * r.length ≤ 2 * s.length := by
 have hpos : 1 ≤ s.length := List.length_pos_iff.2 hs
 unfold step at h
 split at h
 ·rename_i hk
  cases h
  have h1 := plain_pos hs hk
  have h2 := runN_le plainB s
  have h3 := resolve_len _ (s.take (runN plainB s)) (Nat.le_refl _)
  rw [List.length_take] at h3
  simp only [wtTs, wtT, textT, wtA, List.map_cons, List.map_nil, List.sum_cons, List.sum_nil, List.length_nil, List.length_drop]
  omega
 ·rename_i hk
  cases h
  simp only [wtTs, wtT, noteT, wtA, List.map_cons, List.map_nil, List.sum_cons, List.sum_nil, List.length_nil, List.length_take, List.length_drop]
  omega
 ·cases h; simp only [wtTs, List.map_nil, List.sum_nil, List.length_drop]; omega
 ·cases h; simp only [wtTs, List.map_nil, List.sum_nil, List.length_drop]; omega
 ·split at h
  ·cases h
  ·rename_i nm cl ats rest hta
   have g := tagAt_wt hta
   have g2 := tagAt_le hta
   rw [List.length_drop] at g g2
   split at h
   ·cases h
    have hrl := runN_le (fun x => !rawEnd nm x) rest
    by_cases hx : rawText nm rest = []
    ·rw [if_pos hx]
     simp only [wtTs, wtT, startT, List.map_cons, List.map_nil, List.sum_cons, List.sum_nil, List.length_nil, List.length_drop]
     omega
    ·rw [if_neg hx]
     have h3 := resolve_len _ (rest.take (rawN nm rest)) (Nat.le_refl _)
     have hle : (rawText nm rest).length ≤ min (rawN nm rest) rest.length := by
      unfold rawText
      split
      ·rw [List.length_take] at h3; exact h3
      ·rw [List.length_take]; exact Nat.le_refl _
     have hne : 1 ≤ (rawText nm rest).length := List.length_pos_iff.2 hx
     have hA : wtA ([] : List Attr) = 0 := rfl
     simp only [wtTs, wtT, startT, textT, hA, List.map_cons, List.map_nil, List.sum_cons, List.sum_nil, List.length_nil, List.length_drop]
     omega
   ·cases h
    simp only [wtTs, wtT, startT, List.map_cons, List.map_nil, List.sum_cons, List.sum_nil, List.length_nil]
    omega
 ·split at h
  ·cases h
  ·rename_i nm cl ats rest hta
   have g := tagAt_wt hta
   have g2 := tagAt_le hta
   rw [List.length_drop] at g g2
   cases h
   have hA : wtA ([] : List Attr) = 0 := rfl
   simp only [wtTs, wtT, endT, hA, List.map_cons, List.map_nil, List.sum_cons, List.sum_nil, List.length_nil]
   omega
theorem toks_wt : ∀ (n : Nat) (s : List UInt8), s.length ≤ n → wtTs (toks s) ≤ 2 * s.length
 | n, s, hn => by
  by_cases hs : s = []
  ·subst hs; rw [toks_nil]; exact Nat.le_refl _
  ·cases hst : step s with
   | none => rw [toks_none hst]; exact Nat.zero_le _
   | some x =>
    obtain ⟨e, r⟩ := x
    rw [toks_some hs hst, wtTs_app]
    have hlt := step_lt hs hst
    have h1 := step_wt s r e hs hst
    cases n with
    | zero => omega
    | succ n => have := toks_wt n r (by omega); omega
def wtO : List Op → Nat
 | [] => 0
 | (a, b, k) :: r => 1 + a.length + wtA b + wtL k + wtO r
theorem putO_wt (n : Node) (o : Op) (r : List Op) : wtO (putO n (o :: r)) = wtO (o :: r) + wtN n := by
 obtain ⟨a, b, k⟩ := o
 show 1 + a.length + wtA b + wtL (k ++ [n]) + wtO r = 1 + a.length + wtA b + wtL k + wtO r + wtN n
 rw [wtL_append, wtL_cons]
 show 1 + a.length + wtA b + (wtL k + (wtN n + wtL [])) + wtO r = _
 rw [show wtL [] = 0 by rw [wtL]]; omega
theorem shutO_wt (o p : Op) (r : List Op) : wtO (shutO (o :: p :: r)) = wtO (o :: p :: r) := by
 obtain ⟨a, b, k⟩ := o
 show wtO (putO _ (p :: r)) = 1 + a.length + wtA b + wtL k + wtO (p :: r)
 rw [putO_wt, wtN_eq]
 simp only [Node.name, Node.text, Node.attrs, Node.kids, List.length_nil]; omega
theorem closeF_wt (nm : List UInt8) : ∀ (n : Nat) (ops : List Op), wtO (closeF nm n ops) = wtO ops
 | 0, _ => rfl
 | n + 1, [] => rfl
 | n + 1, [_] => rfl
 | n + 1, o :: p :: r => by
  rw [closeF]
  split
  ·exact shutO_wt o p r
  ·rw [closeF_wt nm n _, shutO_wt]
theorem closeO_wt (nm : List UInt8) (ops : List Op) : wtO (closeO nm ops) = wtO ops := by
 unfold closeO
 split
 ·exact closeF_wt nm _ _
 ·rfl
theorem startO_wt (nm : List UInt8) (ops : List Op) : wtO (startO nm ops) = wtO ops := by
 show wtO (if nm = [108, 105] ∧ liB (if nm ∈ blocks then closeO [112] ops else ops) = true then closeO [108, 105] (if nm ∈ blocks then closeO [112] ops else ops) else (if nm ∈ blocks then closeO [112] ops else ops)) = _
 have h : wtO (if nm ∈ blocks then closeO [112] ops else ops) = wtO ops := by
  split
  ·exact closeO_wt _ _
  ·rfl
 generalize (if nm ∈ blocks then closeO [112] ops else ops) = x at h ⊢
 split
 ·rw [closeO_wt, h]
 ·exact h
theorem putO_wt2 (n : Node) (ops : List Op) : wtO (putO n ops) ≤ wtO ops + wtN n := by
 cases ops with
 | nil => exact Nat.zero_le _
 | cons o r => rw [putO_wt]; exact Nat.le_refl _
theorem startS_wt (nm : List UInt8) (ats : List Attr) (s : Bs) : wtO (startS nm ats s).ops ≤ wtO s.ops + (1 + nm.length + wtA ats) := by
 have h := startO_wt nm s.ops
 show wtO (if nm ∈ voids then putO (.mk nm ats [] []) (startO nm s.ops) else (nm, ats, []) :: startO nm s.ops) ≤ _
 split
 ·have h1 := putO_wt2 (.mk nm ats [] []) (startO nm s.ops)
  rw [wtN_eq] at h1
  simp only [Node.name, Node.text, Node.attrs, Node.kids, List.length_nil] at h1
  rw [show wtL [] = 0 by rw [wtL]] at h1
  omega
 ·rw [wtO, show wtL [] = 0 by rw [wtL]]; omega
theorem addText_wt (x : List UInt8) : ∀ ops : List Op, wtO (addText x ops) ≤ wtO ops + x.length
 | [] => Nat.zero_le _
 | (a, b, k) :: r => by
  rcases nil_or_snoc k with rfl | ⟨k0, z, rfl⟩
  ·show wtO ((a, b, []) :: r) ≤ _
   omega
  ·have e : addText x ((a, b, k0 ++ [z]) :: r) = (a, b, k0 ++ [.mk z.name z.attrs (z.text ++ x) z.kids]) :: r := by simp [addText]
   rw [e, wtO, wtO, wtL_append, wtL_append, wtL_cons, wtL_cons, wtN_eq, wtN_eq]
   simp only [Node.name, Node.text, Node.attrs, Node.kids, List.length_append]; omega
theorem tokS_wt (t : Tok) (s : Bs) : wtO (tokS t s).ops ≤ wtO s.ops + wtT t := by
 unfold tokS wtT
 split
 ·unfold textS
  split
  ·omega
  ·split
   ·have := addText_wt t.tx s.ops
    show wtO (addText t.tx s.ops) ≤ _
    omega
   ·have h1 := putO_wt2 (.mk [] [] t.tx []) s.ops
    rw [wtN_eq] at h1
    simp only [Node.name, Node.text, Node.attrs, Node.kids, List.length_nil] at h1
    rw [show wtL [] = 0 by rw [wtL]] at h1
    show wtO (putO (.mk [] [] t.tx []) s.ops) ≤ _
    have hA : wtA ([] : List Attr) = 0 := rfl
    omega
 ·split
  ·have := startS_wt t.nm t.ats s; omega
  ·split
   ·have hA : wtA ([] : List Attr) = 0 := rfl
    have h1 := startS_wt t.nm [] s
    unfold endS
    split
    ·show wtO (closeO t.nm s.ops) ≤ _
     rw [closeO_wt]; omega
    ·split
     ·show wtO (closeO t.nm (startS t.nm [] s).ops) ≤ _
      rw [closeO_wt]; omega
     ·split
      ·omega
      ·omega
   ·omega
theorem runS_wt : ∀ (T : List Tok) (s s2 : Bs), runS T s = some s2 → wtO s2.ops ≤ wtO s.ops + wtTs T
 | [], s, s2, h => by cases h; exact Nat.le_add_right _ _
 | t :: T, s, s2, h => by
  rw [runS] at h
  split at h
  ·cases h
  ·have h1 := runS_wt T _ s2 h
   have h2 := tokS_wt t s
   rw [wtTs_cons]; omega
theorem finO_wt : ∀ (n : Nat) (ops : List Op), wtO (finO n ops) = wtO ops
 | 0, _ => rfl
 | n + 1, [] => rfl
 | n + 1, [_] => rfl
 | n + 1, o :: p :: r => by rw [finO, finO_wt n _, shutO_wt]
theorem rootK_wt : ∀ ops : List Op, wtL (rootK ops) ≤ wtO ops
 | [] => by rw [rootK, wtL]; exact Nat.zero_le _
 | (a, b, k) :: r => by rw [rootK, wtO]; omega
theorem build_wt {T : List Tok} {l : List Node} (h : buildL T = some l) : wtL l ≤ 1 + wtTs T := by
 unfold buildL at h
 cases hr : runS T ⟨[([], [], [])], 0, false⟩ with
 | none => rw [hr] at h; cases h
 | some s =>
  rw [hr] at h
  cases h
  have h1 := runS_wt T _ s hr
  have h2 := rootK_wt (finO s.ops.length s.ops)
  rw [finO_wt] at h2
  have h3 : wtO [(([] : List UInt8), ([] : List Attr), ([] : List Node))] = 1 := by rw [wtO, show wtL [] = 0 by rw [wtL]]; rfl
  have h4 : wtO (Bs.mk [([], [], [])] 0 false).ops = 1 := h3
  show wtL (rootK (finO s.ops.length s.ops)) ≤ _
  omega
def wtS : List (List UInt8) → Nat
 | [] => 0
 | s :: r => min s.length 10000 + wtS r
def wtLS : List (List (List UInt8)) → Nat
 | [] => 0
 | s :: r => wtS s + wtLS r
def listsOf (p : Pol) : List (List (List UInt8)) := [p.el, p.at', p.sc, p.cl, p.pr]
def lightP (p : Pol) : Bool := (listsOf p).all (fun l => decide (l.length ≤ 100)) && decide (wtLS (listsOf p) < 6000)
def llD (l : List (List (List UInt8))) : List (List D) := l.map fun s => [.sl (strsD s)]
theorem wtS_snoc (l : List (List UInt8)) (s : List UInt8) : wtS (l ++ [s]) = wtS l + min s.length 10000 := by
 induction l with
 | nil => simp [wtS]
 | cons a r ih => rw [List.cons_append, wtS, wtS, ih]; omega
theorem wtLS_snoc (l : List (List (List UInt8))) (s : List (List UInt8)) : wtLS (l ++ [s]) = wtLS l + wtS s := by
 induction l with
 | nil => simp [wtLS]
 | cons a r ih => rw [List.cons_append, wtLS, wtLS, ih]; omega
theorem wtS_le : ∀ (l : List (List UInt8)), wtS l ≤ 10000 * l.length
 | [] => Nat.le_refl _
 | a :: r => by have := wtS_le r; rw [wtS, List.length_cons]; omega
theorem wtS_mem {l : List (List UInt8)} {s : List UInt8} (h : s ∈ l) : min s.length 10000 ≤ wtS l := by
 induction l with
 | nil => simp at h
 | cons a r ih =>
  rw [wtS]
  rcases List.mem_cons.1 h with rfl | h
  ·omega
  ·have := ih h; omega
theorem wtLS_mem {l : List (List (List UInt8))} {s : List (List UInt8)} (h : s ∈ l) : wtS s ≤ wtLS l := by
 induction l with
 | nil => simp at h
 | cons a r ih =>
  rw [wtLS]
  rcases List.mem_cons.1 h with rfl | h
  ·omega
  ·have := ih h; omega
theorem light_fits {p : Pol} (h : lightP p = true) : Fits p := by
 unfold lightP at h
 rw [Bool.and_eq_true, decide_eq_true_eq, List.all_eq_true] at h
 have key : ∀ l ∈ listsOf p, FitsL l := fun l hl => by
  refine ⟨by have := h.1 l hl; simp at this; omega, fun s hs => ?_⟩
  have h1 := wtS_mem hs
  have h2 := wtLS_mem hl
  omega
 exact ⟨key _ (by simp [listsOf]), key _ (by simp [listsOf]), key _ (by simp [listsOf]), key _ (by simp [listsOf]), key _ (by simp [listsOf])⟩
theorem llD_len (l : List (List (List UInt8))) : (llD l).length = l.length := by simp [llD]
theorem llD_get (l : List (List (List UInt8))) (k : Nat) (h : k < l.length) : (llD l)[((k : Nat) : Int).toNat]? = some [.sl (strsD l[k])] := by simp [llD, h]
set_option maxRecDepth 100000 in
theorem pLight_ok (p : Pol) : PureC Tryz.prog 13 [polA p] (.d (.bool (lightP p))) := by
 refine PureC.of rfl rfl (fn_okTE Tryz.wf Tryz.tab_ok Tryz.func13 (by decide +kernel) rfl rfl ?_)
 refine E.seq (E.of Tryz.wf Tryz.tab_ok ?_)
 refine E.seq (E.of Tryz.wf Tryz.tab_ok ?_)
 refine E.seq (midE (fun s' σ => s' = [(1, .ref 0 0 0), (3, .d (.int .i64 0)), (17, .d (.sl (llD (listsOf p)))), (18, .d (.int .i64 (listsOf p).length)), (19, .d (.int .i64 0))] ∧ σ = ⟨1, [(0, boxO p)]⟩) ?_ ?_)
 ·refine Go.Aw.textT Tryz.wf Tryz.tab_ok ?_
  iterate 5
   refine pstep _ rfl rfl (FinMove.refl _ _ _) ?_
   refine pstep _ rfl rfl ⟨_, rfl, _, rfl, FinMove.refl _ _ _⟩ ?_
  refine pstep (r := .d (.sl (llD (listsOf p)))) ⟨1, [(0, boxO p)]⟩ rfl rfl (fin_lit rfl rfl rfl ⟨⟨rfl, .inl ⟨rfl, box_pure p⟩⟩, trivial⟩) ?_
  refine pstep _ rfl rfl (FinMove.refl _ _ _) ?_
  refine pstep _ rfl rfl (FinMove.refl _ _ _) ?_
  exact ⟨_, _, ⟨rfl, rfl⟩, Mv.of [.old 0] rfl rfl rfl ⟨⟨rfl, .inl ⟨rfl, box_pure p⟩⟩, trivial⟩ ⟨⟨rfl, rfl, rfl⟩, rfl, rfl, rfl, rfl, trivial⟩⟩
 rintro _ _ ⟨rfl, rfl⟩
 have hn := llD_len (listsOf p)
 have hbnd : (listsOf p).length = 5 := rfl
 have hL : lightP p = ((listsOf p).all (fun l => decide (l.length ≤ 100)) && decide (wtLS (listsOf p) < 6000)) := rfl
 generalize listsOf p = L at *
 refine E.of Tryz.wf Tryz.tab_ok ?_
 refine loopT Tryz.wf Tryz.tab_ok (fun n s' σ => ∃ k : Nat, n = L.length - k ∧ k ≤ L.length ∧ (L.take k).all (fun l => decide (l.length ≤ 100)) = true ∧ wtLS (L.take k) ≤ 10000000 * k ∧ s' = [(1, .ref 0 0 0), (3, .d (.int .i64 (wtLS (L.take k)))), (17, .d (.sl (llD L))), (18, .d (.int .i64 L.length)), (19, .d (.int .i64 k))] ∧ σ = ⟨1, [(0, boxO p)]⟩)
  ⟨0, rfl, Nat.zero_le _, rfl, Nat.le_refl _, rfl, rfl⟩ (Mv.of [.old 0] rfl rfl rfl ⟨⟨rfl, .inl ⟨rfl, box_pure p⟩⟩, trivial⟩ ⟨⟨rfl, rfl, rfl⟩, rfl, rfl, rfl, rfl, trivial⟩) ?_
 rintro _ _ _ ⟨k, rfl, hk, hI, hW, rfl, rfl⟩
 refine ⟨fun h => ?_, fun h => ?_⟩
 ·have hlt : k < L.length := by have := of_decide_eq_true h; omega
  clear h
  have hg := llD_get L k hlt
  have hst := all_step (fun l => decide (l.length ≤ 100)) L k hlt
  rw [hI, Bool.true_and] at hst
  have hw2 := wtLS_snoc (L.take k) L[k]
  rw [← List.take_succ_eq_append_getElem hlt] at hw2
  have no : (L.take (k + 1)).all (fun l => decide (l.length ≤ 100)) = false → lightP p = false := fun h => by rw [hL, all_pre _ _ _ h]; rfl
  clear hL
  have hm := strsD_len L[k]
  have hb := wtS_le L[k]
  generalize L[k] = l at *
  generalize wtLS (L.take k) = w at *
  repeat' (first | refine wO ?_ | (refine ⟨fun h => ?_, fun h => ?_⟩ <;> (try simp only [wS, List.length_cons, List.length_nil] at h) <;> (try exact wX h)) | refine wP ?_ | fail)
  ·exact ⟨_, _, fin_out rfl, congrArg (fun b => AV.d (.bool b)) (no (by rw [hst, decide_eq_false_iff_not]; omega)).symm, rfl⟩
  have hl100 : l.length ≤ 100 := by omega
  rw [decide_eq_true hl100] at hst
  clear no h
  refine loopT Tryz.wf Tryz.tab_ok (fun n s' σ => ∃ j : Nat, n = l.length - j ∧ j ≤ l.length ∧ wtS (l.take j) ≤ 10000 * j ∧ s' = [(1, .ref 0 0 0), (3, .d (.int .i64 ((w + wtS (l.take j) : Nat) : Int))), (5, .d (.sl (strsD l))), (6, .d (.int .i64 j)), (17, .d (.sl (llD L))), (18, .d (.int .i64 L.length)), (19, .d (.int .i64 k))] ∧ σ = ⟨1, [(0, boxO p)]⟩)
   ⟨0, rfl, Nat.zero_le _, Nat.le_refl _, rfl, rfl⟩ (Mv.of [.old 0] rfl rfl rfl ⟨⟨rfl, .inl ⟨rfl, box_pure p⟩⟩, trivial⟩ ⟨⟨rfl, rfl, rfl⟩, rfl, rfl, rfl, rfl, rfl, rfl, trivial⟩) ?_
  rintro _ _ _ ⟨j, rfl, hj, hW2, rfl, rfl⟩
  refine ⟨fun h => ?_, fun h => ?_⟩
  ·have hlt2 : j < l.length := by have := of_decide_eq_true h; omega
   clear h
   have hgj := strsD_get l j hlt2
   have hw3 := wtS_snoc (l.take j) l[j]
   rw [← List.take_succ_eq_append_getElem hlt2] at hw3
   generalize l[j] = s at *
   generalize wtS (l.take j) = v at *
   have e0 : (if (10000 : Int) < (s.length : Int) then (10000 : Int) else (s.length : Int)) = ((min s.length 10000 : Nat) : Int) := by split <;> omega
   have e1 : ((w + v : Nat) : Int) + ((min s.length 10000 : Nat) : Int) = ((w + wtS (l.take (j + 1)) : Nat) : Int) := by rw [hw3]; omega
   have e2 : ((w + v : Nat) : Int) + (if (10000 : Int) < (s.length : Int) then (10000 : Int) else (s.length : Int)) = ((w + wtS (l.take (j + 1)) : Nat) : Int) := by rw [e0, e1]
   clear e0 e1
   refine wR (k := ?_)
   exact ⟨_, _, _, ⟨j + 1, rfl, hlt2, by omega, rfl, rfl⟩, by omega, Mv.of [.old 0] rfl rfl rfl ⟨⟨rfl, .inl ⟨rfl, box_pure p⟩⟩, trivial⟩ ⟨⟨rfl, rfl, rfl⟩, congrArg (fun n : Int => D.int .i64 n) e2.symm, rfl, rfl, rfl, rfl, rfl, trivial⟩⟩
  ·have hj' : j = l.length := by have := of_decide_eq_false h; omega
   subst hj'
   rw [List.take_length] at hW2 ⊢
   clear h
   refine wR (k := ?_)
   refine ⟨_, _, _, ⟨k + 1, rfl, hlt, hst, by omega, rfl, rfl⟩, by omega, Mv.of [.old 0] rfl rfl rfl ⟨⟨rfl, .inl ⟨rfl, box_pure p⟩⟩, trivial⟩ ⟨⟨rfl, rfl, rfl⟩, congrArg (fun n : Nat => D.int .i64 n) hw2, rfl, rfl, rfl, trivial⟩⟩
 ·have hk' : k = L.length := by have := of_decide_eq_false h; omega
  subst hk'
  rw [List.take_length] at hI ⊢
  rw [hL, hI, Bool.true_and]
  refine E.of Tryz.wf Tryz.tab_ok ?_
  exact ⟨_, _, fin_out rfl, congrArg (fun b => AV.d (.bool b)) (by rw [decide_eq_decide]; omega), rfl⟩
end Go.Proofs.YthngplknbbcecaaGreatDoor
namespace Go.Proofs.YthngplknbbcecaaGreatDoor
open Go.Aw
set_option maxHeartbeats 1600000
set_option linter.unusedSimpArgs false
set_option linter.unusedVariables false
theorem wtL_putN (out : List Node) {n : Node} (h0 : n.name = []) : wtL (putN out n) ≤ wtL out + (1 + n.text.length) := by
 by_cases ht : n.text = []
 ·rw [putN_nil h0 ht]; omega
 ·cases hl : lastT out with
  | true =>
   obtain ⟨ys, m, rfl, hm⟩ := lastT_some hl
   rw [putN_text h0 ht ys m hm, wtL_append, wtL_append, wtL_cons, wtL_cons, wtN_eq, wtN_eq, wtL]
   show wtL ys + (1 + m.name.length + (m.text ++ n.text).length + wtA m.attrs + wtL m.kids + 0) ≤ _
   rw [List.length_append]; omega
  | false =>
   rw [putN_new h0 ht hl, wtL_append, wtL_cons, wtN_eq, wtL]
   show wtL out + (1 + 0 + n.text.length + wtA [] + wtL [] + 0) ≤ _
   rw [wtL]
   have : wtA [] = 0 := rfl
   omega
theorem wtA_cons (a : At) (l : List At) : wtA (a :: l) = 1 + a.1.length + a.2.length + wtA l := by simp [wtA]
theorem wtA_app (a b : List At) : wtA (a ++ b) = wtA a + wtA b := by unfold wtA; rw [List.map_append, List.sum_append]
theorem attrV_len (p : Pol) (a : At) : (attrV p a).2.length ≤ 2 * a.2.length + 2 := by
 unfold attrV
 split
 ·exact filter_len2 _ _
 ·split
  ·have := clsT_len p.cl a.2; show (clsT p.cl a.2).length ≤ _; omega
  ·omega
theorem wtA_keep (p : Pol) (el : List UInt8) : ∀ l : List At, wtA (keepA p el l) ≤ 3 * wtA l
 | [] => Nat.zero_le _
 | a :: r => by
  have ih := wtA_keep p el r
  have h1 := attrV_len p a
  have h2 := attrV_fst p a
  rw [keepA, wtA_cons]
  split
  ·rw [wtA_cons, h2]; omega
  ·omega
theorem wtA_attrs (p : Pol) (el : List UInt8) (l : List At) : wtA (attrsP p el l) ≤ 3 * wtA l + 21 := by
 have h1 := wtA_keep p el l
 unfold attrsP
 rw [wtA_app]
 split
 ·have : wtA [relA] = 21 := by decide
  omega
 ·have : wtA [] = 0 := rfl
  omega
mutual
theorem wt_clN (p : Pol) : ∀ (n : Node) (out : List Node), wtL (clN p out n) ≤ wtL out + 3 * wtN n + 21 * szN n
 | .mk nm a t k, out => by
  rw [clN, wtN, szN]
  split
  ·rename_i h0
   have := wtL_putN out (n := .mk nm a t k) h0
   have e : (Node.mk nm a t k).text = t := rfl
   rw [e] at this; omega
  ·rename_i h0
   split
   ·omega
   ·split
    ·have h1 := wtA_attrs p nm a
     have h2 := wt_clL p k []
     rw [wtL] at h2
     rw [putN_el (show (Node.mk nm (attrsP p nm a) [] (clL p [] k)).name ≠ [] from h0), wtL_append, wtL_cons, wtN, wtL]
     have e : ([] : List UInt8).length = 0 := rfl
     omega
    ·have := wt_clL p k out; omega
theorem wt_clL (p : Pol) : ∀ (l : List Node) (out : List Node), wtL (clL p out l) ≤ wtL out + 3 * wtL l + 21 * szL l
 | [], out => by rw [clL]; omega
 | n :: r, out => by
  rw [clL_cons, wtL_cons, szL_cons]
  have h1 := wt_clN p n out
  have h2 := wt_clL p r (clN p out n)
  omega
end
theorem wt_tree (p : Pol) (l : List Node) : wtL (treeB p l) ≤ 3 * wtL l + 21 * szL l := by
 have := wt_clL p l []
 rw [wtL, Nat.zero_add] at this
 exact this
theorem built_small {s : List UInt8} {l : List Node} (hs : s.length ≤ 16384) (h : buildL (toks s) = some l) : wtL l ≤ 32769 ∧ szL l ≤ 2000 := by
 have h1 := build_wt h
 have h2 := toks_wt s.length s (Nat.le_refl _)
 exact ⟨by omega, build_size h⟩
theorem toks_small {s : List UInt8} (hs : s.length < 1000000) : (toks s).length ≤ 1000000 ∧ (∀ t ∈ toks s, t.ats.length ≤ 1000000) ∧ txs (toks s) ≤ 1000000000000000 := by
 have h1 := toks_len s.length s (Nat.le_refl _)
 have h2 := toks_wt s.length s (Nat.le_refl _)
 have h3 := txs_wt (toks s)
 exact ⟨by omega, fun t ht => by have := toks_ats s.length s (Nat.le_refl _) t ht; omega, by omega⟩
def cleanV (x : List UInt8 × Int) : AV := .tup [.d (.str x.1), .d (.int .i64 x.2)]
set_option maxRecDepth 100000 in
set_option maxHeartbeats 2000000 in
theorem Clean_ok (p : Pol) (raw : List UInt8) (hp : Fits p) (hl : raw.length ≤ 10000000) (hf : (raw.length : Int) ≤ p.by' → (fixB raw).length ≤ 16384) : PureC Tryz.prog 14 [polA p, .d (.sl (bytesD raw))] (cleanV (cleanB p raw)) := by
 have hc1 := Right_ok p hp
 have hn : (bytesD raw).length = raw.length := by simp [bytesD]
 unfold cleanB
 cases hr : rightB p with
 | false =>
  rw [hr] at hc1
  rw [if_neg Bool.false_ne_true]
  refine pure_okT Tryz.wf Tryz.tab_ok Tryz.func14 (by decide +kernel) rfl rfl rfl rfl ?_
  refine wR (k := ?_)
  exact ⟨_, _, fin_out rfl, rfl⟩
 | true =>
  rw [hr] at hc1
  rw [if_pos rfl]
  by_cases hby : (raw.length : Int) ≤ p.by'
  ·rw [if_pos hby]
   have hfl := hf hby
   have hc2 := Fix_ok raw (by omega)
   generalize fixB raw = s at *
   have hc3 := Tokens_ok s (by omega)
   obtain ⟨t1, t2, t3⟩ := toks_small (s := s) (by omega)
   have hc4 := Build_ok (toks s) t1 t2 t3
   have hc5 := Escape_ok s false (by omega)
   unfold shownB
   unfold builtA at hc4
   cases hb : buildL (toks s) with
   | none =>
    rw [hb] at hc4
    dsimp only at hc4 ⊢
    generalize toks s = T at *
    refine pure_okT Tryz.wf Tryz.tab_ok Tryz.func14 (by decide +kernel) rfl rfl rfl rfl ?_
    refine wR (k := ?_)
    exact ⟨_, _, fin_out rfl, rfl⟩
   | some l =>
    rw [hb] at hc4
    dsimp only at hc4 ⊢
    obtain ⟨b1, b2⟩ := built_small hfl hb
    have hwt := wt_tree p l
    have hc6 := sTree_ok p hp l (by omega)
    have hsz := sz_wtL (treeB p l)
    have hc7 := Size_ok (szL (treeB p l)) (treeB p l) (Nat.le_refl _) (by omega)
    have hht := ht_wtL (treeB p l)
    have hc8 := HTML_ok (treeB p l) (Sh_wtL _ (by omega)) (by omega) (by omega)
    unfold sizeV at hc7
    clear hb t1 t2 t3
    generalize toks s = T at *
    generalize treeB p l = t at *
    generalize htL t = h at *
    by_cases k1 : (szL t : Int) ≤ p.nd
    ·by_cases k2 : (dpL t : Int) ≤ p.dp
     ·rw [if_pos ⟨k1, k2⟩]
      refine pure_okT Tryz.wf Tryz.tab_ok Tryz.func14 (by decide +kernel) rfl rfl rfl rfl ?_
      refine wR (k := ?_)
      exact ⟨_, _, fin_out rfl, rfl⟩
     ·rw [if_neg (fun e => k2 e.2)]
      refine pure_okT Tryz.wf Tryz.tab_ok Tryz.func14 (by decide +kernel) rfl rfl rfl rfl ?_
      refine wR (k := ?_)
      exact ⟨_, _, fin_out rfl, rfl⟩
    ·rw [if_neg (fun e => k1 e.1)]
     refine pure_okT Tryz.wf Tryz.tab_ok Tryz.func14 (by decide +kernel) rfl rfl rfl rfl ?_
     refine wR (k := ?_)
     exact ⟨_, _, fin_out rfl, rfl⟩
  ·rw [if_neg hby]
   refine pure_okT Tryz.wf Tryz.tab_ok Tryz.func14 (by decide +kernel) rfl rfl rfl rfl ?_
   refine wR (k := ?_)
   exact ⟨_, _, fin_out rfl, rfl⟩
end Go.Proofs.YthngplknbbcecaaGreatDoor

namespace Go.Proofs.YthngplknbbcecaaGreatDoor
open Go.Aw
set_option maxHeartbeats 1600000
set_option linter.unusedSimpArgs false
set_option linter.unusedVariables false
theorem agg_pol : isAggB Tryz.prog 24 = true := by kernel_rfl
theorem arg_pol (p : Pol) : argAV Tryz.prog 24 (polD p) = polA p := by rw [argAV, agg_pol]; rfl
theorem cells_int0 : Tryz.prog.cellsOf 3 = 1 := by kernel_rfl
theorem cells_strs0 : Tryz.prog.cellsOf 22 = 1 := by kernel_rfl
theorem cells_pol : Tryz.prog.cellsOf 24 = 9 := by kernel_rfl
theorem len9 {α : Type} {l : List α} (h : l.length = 9) : ∃ a b c d e f g h i, l = [a, b, c, d, e, f, g, h, i] := by
 match l, h with
 | [a, b, c, d, e, f, g, h, i], _ => exact ⟨a, b, c, d, e, f, g, h, i, rfl⟩
theorem dok_pol {n : Nat} {row : List D} (h : DOk Tryz.prog n 24 row) : ∃ p : Pol, row = polD p := by
 cases n with
 | zero => exact h.elim
 | succ n =>
  simp only [DOk, Tryz.underlying24] at h
  obtain ⟨hl, hf⟩ := h
  rw [cells_pol] at hl
  obtain ⟨a, b, c, d, e, f, g, h, i, rfl⟩ := len9 hl
  have f1 := hf _ (List.mem_cons_self ..)
  have f2 := hf _ (List.mem_cons_of_mem _ (List.mem_cons_self ..))
  have f3 := hf _ (List.mem_cons_of_mem _ (List.mem_cons_of_mem _ (List.mem_cons_self ..)))
  have f4 := hf _ (List.mem_cons_of_mem _ (List.mem_cons_of_mem _ (List.mem_cons_of_mem _ (List.mem_cons_self ..))))
  have f5 := hf _ (List.mem_cons_of_mem _ (List.mem_cons_of_mem _ (List.mem_cons_of_mem _ (List.mem_cons_of_mem _ (List.mem_cons_self ..)))))
  have f6 := hf _ (List.mem_cons_of_mem _ (List.mem_cons_of_mem _ (List.mem_cons_of_mem _ (List.mem_cons_of_mem _ (List.mem_cons_of_mem _ (List.mem_cons_self ..))))))
  have f7 := hf _ (List.mem_cons_of_mem _ (List.mem_cons_of_mem _ (List.mem_cons_of_mem _ (List.mem_cons_of_mem _ (List.mem_cons_of_mem _ (List.mem_cons_of_mem _ (List.mem_cons_self ..)))))))
  have f8 := hf _ (List.mem_cons_of_mem _ (List.mem_cons_of_mem _ (List.mem_cons_of_mem _ (List.mem_cons_of_mem _ (List.mem_cons_of_mem _ (List.mem_cons_of_mem _ (List.mem_cons_of_mem _ (List.mem_cons_self ..))))))))
  have f9 := hf _ (List.mem_cons_of_mem _ (List.mem_cons_of_mem _ (List.mem_cons_of_mem _ (List.mem_cons_of_mem _ (List.mem_cons_of_mem _ (List.mem_cons_of_mem _ (List.mem_cons_of_mem _ (List.mem_cons_of_mem _ (List.mem_cons_self ..)))))))))
  simp only [cells_int0, cells_strs0] at f1 f2 f3 f4 f5 f6 f7 f8 f9
  obtain ⟨x1, e1, _⟩ := dok_int f1
  obtain ⟨x2, e2, _⟩ := dok_strs f2
  obtain ⟨x3, e3, _⟩ := dok_strs f3
  obtain ⟨x4, e4, _⟩ := dok_strs f4
  obtain ⟨x5, e5, _⟩ := dok_strs f5
  obtain ⟨x6, e6, _⟩ := dok_strs f6
  obtain ⟨x7, e7, _⟩ := dok_int f7
  obtain ⟨x8, e8, _⟩ := dok_int f8
  obtain ⟨x9, e9, _⟩ := dok_int f9
  simp at e1 e2 e3 e4 e5 e6 e7 e8 e9
  subst e1; subst e2; subst e3; subst e4; subst e5; subst e6; subst e7; subst e8; subst e9
  exact ⟨⟨x1, x2, x3, x4, x5, x6, x7, x8, x9⟩, rfl⟩
def awP : Pol := ⟨1, [[97]], [[97, 46, 104, 114, 101, 102]], [[104, 116, 116, 112, 115]], [], [], 9, 99, 999⟩
theorem aw_fits : Fits awP := ⟨⟨by decide, by decide⟩, ⟨by decide, by decide⟩, ⟨by decide, by decide⟩, ⟨by decide, by decide⟩, ⟨by decide, by decide⟩⟩
def awI : List UInt8 := [60, 97, 32, 104, 114, 101, 102, 61, 34, 104, 116, 116, 112, 115, 58, 47, 47, 120, 34, 32, 111, 110, 99, 108, 105, 99, 107, 61, 121, 62, 122, 60, 47, 97, 62, 60, 115, 99, 114, 105, 112, 116, 62, 119, 60, 47, 115, 99, 114, 105, 112, 116, 62, 60, 98, 62, 118]
def awO : List UInt8 := [60, 97, 32, 104, 114, 101, 102, 61, 34, 104, 116, 116, 112, 115, 58, 47, 47, 120, 34, 32, 114, 101, 108, 61, 34, 110, 111, 102, 111, 108, 108, 111, 119, 32, 110, 111, 111, 112, 101, 110, 101, 114, 34, 62, 122, 60, 47, 97, 62, 118]
theorem aw_clean : cleanB awP awI = (awO, 0) := by decide +kernel
set_option maxRecDepth 100000 in
set_option maxHeartbeats 1000000 in
theorem awake_ok : PureC Tryz.prog 12 [] (.d (.bool true)) := by
 have h1 := Clean_ok awP awI aw_fits (by decide) (fun _ => by decide +kernel)
 rw [aw_clean] at h1
 refine pure_okT Tryz.wf Tryz.tab_ok Tryz.func12 (by decide +kernel) rfl rfl rfl rfl ?_
 refine wR (k := ?_)
 refine ⟨awI, rfl, rfl, ?_⟩
 refine wR (k := ?_)
 refine CallsAbs.use1 (PureC.borrow 4 h1 rfl (by rfl)) ?_
 refine wR (k := ?_)
 exact ⟨_, _, fin_out rfl, rfl⟩
theorem fix_small {raw : List UInt8} (h : raw.length ≤ 3000) : (fixB raw).length ≤ 9000 := by
 have := fixB_len raw.length raw (Nat.le_refl _); omega
theorem Clean_small (p : Pol) (raw : List UInt8) (hp : Fits p) (h : raw.length ≤ 3000) : PureC Tryz.prog 14 [polA p, .d (.sl (bytesD raw))] (cleanV (cleanB p raw)) :=
 Clean_ok p raw hp (by omega) (fun _ => by have := fix_small h; omega)
theorem agg_bytes : isAggB Tryz.prog 25 = false := by kernel_rfl
theorem arg_bytes (r : List (List D)) : argAV Tryz.prog 25 [.sl r] = .d (.sl r) := by rw [argAV, agg_bytes]; rfl
theorem dok_bytes {n : Nat} {row : List D} (h : DOk Tryz.prog n 25 row) : ∃ s : List UInt8, row = [.sl (bytesD s)] := by
 cases n with
 | zero => exact h.elim
 | succ n =>
  simp only [DOk, Tryz.underlying25] at h
  obtain ⟨rows, rfl, hbb, h2⟩ := h
  have : ∃ s : List UInt8, rows = bytesD s := by
   clear hbb
   induction rows with
   | nil => exact ⟨[], rfl⟩
   | cons r rs ih =>
    obtain ⟨c, rfl⟩ := dok_u8 (h2 r (by simp))
    obtain ⟨s, rfl⟩ := ih (fun q hq => h2 q (by simp [hq]))
    exact ⟨c :: s, rfl⟩
  obtain ⟨s, rfl⟩ := this
  exact ⟨s, rfl⟩
theorem bytesD_len (s : List UInt8) : (bytesD s).length = s.length := by simp [bytesD]
theorem shown_len {p : Pol} {s : List UInt8} (hs : s.length ≤ 16384) : (shownB p s).length < 1000000 := by
 have h0 := (escape_len s.length false s (Nat.le_refl _)).2
 unfold shownB
 cases hb : buildL (toks s) with
 | none => dsimp only; omega
 | some l =>
  dsimp only
  obtain ⟨b1, b2⟩ := built_small hs hb
  have hwt := wt_tree p l
  have hht := ht_wtL (treeB p l)
  split <;> omega
structure Shown (p : Pol) (s : List UInt8) (t : List Node) : Prop where
 safe : safeB p t = true
 page : s = htL t
 len : s.length < 1000000
 ftok : PureC Tryz.prog 26 [.d (.str s)] (.d (.sl (toksD (toks s))))
 fbuild : PureC Tryz.prog 27 [.d (.sl (toksD (toks s)))] (.tup [.d (.sl (nodesD t)), .d (.int .i64 0)])
 wt : wtL t ≤ 200000
end Go.Proofs.YthngplknbbcecaaGreatDoor
namespace Go.Proofs.YthngplknbbcecaaGreatDoor
open Go.Aw
set_option maxHeartbeats 1600000
set_option linter.unusedSimpArgs false
set_option linter.unusedVariables false
theorem bytesD_get (s : List UInt8) (k : Nat) (h : k < s.length) : (bytesD s)[((k : Nat) : Int).toNat]? = some [.int .u8 s[k].toNat] := by
 rw [Int.toNat_natCast]; simp [bytesD, h]
set_option maxRecDepth 100000 in
set_option maxHeartbeats 4000000 in
theorem SanPlain_ok (p : Pol) (raw : List UInt8) : PureC Tryz.prog 6 [polA p, .d (.sl (bytesD raw))] (.d (.bool true)) := by
 have hc1 := awake_ok
 have hc2 := pLight_ok p
 have hn := bytesD_len raw
 cases hlp : lightP p with
 | false =>
  rw [hlp] at hc2
  refine pure_okT Tryz.wf Tryz.tab_ok Tryz.func6 (by decide +kernel) rfl rfl rfl rfl ?_
  refine wR (k := ?_)
  exact ⟨_, _, fin_out rfl, rfl⟩
 | true =>
  rw [hlp] at hc2
  have hp := light_fits hlp
  have hc3 := Right_ok p hp
  cases hr : rightB p with
  | false =>
   rw [hr] at hc3
   refine pure_okT Tryz.wf Tryz.tab_ok Tryz.func6 (by decide +kernel) rfl rfl rfl rfl ?_
   refine wR (k := ?_)
   exact ⟨_, _, fin_out rfl, rfl⟩
  | true =>
   rw [hr] at hc3
   by_cases hby : (raw.length : Int) ≤ p.by'
   ·by_cases hl : raw.length ≤ 3000
    ·have hfs := fix_small hl
     have hc4 := Clean_small p raw hp hl
     have e4 : cleanB p raw = (shownB p (fixB raw), 0) := by unfold cleanB; rw [hr, if_pos rfl, if_pos hby]
     have hc5 := Fix_ok raw (by omega)
     have hno := fix_no raw.length raw (Nat.le_refl _)
     have hst := fun h => shown_text hr (s := fixB raw) (hno h)
     have hc6 := Resolve_ok (fixB raw) (by omega)
     have hrl := resolve_len (fixB raw).length (fixB raw) (Nat.le_refl _)
     have hc7 := Escape_ok (resolve (fixB raw)) false (by omega)
     rw [e4] at hc4
     unfold cleanV at hc4
     clear hno e4
     generalize shownB p (fixB raw) = u at *
     generalize escape false (resolve (fixB raw)) = w at *
     generalize resolve (fixB raw) = y at *
     generalize fixB raw = x at *
     refine pure_okT Tryz.wf Tryz.tab_ok Tryz.func6 (by decide +kernel) rfl rfl rfl rfl ?_
     refine wR (k := ?_)
     refine loopT Tryz.wf Tryz.tab_ok (fun m s' σ => ∃ k : Nat, m = raw.length - k ∧ k ≤ raw.length ∧ (60 : UInt8) ∉ raw.take k ∧ s' = [(1, .d (.sl (bytesD raw))), (2, .ref 0 0 0), (5, .d (.bool true)), (7, .d (.int .i64 k))] ∧ σ = ⟨1, [(0, .rows (9, 24) [(polD p).map .d])]⟩)
      ⟨0, rfl, Nat.zero_le _, by simp, rfl, rfl⟩ (Mv.of [.old 0] rfl rfl rfl ⟨⟨rfl, .inl ⟨rfl, fun row h => by rw [List.mem_singleton.1 h]; rfl⟩⟩, trivial⟩ ⟨rfl, ⟨rfl, rfl, rfl⟩, rfl, rfl, trivial⟩) ?_
     rintro _ _ _ ⟨k, rfl, hk, hI, rfl, rfl⟩
     by_cases hlt : k < raw.length
     ·have hg := bytesD_get raw k hlt
      have htk : (60 : UInt8) ∉ raw.take (k + 1) ↔ raw[k] ≠ 60 := by
       rw [List.take_succ_eq_append_getElem hlt, List.mem_append, List.mem_singleton, not_or]
       exact ⟨fun h e => h.2 e.symm, fun h => ⟨hI, fun e => h e.symm⟩⟩
      by_cases h60 : raw[k] = 60
      ·have h60' : ((raw[k].toNat : Nat) : Int) = 60 := by rw [h60]; rfl
       clear hst
       refine wR (k := ?_)
       exact ⟨_, _, fin_out rfl, rfl⟩
      ·have h60' : ¬ ((raw[k].toNat : Nat) : Int) = 60 := fun e => h60 (UInt8.toNat_inj.1 (by have : (60 : UInt8).toNat = 60 := rfl; omega))
       have hI2 := htk.2 h60
       clear hst
       refine wR (k := ?_)
       exact ⟨_, _, _, ⟨k + 1, rfl, hlt, hI2, rfl, rfl⟩, by omega, Mv.of [.old 0] rfl rfl rfl ⟨⟨rfl, .inl ⟨rfl, fun row h => by rw [List.mem_singleton.1 h]; rfl⟩⟩, trivial⟩ ⟨rfl, ⟨rfl, rfl, rfl⟩, rfl, rfl, trivial⟩⟩
     ·have hk' : k = raw.length := by omega
      subst hk'
      rw [List.take_length] at hI
      have huw := hst hI
      subst huw
      clear hst
      refine wR (k := ?_)
      exact ⟨_, _, fin_out rfl, congrArg (fun b => AV.d (.bool b)) (by simp)⟩
    ·refine pure_okT Tryz.wf Tryz.tab_ok Tryz.func6 (by decide +kernel) rfl rfl rfl rfl ?_
     refine wR (k := ?_)
     exact ⟨_, _, fin_out rfl, rfl⟩
   ·refine pure_okT Tryz.wf Tryz.tab_ok Tryz.func6 (by decide +kernel) rfl rfl rfl rfl ?_
    repeat' (first | refine PureC.use hc1 ?_ | refine PureC.use hc2 ?_ | refine PureC.use hc3 ?_ | refine PureC.use hc4 ?_ | refine PureC.use hc5 ?_ | refine PureC.use hc6 ?_ | refine PureC.use hc7 ?_ | refine wO ?_ | (refine ⟨fun h => ?_, fun h => ?_⟩ <;> (try simp only [wS, List.length_cons, List.length_nil] at h) <;> (try exact wX h)) | refine wP ?_ | fail)
    all_goals exact ⟨_, _, fin_out rfl, rfl⟩
theorem SanPlain_law {n n' : Nat} {r r' : List D} (h : DOk Tryz.prog n 24 r) (h' : DOk Tryz.prog n' 25 r') : PureC Tryz.prog 6 [argAV Tryz.prog 24 r, argAV Tryz.prog 25 r'] (.d (.bool true)) := by
 obtain ⟨p, rfl⟩ := dok_pol h
 obtain ⟨s, rfl⟩ := dok_bytes h'
 rw [arg_pol, arg_bytes]; exact SanPlain_ok p s
def noP : Pol := ⟨1, [], [], [], [], [], 64, 2000, 16384⟩
theorem noP_fits : Fits noP := ⟨⟨by decide, by decide⟩, ⟨by decide, by decide⟩, ⟨by decide, by decide⟩, ⟨by decide, by decide⟩, ⟨by decide, by decide⟩⟩
theorem noP_right : rightB noP = true := by decide +kernel
theorem noP_sub (x : AV) : Sub (.agg [.agg [.d (.int .i64 1), .nil, .nil, .nil, .nil, .nil, .d (.int .i64 64), .d (.int .i64 2000), .d (.int .i64 16384)], x]) (.agg [polA noP, x]) := by
 have hin : Sub (.agg [.d (.int .i64 1), .nil, .nil, .nil, .nil, .nil, .d (.int .i64 64), .d (.int .i64 2000), .d (.int .i64 16384)]) (polA noP) := Sub.agg rfl (fun i x y hx hy => by
  match i with
  | 0 => cases hx; cases hy; exact Sub.refl _
  | 1 => cases hx; cases hy; exact Sub.nil
  | 2 => cases hx; cases hy; exact Sub.nil
  | 3 => cases hx; cases hy; exact Sub.nil
  | 4 => cases hx; cases hy; exact Sub.nil
  | 5 => cases hx; cases hy; exact Sub.nil
  | 6 => cases hx; cases hy; exact Sub.refl _
  | 7 => cases hx; cases hy; exact Sub.refl _
  | 8 => cases hx; cases hy; exact Sub.refl _
  | k + 9 => simp at hx)
 exact Sub.agg rfl (fun i x y hx hy => by
  match i with
  | 0 => cases hx; cases hy; exact hin
  | 1 => cases hx; cases hy; exact Sub.refl _
  | k + 2 => simp at hx)
set_option maxRecDepth 100000 in
set_option maxHeartbeats 4000000 in
theorem SanNothing_ok (raw : List UInt8) : PureC Tryz.prog 7 [.d (.sl (bytesD raw))] (.d (.bool true)) := by
 have hc1 := awake_ok
 have hn := bytesD_len raw
 by_cases hl : raw.length ≤ 3000
 ·have h1 := Clean_small noP raw noP_fits hl
  have hby : noP.by' = 16384 := rfl
  have e4 : cleanB noP raw = (shownB noP (fixB raw), 0) := by unfold cleanB; rw [noP_right, if_pos rfl, if_pos (by rw [hby]; omega)]
  rw [e4] at h1
  unfold cleanV at h1
  have hsl := shown_len (p := noP) (s := fixB raw) (by have := fix_small hl; omega)
  obtain ⟨x, hx⟩ := shown_nothing (p := noP) rfl (fixB raw)
  rw [hx] at h1 hsl
  have hcl := escape_clean false x.length x (Nat.le_refl _)
  have hc3 := Tokens_ok (escape false x) hsl
  have htk : toks (escape false x) = if x = [] then [] else [textT x] := toks_esc x
  have hT : (toks (escape false x)).length ≤ 1 ∧ ∀ t ∈ toks (escape false x), t.kd = 1 := by
   rw [htk]
   split
   ·exact ⟨by simp, fun t ht => by cases ht⟩
   ·exact ⟨by simp, fun t ht => by rw [List.mem_singleton] at ht; rw [ht]; rfl⟩
  clear htk e4 hx
  generalize toks (escape false x) = T at *
  generalize escape false x = s at *
  have hnT := toksD_len T
  refine pure_okT Tryz.wf Tryz.tab_ok Tryz.func7 (by decide +kernel) rfl rfl rfl rfl ?_
  refine wR (k := ?_)
  refine CallsAbs.sub (args' := [polA noP, .d (.sl (bytesD raw))]) (noP_sub _) (PureC.use h1 ?_)
  clear h1
  refine wR (k := ?_)
  obtain ⟨hT1, hT2⟩ := hT
  refine loopT Tryz.wf Tryz.tab_ok (fun m s' σ => ∃ k : Nat, m = T.length - k ∧ k ≤ T.length ∧ s' = [(3, .d (.bool true)), (5, .d (.str s)), (6, .d (.int .i64 0)), (7, .d (.sl (toksD T))), (8, .d (.int .i64 k))] ∧ σ = ⟨0, []⟩)
   ⟨0, rfl, Nat.zero_le _, rfl, rfl⟩ (Mv.of [] rfl rfl rfl trivial ⟨rfl, rfl, rfl, rfl, rfl, trivial⟩) ?_
  rintro _ _ _ ⟨k, rfl, hk, rfl, rfl⟩
  by_cases hlt : k < T.length
  ·have hg := toksD_get T k hlt
   have hkd := hT2 _ (List.getElem_mem hlt)
   rw [tok_arg] at hg
   generalize T[k] = u at *
   refine wR (k := ?_)
   exact ⟨_, _, _, ⟨k + 1, rfl, hlt, rfl, rfl⟩, by omega, Mv.of [] rfl rfl rfl trivial ⟨rfl, rfl, rfl, rfl, rfl, trivial⟩⟩
  ·have hk' : k = T.length := by omega
   subst hk'
   refine wR (k := ?_)
   refine loopT Tryz.wf Tryz.tab_ok (fun m s' σ => ∃ k : Nat, m = s.length - k ∧ k ≤ s.length ∧ s' = [(3, .d (.bool true)), (5, .d (.str s)), (6, .d (.int .i64 0)), (7, .d (.sl (toksD T))), (9, .d (.int .i64 k))] ∧ σ = ⟨0, []⟩)
    ⟨0, rfl, Nat.zero_le _, rfl, rfl⟩ (Mv.of [] rfl rfl rfl trivial ⟨rfl, rfl, rfl, rfl, rfl, trivial⟩) ?_
   rintro _ _ _ ⟨k, rfl, hk, rfl, rfl⟩
   by_cases hlt2 : k < s.length
   ·have hg := getD_at s k hlt2
    have hc := hcl _ (List.getElem_mem hlt2)
    have h60 : ¬ ((s.getD ((k : Nat) : Int).toNat 0).toNat : Int) = 60 := fun e => hc.1 (by rw [hg] at e; exact UInt8.toNat_inj.1 (by have : (60 : UInt8).toNat = 60 := rfl; omega))
    have h62 : ¬ ((s.getD ((k : Nat) : Int).toNat 0).toNat : Int) = 62 := fun e => hc.2.1 (by rw [hg] at e; exact UInt8.toNat_inj.1 (by have : (62 : UInt8).toNat = 62 := rfl; omega))
    refine wR (k := ?_)
    exact ⟨_, _, _, ⟨k + 1, rfl, hlt2, rfl, rfl⟩, by omega, Mv.of [] rfl rfl rfl trivial ⟨rfl, rfl, rfl, rfl, rfl, trivial⟩⟩
   ·have hk' : k = s.length := by omega
    subst hk'
    refine wR (k := ?_)
    exact ⟨_, _, fin_out rfl, congrArg (fun b => AV.d (.bool b)) (decide_eq_true (by omega))⟩
 ·refine pure_okT Tryz.wf Tryz.tab_ok Tryz.func7 (by decide +kernel) rfl rfl rfl rfl ?_
  refine wR (k := ?_)
  exact ⟨_, _, fin_out rfl, rfl⟩
theorem allL_take (l : List Node) (k : Nat) (h : k < l.length) : allL (l.take (k + 1)) = allL (l.take k) ++ allN l[k] := by
 have e : ∀ a b : List Node, allL (a ++ b) = allL a ++ allL b := by
  intro a b
  induction a with
  | nil => rw [List.nil_append, allL]; rfl
  | cons n r ih => rw [List.cons_append, allL_cons, allL_cons, ih, List.append_assoc]
 rw [List.take_succ_eq_append_getElem h, e, allL_cons, allL, List.append_nil]
mutual
theorem all_wtN : ∀ n : Node, (allN n).length ≤ wtN n
 | .mk nm a t k => by
  have := all_wtL k
  rw [allN, wtN]
  split
  ·exact Nat.zero_le _
  ·rw [List.length_append]; omega
theorem all_wtL : ∀ l : List Node, (allL l).length ≤ wtL l
 | [] => by rw [allL]; exact Nat.zero_le _
 | n :: r => by
  have h1 := all_wtN n
  have h2 := all_wtL r
  rw [allL_cons, wtL_cons, List.length_append]; omega
end
set_option maxRecDepth 100000 in
set_option maxHeartbeats 2000000 in
theorem sall_ok (N : Nat) : ∀ (l : List Node), szL l ≤ N → wtL l ≤ 1000000 → PureC Tryz.prog 29 [.d (.sl (nodesD l))] (.d (.str (allL l))) := by
 induction N using Nat.strongRecOn with
 | ind N ih =>
 intro l hN hw
 have hn := nodesD_len l
 have hsl := sz_len l
 have hsz := sz_wtL l
 refine pure_okT Tryz.wf Tryz.tab_ok Tryz.func29 (by decide +kernel) rfl rfl rfl rfl ?_
 refine wR (k := ?_)
 refine loopT Tryz.wf Tryz.tab_ok (fun m s' σ => ∃ k : Nat, m = l.length - k ∧ k ≤ l.length ∧ s' = [(0, .d (.sl (nodesD l))), (3, .d (.str (allL (l.take k)))), (4, .d (.int .i64 k))] ∧ σ = ⟨0, []⟩)
  ⟨0, rfl, Nat.zero_le _, rfl, rfl⟩ (Mv.of [] rfl rfl rfl trivial ⟨rfl, congrArg D.str (by rw [List.take_zero, allL]), rfl, trivial⟩) ?_
 rintro _ _ _ ⟨k, rfl, hk, rfl, rfl⟩
 by_cases hlt : k < l.length
 ·have hget := nodesD_get l k hlt
  have hks := kids_lt (List.getElem_mem hlt)
  have hwn := wtL_le (List.getElem_mem hlt)
  rw [wtN_eq] at hwn
  have hc1 := ih (szL l[k].kids) (by omega) l[k].kids (Nat.le_refl _) (by omega)
  have hc2 := Dropped_ok l[k].name
  have htk := allL_take l k hlt
  rw [allN_eq] at htk
  have h1 := all_wtL (l.take k)
  have h2 := wtL_take_le l k
  have h3 := all_wtL l[k].kids
  generalize allL (l.take k) = acc at *
  generalize allL l[k].kids = x at *
  cases hd : dropB l[k].name with
  | true =>
   rw [hd] at hc2
   rw [hd, if_pos rfl, List.append_nil] at htk
   refine wR (k := ?_)
   exact ⟨_, _, _, ⟨k + 1, rfl, hlt, rfl, rfl⟩, by omega, Mv.of [] rfl rfl rfl trivial ⟨rfl, congrArg D.str htk, rfl, trivial⟩⟩
  | false =>
   rw [hd] at hc2
   rw [hd, if_neg Bool.false_ne_true, ← List.append_assoc] at htk
   refine wR (k := ?_)
   show E _ _ _ _ _ _ _
   refine drawnT Tryz.wf Tryz.tab_ok Tryz.mixed (by decide +kernel) ?_; repeat' (first | refine qO ?_ | refine qP ?_ | fail)
   refine wR (k := ?_)
   exact ⟨_, _, _, ⟨k + 1, rfl, hlt, rfl, rfl⟩, by omega, Mv.of [] rfl rfl rfl trivial ⟨rfl, congrArg D.str htk, rfl, trivial⟩⟩
 ·have hk' : k = l.length := by omega
  subst hk'
  rw [List.take_length]
  refine wR (k := ?_)
  exact ⟨_, _, fin_out rfl, rfl⟩
theorem SanNothing_law {n : Nat} {r : List D} (h : DOk Tryz.prog n 25 r) : PureC Tryz.prog 7 [argAV Tryz.prog 25 r] (.d (.bool true)) := by
 obtain ⟨s, rfl⟩ := dok_bytes h
 rw [arg_bytes]; exact SanNothing_ok s
set_option maxRecDepth 100000 in
set_option maxHeartbeats 4000000 in
theorem SanText_ok (p : Pol) (raw : List UInt8) : PureC Tryz.prog 8 [polA p, .d (.sl (bytesD raw))] (.d (.bool true)) := by
 have hc1 := awake_ok
 have hc2 := pLight_ok p
 have hn := bytesD_len raw
 cases hlp : lightP p with
 | false =>
  rw [hlp] at hc2
  refine pure_okT Tryz.wf Tryz.tab_ok Tryz.func8 (by decide +kernel) rfl rfl rfl rfl ?_
  refine wR (k := ?_)
  exact ⟨_, _, fin_out rfl, rfl⟩
 | true =>
  rw [hlp] at hc2
  have hp := light_fits hlp
  have hc3 := Right_ok p hp
  by_cases hl : raw.length ≤ 3000
  ·cases hr : rightB p with
   | false =>
    rw [hr] at hc3
    refine pure_okT Tryz.wf Tryz.tab_ok Tryz.func8 (by decide +kernel) rfl rfl rfl rfl ?_
    refine wR (k := ?_)
    exact ⟨_, _, fin_out rfl, rfl⟩
   | true =>
    rw [hr] at hc3
    have hfs := fix_small hl
    have hc4 := Fix_ok raw (by omega)
    generalize fixB raw = x at *
    have hc5 := Tokens_ok x (by omega)
    obtain ⟨t1, t2, t3⟩ := toks_small (s := x) (by omega)
    have hc6 := Build_ok (toks x) t1 t2 t3
    unfold builtA at hc6
    cases hb : buildL (toks x) with
    | none =>
     rw [hb] at hc6
     dsimp only at hc6
     generalize toks x = T at *
     refine pure_okT Tryz.wf Tryz.tab_ok Tryz.func8 (by decide +kernel) rfl rfl rfl rfl ?_
     refine wR (k := ?_)
     exact ⟨_, _, fin_out rfl, rfl⟩
    | some l =>
     rw [hb] at hc6
     dsimp only at hc6
     obtain ⟨b1, b2⟩ := built_small (s := x) (by omega) hb
     have hwt := wt_tree p l
     have hc7 := sTree_ok p hp l (by omega)
     have hc8 := Text_ok (szL (treeB p l)) (treeB p l) (Nat.le_refl _) (by omega)
     have htx := tree_text p (built_weak hb)
     have hal := sall_ok (szL l) l (Nat.le_refl _) (by omega)
     rw [htx] at hc8
     clear hb t1 t2 t3 htx
     generalize toks x = T at *
     generalize treeB p l = t at *
     generalize allL l = y at *
     refine pure_okT Tryz.wf Tryz.tab_ok Tryz.func8 (by decide +kernel) rfl rfl rfl rfl ?_
     refine wR (k := ?_)
     exact ⟨_, _, fin_out rfl, congrArg (fun b => AV.d (.bool b)) (by simp)⟩
  ·refine pure_okT Tryz.wf Tryz.tab_ok Tryz.func8 (by decide +kernel) rfl rfl rfl rfl ?_
   refine wR (k := ?_)
   exact ⟨_, _, fin_out rfl, rfl⟩
theorem SanText_law {n n' : Nat} {r r' : List D} (h : DOk Tryz.prog n 24 r) (h' : DOk Tryz.prog n' 25 r') : PureC Tryz.prog 8 [argAV Tryz.prog 24 r, argAV Tryz.prog 25 r'] (.d (.bool true)) := by
 obtain ⟨p, rfl⟩ := dok_pol h
 obtain ⟨s, rfl⟩ := dok_bytes h'
 rw [arg_pol, arg_bytes]; exact SanText_ok p s
end Go.Proofs.YthngplknbbcecaaGreatDoor

