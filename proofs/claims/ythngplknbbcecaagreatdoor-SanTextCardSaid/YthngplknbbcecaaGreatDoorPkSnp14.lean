/- What is proved here serves the claim: the walk over the code and the plain laws, part 14 of 18. -/
import Derived.Test.YthngplknbbcecaaGreatDoorPkSnp13
import Derived.Lib.Bytealg
namespace Go.Proofs.YthngplknbbcecaaGreatDoor
open Go.Aw
set_option maxHeartbeats 1600000
set_option linter.unusedSimpArgs false
set_option linter.unusedVariables false
def splitB (c : UInt8) : List UInt8 → List (List UInt8)
 | [] => [[]]
 | x :: r => if x = c then [] :: splitB c r else match splitB c r with
  | p :: ps => (x :: p) :: ps
  | [] => [[x]]
theorem splitB_none {c : UInt8} : ∀ {s : List UInt8}, c ∉ s → splitB c s = [s]
 | [], _ => rfl
 | x :: r, h => by
  simp only [List.mem_cons, not_or] at h
  rw [splitB, if_neg (fun e => h.1 e.symm), splitB_none h.2]
theorem splitB_app {c : UInt8} : ∀ {a b : List UInt8}, c ∉ a → splitB c (a ++ c :: b) = a :: splitB c b
 | [], b, _ => by show splitB c (c :: b) = _; rw [splitB, if_pos rfl]
 | x :: a, b, h => by
  simp only [List.mem_cons, not_or] at h
  show splitB c (x :: (a ++ c :: b)) = _
  rw [splitB, if_neg (fun e => h.1 e.symm), splitB_app h.2]
theorem splitB_len (c : UInt8) : ∀ s : List UInt8, (splitB c s).length = s.count c + 1
 | [] => rfl
 | x :: r => by
  have ih := splitB_len c r
  rw [splitB]
  by_cases h : x = c
  ·subst h; rw [if_pos rfl, List.length_cons, ih, List.count_cons_self]
  ·rw [if_neg h, List.count_cons_of_ne h]
   cases hs : splitB c r with
   | nil => rw [hs] at ih; simp at ih
   | cons p ps => rw [hs] at ih; simpa using ih
theorem count_abs {f : FuncId} {fn : Func} (hf : Tryz.prog.funcs[f]? = some fn) (hn : (fn.name == "runtime.NumGoroutine") = false) (hb : fn.body.isNone = true) (h1 : Extern.findNext fn = none) (h2 : Extern.find fn = some Extern.BytealgCount.count) (s : List UInt8) (c : UInt8) :
  PureC Tryz.prog f [.d (.str s), .d (.int .u8 c.toNat)] (.d (.int .i64 (s.count c : Nat))) := fun σ => by
 refine .inr ⟨fn, _, hf, hn, hb, h1, h2, fun g w vs R hL => ?_⟩
 obtain ⟨v, r, rfl, q1, q2⟩ := hL.uncons
 obtain ⟨u, r', rfl, q3, q4⟩ := q2.uncons
 rw [q4.unnil]
 have e1 : v = .string ⟨s.toArray⟩ := by cases q1 with | d h => cases h; rfl
 have e2 : u = .int .u8 c.toNat := by cases q3 with | d h => cases h; rfl
 subst e1; subst e2
 rw [show [Value.string ⟨s.toArray⟩, Value.int .u8 c.toNat].toArray = #[Value.string ⟨s.toArray⟩, Value.int .u8 c.toNat] from rfl, Lib.run_countString]
 refine ⟨g, σ, .d (.int .i64 (s.count c : Nat)), Ext.refl _ _ _, R, ?_, rfl, rfl⟩
 have : (((c.toNat : Nat) : Int).toNat.toUInt8) = c := by simp
 rw [this]
 exact .d (.int _ _)
theorem CountString_ok (s : List UInt8) (c : UInt8) : PureC Tryz.prog 210 [.d (.str s), .d (.int .u8 c.toNat)] (.d (.int .i64 (s.count c : Nat))) :=
 count_abs Tryz.func210 (by decide +kernel) rfl (by kernel_rfl) (by kernel_rfl) s c
set_option maxRecDepth 100000 in
theorem Count1_ok (s : List UInt8) (c : UInt8) : PureC Tryz.prog 199 [.d (.str s), .d (.str [c])] (.d (.int .i64 (s.count c : Nat))) := by
 have hc1 := CountString_ok s c
 refine pure_okT Tryz.wf Tryz.tab_ok Tryz.func199 (by decide +kernel) rfl rfl rfl rfl ?_
 refine wR (k := ?_)
 exact ⟨_, _, fin_out rfl, rfl⟩
set_option maxRecDepth 100000 in
theorem sIndexL_ok (s : List UInt8) (c : UInt8) : PureC Tryz.prog 145 [.d (.str s), .d (.str [c])] (.d (.int .i64 (idxB c s))) := by
 have hc1 := lIndexByte_ok s c
 refine pure_okT Tryz.wf Tryz.tab_ok Tryz.func145 (by decide +kernel) rfl rfl rfl rfl ?_
 repeat' (first | refine PureC.use hc1 ?_ | refine wO ?_ | (refine ⟨fun h => ?_, fun h => ?_⟩ <;> (try simp only [wS, List.length_cons, List.length_nil] at h) <;> (try exact wX h)) | refine wP ?_ | fail)
 ·rename_i h
  refine ⟨_, _, fin_out rfl, ?_⟩
  subst h
  exact congrArg (fun n => AV.d (.int .i64 n)) (idxB_some (a := []) (b := []) (by simp)).symm
 ·exact ⟨_, _, fin_out rfl, rfl⟩
set_option maxRecDepth 100000 in
theorem sIndex1_ok (s : List UInt8) (c : UInt8) : PureC Tryz.prog 152 [.d (.str s), .d (.str [c])] (.d (.int .i64 (idxB c s))) := by
 have hc1 := sIndexL_ok s c
 refine pure_okT Tryz.wf Tryz.tab_ok Tryz.func152 (by decide +kernel) rfl rfl rfl rfl ?_
 refine wR (k := ?_)
 exact ⟨_, _, fin_out rfl, rfl⟩
abbrev strRs (P : List (List UInt8)) (m : Nat) : List (List AV) := ((strsD P).map fun r => r.map AV.d) ++ List.replicate m [.d (.str [])]
theorem strRs_get (P : List (List UInt8)) (m : Nat) : (strRs P (m + 1))[P.length]? = some [.d (.str [])] := by
 unfold strRs
 rw [List.getElem?_append_right (by simp [strsD_len]), List.length_map, strsD_len, Nat.sub_self]; rfl
theorem strRs_set (P : List (List UInt8)) (m : Nat) (x : List UInt8) : (strRs P (m + 1)).set P.length [.d (.str x)] = strRs (P ++ [x]) m := by
 unfold strRs
 rw [List.set_append_right _ _ (by simp [strsD_len]), List.length_map, strsD_len, Nat.sub_self, List.replicate_succ]
 simp [strsD]
theorem strRs_pure (P : List (List UInt8)) (m : Nat) : ∀ row ∈ strRs P m, pureL row = true := fun row h => by
 rcases List.mem_append.1 h with h | h
 ·exact dataA_pure _ row h
 ·rw [List.eq_of_mem_replicate h]; rfl
theorem tail_eq (a b : List UInt8) (c : UInt8) : b = ((a ++ c :: b).take ((a ++ c :: b).length : Int).toNat).drop ((a.length : Int) + ([c].length : Int)).toNat := by
 rw [Int.toNat_natCast, List.take_length, show ((a.length : Int) + ([c].length : Int)).toNat = a.length + 1 from by simp]; simp
theorem fin_ownS {σ : Store} {i len : Nat} {sz : Nat × Nat} {rs : List (List AV)} {ds : List (List D)} (ho : σ.get i = .rows sz rs) (hds : rowsD rs = some ds) (hl : len = ds.length) : FinMove ⟨0, []⟩ (.own i 0 len) σ (.d (.sl ds)) ⟨0, []⟩ := by
 have h1 := fin_freeze (σ0 := ⟨0, []⟩) (r := .own i 0 len) i ho hds (fun _ => by rw [Nat.zero_add, hl, (rowsD_get hds).1]; exact Nat.le_refl _)
 rw [frz_whole i ds len hl] at h1
 exact h1.trans (fin_mv [] (Nat.ble_eq_true_of_le (Nat.zero_le _)) rfl rfl trivial rfl)
set_option maxHeartbeats 1000000 in
set_option maxRecDepth 100000 in
theorem genSplit_ok (c : UInt8) (s : List UInt8) (hs : s.length ≤ 1000000000) : PureC Tryz.prog 193 [.d (.str s), .d (.str [c]), .d (.int .i64 0), .d (.int .i64 (-1))] (.d (.sl (strsD (splitB c s)))) := by
 have hc1 := Count1_ok s c
 have hcl := List.count_le_length (a := c) (l := s)
 have hlen := splitB_len c s
 generalize hN : s.count c = N at *
 refine pure_okT Tryz.wf Tryz.tab_ok Tryz.func193 (by decide +kernel) rfl rfl rfl rfl ?_
 refine wR (k := ?_)
 refine ⟨⟨?_, ?_, ?_, ?_⟩, ?_⟩
 all_goals rw [if_neg (by omega)]
 ·omega
 ·show ((N : Int) + 1) * 16 ≤ 140737488355328
  omega
 ·omega
 ·rw [show ((N : Int) + 1).toNat = N + 1 from by omega]
  refine wR (k := ?_)
  refine loopT Tryz.wf Tryz.tab_ok (fun n s' σ => ∃ (P : List (List UInt8)) (r : List UInt8), n = N - P.length ∧ r.length ≤ s.length ∧ splitB c s = P ++ splitB c r ∧ s' = [(0, .d (.str r)), (1, .d (.str [c])), (2, .d (.int .i64 0)), (3, .d (.int .i64 N)), (9, .own 0 0 (N + 1)), (10, .d (.int .i64 P.length))] ∧ σ = ⟨1, [(0, .rows (1, 9) (strRs P (N + 1 - P.length)))]⟩)
   ⟨[], s, rfl, Nat.le_refl _, rfl, rfl, rfl⟩ (Mv.of [.old 0] rfl rfl rfl ⟨⟨rfl, .inl ⟨rfl, strRs_pure _ _⟩⟩, trivial⟩ ⟨rfl, rfl, rfl, congrArg (fun n : Int => D.int .i64 n) (by omega), ⟨rfl, rfl, rfl⟩, rfl, trivial⟩) ?_
  rintro _ _ _ ⟨P, r, rfl, hr, hsp, rfl, rfl⟩
  have hcr := splitB_len c r
  have hlr := List.count_le_length (a := c) (l := r)
  rw [hsp, List.length_append] at hlen
  have hg := strRs_get P (N - P.length)
  rw [show N + 1 - P.length = (N - P.length) + 1 from by omega]
  by_cases hlt : P.length < N
  ·have hm : c ∈ r := List.count_pos_iff.1 (by omega)
   obtain ⟨a, b, rfl, ha⟩ := split_first hm
   have hst := strRs_set P (N - P.length) a
   rw [splitB_app ha] at hsp
   have hc2 := sIndex1_ok (a ++ c :: b) c
   rw [idxB_some ha] at hc2
   simp only [List.length_append, List.length_cons] at hr
   have hl2 : ((a ++ c :: b).length : Int) = a.length + b.length + 1 := by simp; omega
   clear hc1 hcr hlr
   refine wR (k := ?_)
   exact ⟨_, _, _, ⟨P ++ [a], b, rfl, by omega, by rw [hsp]; simp, rfl, rfl⟩, by simp; omega, Mv.of [.old 0] rfl rfl rfl ⟨⟨rfl, .inl ⟨(congrArg (strRs (P ++ [a])) (by simp)).trans (hst.symm.trans (congrArg (fun x : List UInt8 => (strRs P (N - P.length + 1)).set P.length [AV.d (.str x)]) (by simp : a = ((a ++ c :: b).take ((a.length : Int) + 0).toNat).drop (0 : Int).toNat))), strRs_pure _ _⟩⟩, trivial⟩ ⟨congrArg D.str (tail_eq a b c), rfl, rfl, rfl, ⟨rfl, rfl, rfl⟩, congrArg (fun n : Int => D.int .i64 n) (by simp), trivial⟩⟩
  ·have hP : P.length = N := by omega
   subst hP
   rw [Nat.sub_self] at hg ⊢
   have hst := strRs_set P 0 r
   have hnc : c ∉ r := fun h => by have := List.count_pos_iff.2 h; omega
   rw [splitB_none hnc] at hsp
   refine wR (k := ?_)
   refine .inl ⟨rfl, ?_⟩
   refine wR (k := ?_)
   refine ⟨_, _, fin_ownS (ds := strsD (splitB c s)) rfl ?_ ?_, rfl⟩
   ·rw [hsp]
    exact (congrArg rowsD hst).trans ((congrArg rowsD (List.append_nil _)).trans (rowsD_d _))
   ·rw [hsp, strsD_len, List.length_append]
    show ((P.length : Int) + 1).toNat = P.length + 1
    omega
set_option maxRecDepth 100000 in
theorem Split_ok (c : UInt8) (s : List UInt8) (hs : s.length ≤ 1000000000) : PureC Tryz.prog 185 [.d (.str s), .d (.str [c])] (.d (.sl (strsD (splitB c s)))) := by
 have hc1 := genSplit_ok c s hs
 refine pure_okT Tryz.wf Tryz.tab_ok Tryz.func185 (by decide +kernel) rfl rfl rfl rfl ?_
 refine wR (k := ?_)
 exact ⟨_, _, fin_out rfl, rfl⟩
def bitD (cs : List UInt8) : List D := (List.range 256).map fun i => .bool (decide (UInt8.ofNat i ∈ cs))
theorem bitD_len (cs : List UInt8) : (bitD cs).length = 256 := by simp [bitD]
theorem bitD_get (cs : List UInt8) (c : UInt8) : (bitD cs)[c.toNat]? = some (.bool (decide (c ∈ cs))) := by
 unfold bitD
 rw [List.getElem?_map, List.getElem?_range (UInt8.toNat_lt c), Option.map_some, UInt8.ofNat_toNat]
theorem bitD_set (cs : List UInt8) (c : UInt8) : ((bitD cs).map AV.d).take c.toNat ++ [.d (.bool true)] ++ ((bitD cs).map AV.d).drop (c.toNat + 1) = (bitD (cs ++ [c])).map AV.d := by
 have hc := UInt8.toNat_lt c
 have h1 : ((bitD cs).map AV.d).take c.toNat ++ [.d (.bool true)] ++ ((bitD cs).map AV.d).drop (c.toNat + 1) = ((bitD cs).set c.toNat (.bool true)).map AV.d := by
  rw [List.set_eq_take_append_cons_drop, if_pos (by rw [bitD_len]; exact hc)]
  simp
 rw [h1]
 congr 1
 apply List.ext_getElem?
 intro i
 rw [List.getElem?_set]
 by_cases hi : i < 256
 ·simp only [bitD, List.getElem?_map, List.getElem?_range hi, List.length_map, List.length_range, Option.map_some]
  by_cases e : c.toNat = i
  ·subst e
   rw [if_pos rfl, if_pos hi]; simp
  ·rw [if_neg e]
   have : UInt8.ofNat i ≠ c := fun h => e (by rw [← h]; simp; omega)
   simp [this]
 ·rw [if_neg (by omega), List.getElem?_eq_none (by rw [bitD_len]; omega), List.getElem?_eq_none (by rw [bitD_len]; omega)]
theorem self256 (l : List AV) (h : l.length = 256) : ((l.take 0 ++ (l.drop 0).take 256 ++ l.drop (0 + ((l.drop 0).take 256).length)).drop 0).take 256 = l := by
 have e : l.take 256 = l := by rw [← h, List.take_length]
 simp [e]
theorem dcells_pure (l : List D) : pureL (l.map AV.d) = true := by
 induction l with
 | nil => rfl
 | cons a r ih => exact ih
set_option maxRecDepth 100000 in
theorem contains_ok (cs : List UInt8) (c : UInt8) : PureC Tryz.prog 211 [.ip (bitD cs) 0, .d (.int .u8 c.toNat)] (.d (.bool (decide (c ∈ cs)))) := by
 have hg : (bitD cs)[0 + ((c.toNat : Nat) : Int).toNat * 1]? = some (.bool (decide (c ∈ cs))) := by
  rw [Int.toNat_natCast, Nat.mul_one, Nat.zero_add]; exact bitD_get cs c
 have hc := UInt8.toNat_lt c
 refine pure_okT Tryz.wf Tryz.tab_ok Tryz.func211 (by decide +kernel) rfl rfl rfl rfl ?_
 refine wR (k := ?_)
 refine ⟨_, hg, ?_⟩
 refine wR (k := ?_)
 exact ⟨_, _, fin_out rfl, rfl⟩
set_option maxRecDepth 100000 in
set_option maxHeartbeats 1000000 in
theorem ASCIISet_ok (cs : List UInt8) (hl : cs.length ≤ 1000) (hcs : ∀ c ∈ cs, c.toNat < 128) : PureC Tryz.prog 202 [.d (.str cs)] (.tup [.agg ((bitD cs).map AV.d), .d (.bool true)]) := by
 refine pure_okT Tryz.wf Tryz.tab_ok Tryz.func202 (by decide +kernel) rfl rfl rfl (by show (pureL ((bitD cs).map AV.d) && true) = true; rw [dcells_pure]; rfl) ?_
 refine wR (k := ?_)
 refine loopT Tryz.wf Tryz.tab_ok (fun n s' σ => ∃ k : Nat, n = cs.length - k ∧ k ≤ cs.length ∧ s' = [(0, .d (.str cs)), (2, .ref 0 0 0), (4, .d (.int .i64 k))] ∧ σ = ⟨1, [(0, .rows (256, 187) [(bitD (cs.take k)).map AV.d])]⟩)
  ⟨0, rfl, Nat.zero_le _, rfl, rfl⟩ (Mv.of [.old 0] rfl rfl rfl ⟨⟨rfl, .inl ⟨rfl, fun row h => by rw [List.mem_singleton.1 h]; exact dcells_pure _⟩⟩, trivial⟩ ⟨rfl, ⟨rfl, rfl, rfl⟩, rfl, trivial⟩) ?_
 rintro _ _ _ ⟨k, rfl, hk, rfl, rfl⟩
 by_cases hlt : k < cs.length
 ·have hg := getD_at cs k hlt
  have hc : (cs.getD ((k : Nat) : Int).toNat 0).toNat < 128 := by rw [hg]; exact hcs _ (List.getElem_mem hlt)
  have hst : ((bitD (cs.take k)).map AV.d).take (0 + (((cs.getD ((k : Nat) : Int).toNat 0).toNat : Nat) : Int).toNat * 1) ++ [.d (.bool true)] ++ ((bitD (cs.take k)).map AV.d).drop (0 + (((cs.getD ((k : Nat) : Int).toNat 0).toNat : Nat) : Int).toNat * 1 + 1) = (bitD (cs.take (k + 1))).map AV.d := by
   rw [hg, ← List.take_append_getElem hlt, Int.toNat_natCast, Nat.mul_one, Nat.zero_add]
   exact bitD_set _ _
  refine wR (k := ?_)
  refine ⟨by rw [List.length_map, bitD_len]; show 0 + (((cs.getD ((k : Nat) : Int).toNat 0).toNat : Nat) : Int).toNat * 1 + 1 ≤ 256; omega, ?_⟩
  refine wR (k := ?_)
  exact ⟨_, _, _, ⟨k + 1, rfl, hlt, rfl, rfl⟩, by omega, Mv.of [.old 0] rfl rfl rfl ⟨⟨rfl, .inl ⟨congrArg (fun x => [x]) hst.symm, fun row h => by rw [List.mem_singleton.1 h]; exact dcells_pure _⟩⟩, trivial⟩ ⟨rfl, ⟨rfl, rfl, rfl⟩, rfl, trivial⟩⟩
 ·have hk' : k = cs.length := by omega
  subst hk'
  rw [List.take_length]
  refine wR (k := ?_)
  refine ⟨.tup [.agg ((bitD cs).map AV.d), .d (.bool true)], ⟨0, []⟩, ?_, rfl⟩
  show FinMove _ (.tup [.agg (((((bitD cs).map AV.d).take 0 ++ (((bitD cs).map AV.d).drop 0).take 256 ++ ((bitD cs).map AV.d).drop (0 + ((((bitD cs).map AV.d).drop 0).take 256).length)).drop 0).take 256), .d (.bool true)]) _ _ _
  rw [self256 _ (by rw [List.length_map, bitD_len])]
  exact fin_out (by show (pureL ((bitD cs).map AV.d) && true) = true; rw [dcells_pure]; rfl)
def trimLB (cs s : List UInt8) : List UInt8 := s.dropWhile fun c => decide (c ∈ cs)
def trimRB (cs s : List UInt8) : List UInt8 := (s.reverse.dropWhile fun c => decide (c ∈ cs)).reverse
theorem trimRB_snoc (cs r : List UInt8) (c : UInt8) : trimRB cs (r ++ [c]) = if c ∈ cs then trimRB cs r else r ++ [c] := by
 unfold trimRB
 rw [List.reverse_append]
 show (List.dropWhile _ (c :: r.reverse)).reverse = _
 by_cases h : c ∈ cs
 ·rw [if_pos h, List.dropWhile_cons_of_pos (by simpa using h)]
 ·rw [if_neg h, List.dropWhile_cons_of_neg (by simpa using h)]; simp
theorem trimLB_cons (cs r : List UInt8) (c : UInt8) : trimLB cs (c :: r) = if c ∈ cs then trimLB cs r else c :: r := by
 unfold trimLB
 by_cases h : c ∈ cs
 ·rw [if_pos h, List.dropWhile_cons_of_pos (by simpa using h)]
 ·rw [if_neg h, List.dropWhile_cons_of_neg (by simpa using h)]
theorem getD_last (r : List UInt8) (c : UInt8) : (r ++ [c]).getD (((r ++ [c]).length : Int) - 1).toNat 0 = c := by
 rw [show (((r ++ [c]).length : Int) - 1).toNat = r.length from by simp, List.getD_eq_getElem?_getD]; simp
theorem take_last (r : List UInt8) (c : UInt8) : r = ((r ++ [c]).take (((r ++ [c]).length : Int) - 1).toNat).drop (0 : Int).toNat := by
 rw [show (((r ++ [c]).length : Int) - 1).toNat = r.length from by simp]; simp
set_option maxRecDepth 100000 in
set_option maxHeartbeats 1000000 in
theorem trimRight_ok (cs s : List UInt8) (hs : s.length ≤ 1000000000) : PureC Tryz.prog 204 [.d (.str s), .ip (bitD cs) 0] (.d (.str (trimRB cs s))) := by
 refine pure_okT Tryz.wf Tryz.tab_ok Tryz.func204 (by decide +kernel) rfl rfl rfl rfl ?_
 refine wR (k := ?_)
 refine loopT Tryz.wf Tryz.tab_ok (fun n s' σ => ∃ r : List UInt8, n = r.length ∧ r.length ≤ s.length ∧ trimRB cs s = trimRB cs r ∧ s' = [(0, .d (.str r)), (1, .ip (bitD cs) 0)] ∧ σ = ⟨0, []⟩)
  ⟨s, rfl, Nat.le_refl _, rfl, rfl, rfl⟩ (Mv.of [] rfl rfl rfl trivial ⟨rfl, ⟨rfl, rfl⟩, trivial⟩) ?_
 rintro _ _ _ ⟨r, rfl, hr, he, rfl, rfl⟩
 rcases List.eq_nil_or_concat r with rfl | ⟨r, c, rfl⟩
 ·refine wR (k := ?_)
  refine ⟨_, _, fin_out rfl, ?_⟩
  rw [he]; rfl
 ·rw [List.concat_eq_append] at *
  have hgd := getD_last r c
  have hc1 : PureC Tryz.prog 211 [.ip (bitD cs) 0, .d (.int .u8 ((r ++ [c]).getD (((r ++ [c]).length : Int) - 1).toNat 0).toNat)] (.d (.bool (decide (c ∈ cs)))) := by
   rw [hgd]; exact contains_ok cs c
  have hl : (r ++ [c]).length = r.length + 1 := by simp
  rw [trimRB_snoc] at he
  by_cases hm : c ∈ cs
  ·rw [decide_eq_true hm] at hc1
   rw [if_pos hm] at he
   refine wR (k := ?_)
   exact ⟨_, _, _, ⟨r, rfl, by omega, he, rfl, rfl⟩, by omega, Mv.of [] rfl rfl rfl trivial ⟨congrArg D.str (take_last r c), ⟨rfl, rfl⟩, trivial⟩⟩
  ·rw [decide_eq_false hm] at hc1
   rw [if_neg hm] at he
   refine wR (k := ?_)
   refine ⟨_, _, fin_out rfl, ?_⟩
   rw [he]; rfl
set_option maxRecDepth 100000 in
set_option maxHeartbeats 1000000 in
theorem trimLeft_ok (cs s : List UInt8) (hs : s.length ≤ 1000000000) : PureC Tryz.prog 203 [.d (.str s), .ip (bitD cs) 0] (.d (.str (trimLB cs s))) := by
 refine pure_okT Tryz.wf Tryz.tab_ok Tryz.func203 (by decide +kernel) rfl rfl rfl rfl ?_
 refine wR (k := ?_)
 refine loopT Tryz.wf Tryz.tab_ok (fun n s' σ => ∃ r : List UInt8, n = r.length ∧ r.length ≤ s.length ∧ trimLB cs s = trimLB cs r ∧ s' = [(0, .d (.str r)), (1, .ip (bitD cs) 0)] ∧ σ = ⟨0, []⟩)
  ⟨s, rfl, Nat.le_refl _, rfl, rfl, rfl⟩ (Mv.of [] rfl rfl rfl trivial ⟨rfl, ⟨rfl, rfl⟩, trivial⟩) ?_
 rintro _ _ _ ⟨r, rfl, hr, he, rfl, rfl⟩
 cases r with
 | nil =>
  refine wR (k := ?_)
  refine ⟨_, _, fin_out rfl, ?_⟩
  rw [he]; rfl
 | cons c r =>
  have hc1 := contains_ok cs c
  have hl : (c :: r).length = r.length + 1 := by simp
  rw [trimLB_cons] at he
  by_cases hm : c ∈ cs
  ·rw [decide_eq_true hm] at hc1
   rw [if_pos hm] at he
   refine wR (k := ?_)
   exact ⟨_, _, _, ⟨r, rfl, by omega, he, rfl, rfl⟩, by omega, Mv.of [] rfl rfl rfl trivial ⟨congrArg D.str (by rw [Int.toNat_natCast, List.take_length]; rfl), ⟨rfl, rfl⟩, trivial⟩⟩
  ·rw [decide_eq_false hm] at hc1
   rw [if_neg hm] at he
   refine wR (k := ?_)
   refine ⟨_, _, fin_out rfl, ?_⟩
   rw [he]; rfl
def cutS : List UInt8 := [9, 10, 12, 13, 32]
theorem see_bits {cs : List UInt8} {sz : Nat × Nat} (s : List UInt8) (i : Nat) (σ : Store) (h : σ.get i = .rows sz [(bitD cs).map AV.d]) : optL (seeV σ 1) [.d (.str s), .ref i 0 0] = some [.d (.str s), .ip (bitD cs) 0] := by
 simp only [optL, seeV, h, seeD_d, List.getElem?_cons_zero, see_row, Option.map_some]
theorem dropWhile_le {α : Type} (p : α → Bool) : ∀ l : List α, (l.dropWhile p).length ≤ l.length
 | [] => Nat.le_refl _
 | a :: r => by
  rw [List.dropWhile_cons]
  split
  ·exact Nat.le_succ_of_le (dropWhile_le p r)
  ·exact Nat.le_refl _
theorem trimRB_le (cs s : List UInt8) : (trimRB cs s).length ≤ s.length := by
 unfold trimRB
 rw [List.length_reverse]
 exact Nat.le_trans (dropWhile_le _ _) (Nat.le_of_eq List.length_reverse)
set_option maxRecDepth 100000 in
set_option maxHeartbeats 1000000 in
theorem Trim_ok (s : List UInt8) (hs : s.length ≤ 1000000000) : PureC Tryz.prog 196 [.d (.str s), .d (.str cutS)] (.d (.str (trimLB cutS (trimRB cutS s)))) := by
 have hc1 := ASCIISet_ok cutS (by decide) (by decide)
 have hp1 := trimRight_ok cutS s hs
 have hp2 := trimLeft_ok cutS (trimRB cutS s) (Nat.le_trans (trimRB_le _ _) hs)
 refine pure_okT Tryz.wf Tryz.tab_ok Tryz.func196 (by decide +kernel) rfl rfl rfl rfl ?_
 cases s with
 | nil =>
  refine wR (k := ?_)
  exact ⟨_, _, fin_out rfl, rfl⟩
 | cons x s =>
  refine wR (k := ?_)
  refine CallsAbs.use1 (PureC.borrow 1 hp1 rfl (see_bits (sz := (256, 187)) _ _ _ (by kernel_rfl))) ?_
  refine wR (k := ?_)
  refine CallsAbs.use1 (PureC.borrow 1 hp2 rfl (see_bits (sz := (256, 187)) _ _ _ (by kernel_rfl))) ?_
  refine wR (k := ?_)
  exact ⟨_, _, fin_out rfl, rfl⟩
def cutAt (c : UInt8) : List UInt8 → Option (List UInt8 × List UInt8)
 | [] => none
 | x :: r => if x = c then some ([], r) else (cutAt c r).map fun p => (x :: p.1, p.2)
theorem cutAt_some {c : UInt8} : ∀ {a b : List UInt8}, c ∉ a → cutAt c (a ++ c :: b) = some (a, b)
 | [], b, _ => by show cutAt c (c :: b) = _; rw [cutAt, if_pos rfl]
 | x :: a, b, h => by
  simp only [List.mem_cons, not_or] at h
  show cutAt c (x :: (a ++ c :: b)) = _
  rw [cutAt, if_neg (fun e => h.1 e.symm), cutAt_some h.2]; rfl
theorem cutAt_none {c : UInt8} : ∀ {s : List UInt8}, c ∉ s → cutAt c s = none
 | [], _ => rfl
 | x :: r, h => by
  simp only [List.mem_cons, not_or] at h
  rw [cutAt, if_neg (fun e => h.1 e.symm), cutAt_none h.2]; rfl
def cutW (c : UInt8) (s : List UInt8) : AV := match cutAt c s with
 | none => .tup [.d (.str s), .d (.str []), .d (.bool false)]
 | some (a, b) => .tup [.d (.str a), .d (.str b), .d (.bool true)]
theorem cutW_pure (c : UInt8) (s : List UInt8) : (cutW c s).pure = true := by unfold cutW; split <;> rfl
set_option maxRecDepth 100000 in
theorem lCutC_ok (c : UInt8) (s : List UInt8) (hs : s.length ≤ 1000000000) : PureC Tryz.prog 97 [.d (.str s), .d (.str [c])] (cutW c s) := by
 have hc1 := sIndexL_ok s c
 refine pure_okT Tryz.wf Tryz.tab_ok Tryz.func97 (by decide +kernel) rfl rfl rfl (cutW_pure c s) ?_
 by_cases hm : c ∈ s
 ·obtain ⟨a, b, rfl, ha⟩ := split_first hm
  rw [idxB_some ha] at hc1
  have e : cutW c (a ++ c :: b) = .tup [.d (.str a), .d (.str b), .d (.bool true)] := by unfold cutW; rw [cutAt_some ha]
  rw [e]
  simp only [List.length_append, List.length_cons] at hs
  refine wR (k := ?_)
  refine drawnT Tryz.wf Tryz.tab_ok Tryz.mixed (by decide +kernel) ?_; repeat' (first | refine qO ?_ | refine qP ?_ | fail)
  refine ⟨_, _, fin_out rfl, ?_⟩
  show AV.tup [.d (.str (((a ++ c :: b).take ((a.length : Nat) : Int).toNat).drop (0 : Int).toNat)), .d (.str (((a ++ c :: b).take (((a ++ c :: b).length : Nat) : Int).toNat).drop ((a.length : Int) + ((([c] : List UInt8).length : Nat) : Int)).toNat)), .d (.bool true)] = _
  have e2 : ((a.length : Int) + ((([c] : List UInt8).length : Nat) : Int)).toNat = a.length + 1 := by simp only [List.length_cons, List.length_nil]; omega
  rw [e2, Int.toNat_natCast, Int.toNat_natCast, List.take_length]
  simp
 ·rw [idxB_none hm] at hc1
  have e : cutW c s = .tup [.d (.str s), .d (.str []), .d (.bool false)] := by unfold cutW; rw [cutAt_none hm]
  rw [e]
  refine wR (k := ?_)
  exact ⟨_, _, fin_out rfl, rfl⟩
set_option maxRecDepth 100000 in
theorem CutC_ok (c : UInt8) (s : List UInt8) (hs : s.length ≤ 1000000000) : PureC Tryz.prog 56 [.d (.str s), .d (.str [c])] (cutW c s) := by
 have hc1 := lCutC_ok c s hs
 refine pure_okT Tryz.wf Tryz.tab_ok Tryz.func56 (by decide +kernel) rfl rfl rfl (cutW_pure c s) ?_
 refine PureC.use hc1 ?_
 unfold cutW
 cases cutAt c s with
 | none => exact ⟨_, _, fin_out rfl, rfl⟩
 | some x => exact ⟨_, _, fin_out rfl, rfl⟩
def bareB (s : List UInt8) : List UInt8 := lower (trimLB cutS (trimRB cutS s))
theorem trimLB_le (cs s : List UInt8) : (trimLB cs s).length ≤ s.length := dropWhile_le _ _
set_option maxRecDepth 100000 in
theorem bare_ok (s : List UInt8) (hs : s.length ≤ 1000000000) : PureC Tryz.prog 191 [.d (.str s)] (.d (.str (bareB s))) := by
 have hc1 := Trim_ok s hs
 have hc2 := Lower_ok (trimLB cutS (trimRB cutS s)) (Nat.le_trans (trimLB_le _ _) (Nat.le_trans (trimRB_le _ _) (Nat.le_trans hs (by decide))))
 refine pure_okT Tryz.wf Tryz.tab_ok Tryz.func191 (by decide +kernel) rfl rfl rfl rfl ?_
 refine wR (k := ?_)
 exact ⟨_, _, fin_out rfl, rfl⟩
def mark : List UInt8 := [32, 35, 37, 46, 44, 45]
def okB (c : UInt8) : Bool := (decide (97 ≤ c.toNat) && decide (c.toNat ≤ 122)) || (decide (48 ≤ c.toNat) && decide (c.toNat ≤ 57)) || decide (c ∈ mark)
def valB (s : List UInt8) : Bool := decide (1 ≤ s.length) && decide (s.length ≤ 100) && !decide (s.getD 0 0 = 32) && !decide (s.getD (s.length - 1) 0 = 32) && s.all okB
theorem idx_mark (c : UInt8) : decide (0 ≤ idxB c mark) = decide (c ∈ mark) := by
 by_cases hm : c ∈ mark
 ·obtain ⟨a, b, e, ha⟩ := split_first hm
  rw [e, idxB_some ha, ← e, decide_eq_true hm, decide_eq_true (by omega)]
 ·rw [idxB_none hm, decide_eq_false hm]; rfl
theorem b32 {c : UInt8} (h : (c.toNat : Int) = 32) : c = 32 := UInt8.toNat_inj.1 (by have : (32 : UInt8).toNat = 32 := rfl; omega)
theorem nb32 {c : UInt8} (h : ¬ (c.toNat : Int) = 32) : c ≠ 32 := fun e => h (by rw [e]; rfl)
theorem valB_long {s : List UInt8} (h : 100 < (s.length : Int)) : valB s = false := by unfold valB; rw [decide_eq_false (show ¬ s.length ≤ 100 by omega)]; simp
theorem valB_first {s : List UInt8} (h : ((s.getD (0 : Int).toNat 0).toNat : Int) = 32) : valB s = false := by unfold valB; rw [decide_eq_true (show s.getD 0 0 = 32 from b32 h)]; simp
theorem valB_last {s : List UInt8} (hl : 1 ≤ s.length) (h : ((s.getD ((s.length : Int) - 1).toNat 0).toNat : Int) = 32) : valB s = false := by
 rw [show ((s.length : Int) - 1).toNat = s.length - 1 from by omega] at h
 unfold valB; rw [decide_eq_true (show s.getD (s.length - 1) 0 = 32 from b32 h)]; simp
theorem valB_all {s : List UInt8} (hl : 1 ≤ s.length) (h1 : ¬ 100 < (s.length : Int)) (h2 : ¬ ((s.getD (0 : Int).toNat 0).toNat : Int) = 32) (h3 : ¬ ((s.getD ((s.length : Int) - 1).toNat 0).toNat : Int) = 32) : valB s = s.all okB := by
 rw [show ((s.length : Int) - 1).toNat = s.length - 1 from by omega] at h3
 unfold valB
 rw [decide_eq_true hl, decide_eq_true (show s.length ≤ 100 by omega), decide_eq_false (show ¬ s.getD 0 0 = 32 from nb32 h2), decide_eq_false (nb32 h3)]; rfl
theorem allB_step (p : UInt8 → Bool) (s : List UInt8) (k : Nat) (h : k < s.length) : (s.take (k + 1)).all p = ((s.take k).all p && p s[k]) := by
 rw [List.take_succ_eq_append_getElem h, List.all_append]; simp
theorem allB_stop (p : UInt8 → Bool) (s : List UInt8) (k : Nat) (h : k < s.length) (hp : p s[k] = false) : s.all p = false := by
 rw [List.all_eq_false]; exact ⟨s[k], List.getElem_mem h, by simp [hp]⟩
set_option maxRecDepth 100000 in
set_option maxHeartbeats 1000000 in
theorem Value_ok (s : List UInt8) (hs : s.length ≤ 1000000000) : PureC Tryz.prog 180 [.d (.str s)] (.d (.bool (valB s))) := by
 refine pure_okT Tryz.wf Tryz.tab_ok Tryz.func180 (by decide +kernel) rfl rfl rfl rfl ?_
 by_cases h0 : s = []
 ·subst h0
  refine wR (k := ?_)
  exact ⟨_, _, fin_out rfl, rfl⟩
 have hl : 1 ≤ s.length := by cases s with | nil => exact absurd rfl h0 | cons _ _ => simp
 have no : ∀ σ : Store, valB s = false → ∃ r2 σ2, FinMove ⟨0, []⟩ (AV.d (.bool false)) σ r2 σ2 ∧ r2 = AV.d (.bool (valB s)) := fun σ h => ⟨_, _, fin_out rfl, by rw [h]⟩
 repeat' (first | refine PureC.use hc1 ?_ | refine wO ?_ | (refine ⟨fun h => ?_, fun h => ?_⟩ <;> (try simp only [wS, List.length_cons, List.length_nil] at h) <;> (try exact wX h)) | refine wP ?_ | fail)
 ·rename_i h
  exact no _ (valB_last hl h)
 ·rename_i h1 h2
  have h3 := h
  have hv := valB_all hl h1 h2 h3
  rw [hv] at no ⊢
  clear h1 h2 h3 hv
  refine wR (k := ?_)
  refine loopT Tryz.wf Tryz.tab_ok (fun n s' σ => ∃ k : Nat, n = s.length - k ∧ k ≤ s.length ∧ (s.take k).all okB = true ∧ s' = [(0, .d (.str s)), (26, .d (.int .i64 s.length)), (27, .d (.int .i64 k))] ∧ σ = ⟨0, []⟩)
   ⟨0, rfl, Nat.zero_le _, rfl, rfl, rfl⟩ (Mv.of [] rfl rfl rfl trivial ⟨rfl, rfl, rfl, trivial⟩) ?_
  rintro _ _ _ ⟨k, rfl, hk, hI, rfl, rfl⟩
  by_cases hlt : k < s.length
  ·have hg := getD_at s k hlt
   have go : okB (s.getD ((k : Nat) : Int).toNat 0) = true → (s.take (k + 1)).all okB = true := fun h => by rw [allB_step okB s k hlt, hI, ← hg, h]; rfl
   have no2 : ∀ σ : Store, okB (s.getD ((k : Nat) : Int).toNat 0) = false → ∃ r2 σ2, FinMove ⟨0, []⟩ (AV.d (.bool false)) σ r2 σ2 ∧ r2 = AV.d (.bool (s.all okB)) := fun σ h => no σ (allB_stop okB s k hlt (by rw [← hg]; exact h))
   have hok : ∀ c, okB c = ((decide (97 ≤ c.toNat) && decide (c.toNat ≤ 122)) || (decide (48 ≤ c.toNat) && decide (c.toNat ≤ 57)) || decide (0 ≤ idxB c mark)) := fun c => by rw [idx_mark]; rfl
   have hc1 := IndexByte_ok mark (s.getD ((k : Nat) : Int).toNat 0)
   replace hok := hok (s.getD ((k : Nat) : Int).toNat 0)
   clear hg hI no
   generalize idxB (s.getD ((k : Nat) : Int).toNat 0) mark = x at *
   repeat' (first | refine PureC.use hc1 ?_ | refine wO ?_ | (refine ⟨fun h => ?_, fun h => ?_⟩ <;> (try simp only [wS, List.length_cons, List.length_nil] at h) <;> (try exact wX h)) | refine wP ?_ | fail)
   all_goals first
    | exact ⟨_, _, _, ⟨k + 1, rfl, hlt, go (by rw [hok]; simp only [Bool.or_eq_true, Bool.and_eq_true, decide_eq_true_eq]; omega), rfl, rfl⟩, by omega, Mv.of [] rfl rfl rfl trivial ⟨rfl, rfl, rfl, trivial⟩⟩
    | exact no2 _ (by rw [hok]; simp only [Bool.or_eq_false_iff, Bool.and_eq_false_iff, decide_eq_false_iff_not]; omega)
  ·have hk' : k = s.length := by omega
   subst hk'
   rw [List.take_length] at hI
   rw [hI]
   refine wR (k := ?_)
   exact ⟨_, _, fin_out rfl, rfl⟩
 ·rename_i h
  exact no _ (valB_first h)
 ·rename_i h
  exact no _ (valB_long h)
abbrev Pair := List UInt8 × List UInt8
def partB (p : List UInt8) : Option Pair := (cutAt 58 p).map fun q => (bareB q.1, bareB q.2)
def pairsB (s : List UInt8) : List Pair := (splitB 59 s).filterMap partB
def keepB (props : List (List UInt8)) (p : Pair) : Bool := decide (p.1 ∈ props) && valB p.2
theorem splitB_bound (c : UInt8) : ∀ s : List UInt8, ∀ p ∈ splitB c s, p.length ≤ s.length
 | [], p, h => by simp [splitB] at h; rw [h]; exact Nat.le_refl _
 | x :: r, p, h => by
  have ih := splitB_bound c r
  rw [splitB] at h
  split at h
  ·rcases List.mem_cons.1 h with rfl | h
   ·simp
   ·have := ih p h; simp; omega
  ·split at h
   ·rename_i q qs hq
    rcases List.mem_cons.1 h with rfl | h
    ·have := ih q (by rw [hq]; simp); simp; omega
    ·have := ih p (by rw [hq]; simp [h]); simp; omega
   ·rw [List.mem_singleton.1 h]; simp
theorem cutAt_len {c : UInt8} : ∀ {s : List UInt8} {a b : List UInt8}, cutAt c s = some (a, b) → s = a ++ c :: b
 | [], a, b, h => by simp [cutAt] at h
 | x :: r, a, b, h => by
  rw [cutAt] at h
  split at h
  ·rename_i e
   cases h; rw [e]; rfl
  ·cases hc : cutAt c r with
   | none => rw [hc] at h; simp at h
   | some p =>
    rw [hc] at h
    obtain ⟨p1, p2⟩ := p
    simp at h
    obtain ⟨rfl, rfl⟩ := h
    rw [cutAt_len hc]; rfl
def idxR (x : List UInt8) : List Pair → Nat
 | [] => 0
 | p :: r => if x = p.1 then r.length + 1 else idxR x r
def esR : List Pair → List (AV × AV)
 | [] => []
 | p :: r => mput p.1 (.d (.int .i64 ((r.length + 1 : Nat) : Int))) (esR r)
theorem mlook_mputS (x k : List UInt8) (v : AV) : ∀ es, strKeys es → mlook x (mput k v es) = if x = k then some v else mlook x es := by
 intro es
 induction es with
 | nil => intro _; simp [mput, mlook]
 | cons e r ih =>
  intro hk
  obtain ⟨s, hs⟩ := hk e (by simp)
  obtain ⟨a, u⟩ := e
  simp only at hs
  subst hs
  have ih' := ih (fun y hy => hk y (by simp [hy]))
  simp only [mput]
  by_cases h1 : k = s
  ·subst h1
   rw [if_pos rfl]
   simp only [mlook]
   by_cases h2 : x = k <;> simp [h2]
  ·rw [if_neg h1]
   simp only [mlook]
   by_cases h2 : x = s
   ·subst h2; rw [if_pos rfl, if_pos rfl, if_neg (fun e => h1 e.symm)]
   ·rw [if_neg h2, if_neg h2, ih']
theorem strKeys_mputS (k : List UInt8) (v : AV) : ∀ es, strKeys es → strKeys (mput k v es) := by
 intro es
 induction es with
 | nil => intro _ e he; simp [mput] at he; subst he; exact ⟨k, rfl⟩
 | cons e r ih =>
  intro hk
  obtain ⟨s, hs⟩ := hk e (by simp)
  obtain ⟨a, u⟩ := e
  simp only at hs
  subst hs
  have ih' := ih (fun y hy => hk y (by simp [hy]))
  simp only [mput]
  by_cases h1 : k = s
  ·rw [if_pos h1]
   intro y hy
   rcases List.mem_cons.1 hy with rfl | hy
   ·exact ⟨k, rfl⟩
   ·exact hk y (by simp [hy])
  ·rw [if_neg h1]
   intro y hy
   rcases List.mem_cons.1 hy with rfl | hy
   ·exact ⟨s, rfl⟩
   ·exact ih' y hy
theorem pure_mputS (k : List UInt8) (v : AV) (hv : v.pure = true) : ∀ es : List (AV × AV), (∀ e ∈ es, e.1.pure = true ∧ e.2.pure = true) → ∀ e ∈ mput k v es, e.1.pure = true ∧ e.2.pure = true := by
 intro es
 induction es with
 | nil => intro _ e he; simp [mput] at he; subst he; exact ⟨rfl, hv⟩
 | cons e r ih =>
  intro hk
  have ih' := ih (fun y hy => hk y (by simp [hy]))
  have h0 := hk e (by simp)
  have h1 : ∀ y ∈ r, y.1.pure = true ∧ y.2.pure = true := fun y hy => hk y (by simp [hy])
  have other : ∀ y ∈ e :: mput k v r, y.1.pure = true ∧ y.2.pure = true := fun y hy => by
   rcases List.mem_cons.1 hy with rfl | hy
   ·exact h0
   ·exact ih' y hy
  unfold mput
  split
  ·rename_i heq; simp at heq
  ·rename_i s u r' heq
   obtain ⟨rfl, rfl⟩ := List.cons.inj heq
   split
   ·intro y hy
    rcases List.mem_cons.1 hy with rfl | hy
    ·exact ⟨rfl, hv⟩
    ·exact h1 y hy
   ·exact other
  ·rename_i x r' hne heq
   obtain ⟨rfl, rfl⟩ := List.cons.inj heq
   exact other
theorem esR_keys : ∀ q, strKeys (esR q)
 | [] => fun e h => by simp [esR] at h
 | p :: r => strKeys_mputS _ _ _ (esR_keys r)
theorem esR_pure : ∀ q, ∀ e ∈ esR q, e.1.pure = true ∧ e.2.pure = true
 | [] => fun e h => by simp [esR] at h
 | p :: r => pure_mputS _ _ rfl _ (esR_pure r)
theorem esR_look (x : List UInt8) : ∀ q, (mlook x (esR q)).getD (.d (.int .i64 0)) = .d (.int .i64 (idxR x q : Nat))
 | [] => rfl
 | p :: r => by
  rw [esR, mlook_mputS _ _ _ _ (esR_keys r), idxR]
  by_cases h : x = p.1
  ·rw [if_pos h, if_pos h]; rfl
  ·rw [if_neg h, if_neg h]; exact esR_look x r
def proO (props : List (List UInt8)) : Ob := .rows (1, 22) [[.d (.sl (strsD props))]]
def keepO : Ob := .rows (1, 126) [[.fn (.func 179) [] [.ref 0 0 0]]]
def numO (m : Nat) : Ob := .rows (1, 3) [[.d (.int .i64 m)]]
def mpO : Ob := .rows (1, 170) [[.mp 1]]
def st2 (props : List (List UInt8)) (q : List Pair) : Store := ⟨5, [(4, keepO), (3, numO q.length), (2, mpO), (1, .map (esR q)), (0, proO props)]⟩
set_option maxRecDepth 100000 in
theorem keep_ok (props : List (List UInt8)) (a b : List UInt8) (hp : props.length ≤ 1000000) (hb : b.length ≤ 1000000000) : PureC Tryz.prog 179 [.d (.str a), .d (.str b), .ip [.sl (strsD props)] 0] (.d (.bool (keepB props (a, b)))) := by
 have hc1 := Contains_ok props a (by omega)
 have hc2 := Value_ok b hb
 refine pure_okT Tryz.wf Tryz.tab_ok Tryz.func179 (by decide +kernel) rfl rfl rfl rfl ?_
 unfold keepB
 repeat' (first | refine PureC.use hc1 ?_ | refine PureC.use hc2 ?_ | refine wO ?_ | (refine ⟨fun h => ?_, fun h => ?_⟩ <;> (try simp only [wS, List.length_cons, List.length_nil] at h) <;> (try exact wX h)) | refine wP ?_ | fail)
 ·exact ⟨_, _, fin_out rfl, congrArg (fun x => AV.d (.bool x)) (by rw [decide_eq_true h]; rfl)⟩
 ·exact ⟨_, _, fin_out rfl, congrArg (fun x => AV.d (.bool x)) (by rw [decide_eq_false h]; rfl)⟩
theorem keep_at (props : List (List UInt8)) (a b : List UInt8) (hp : props.length ≤ 1000000) (hb : b.length ≤ 1000000000) (σ : Store) (h : σ.get 0 = proO props) : CallsAbs Tryz.prog 179 [.d (.str a), .d (.str b), .ref 0 0 0] σ fun r σ' => r = .d (.bool (keepB props (a, b))) ∧ σ' = σ := by
 refine PureC.borrow 1 (keep_ok props a b hp hb) rfl ?_
 unfold proO at h
 simp only [optL, seeV, h, seeD_d, List.getElem?_cons_zero, Option.map_some]
def addR (props : List (List UInt8)) (q : List Pair) (p : Pair) : List Pair := if keepB props p = true then p :: q else q
set_option maxRecDepth 100000 in
theorem first_ok (props : List (List UInt8)) (q : List Pair) (a b : List UInt8) (hp : props.length ≤ 1000000) (hb : b.length ≤ 1000000000) (hq : q.length ≤ 1000000000) :
  CallsAbs Tryz.prog 182 [.d (.str a), .d (.str b), .ref 4 0 0, .ref 3 0 0, .ref 2 0 0] (st2 props q) fun r σ' => r = .tup [] ∧ σ' = st2 props (addR props q (a, b)) := by
 have hd1 := keep_at props a b hp hb (st2 props q) rfl
 refine fn_okT Tryz.wf Tryz.tab_ok Tryz.func182 (by decide +kernel) rfl rfl ?_
 unfold addR
 cases hk : keepB props (a, b) with
 | false =>
  rw [hk] at hd1
  repeat' (first | refine CallsAbs.use1 hd1 ?_ | refine wO ?_ | (refine ⟨fun h => ?_, fun h => ?_⟩ <;> (try simp only [wS, List.length_cons, List.length_nil] at h) <;> (try exact wX h)) | refine wP ?_ | fail)
  exact ⟨_, _, FinMove.refl _ _ _, rfl, rfl⟩
 | true =>
  rw [hk] at hd1
  repeat' (first | refine CallsAbs.use1 hd1 ?_ | refine wO ?_ | (refine ⟨fun h => ?_, fun h => ?_⟩ <;> (try simp only [wS, List.length_cons, List.length_nil] at h) <;> (try exact wX h)) | refine wP ?_ | fail)
  refine ⟨esR_keys _, ?_⟩
  repeat' (first | refine CallsAbs.use1 hd1 ?_ | refine wO ?_ | (refine ⟨fun h => ?_, fun h => ?_⟩ <;> (try simp only [wS, List.length_cons, List.length_nil] at h) <;> (try exact wX h)) | refine wP ?_ | fail)
  refine ⟨.tup [], st2 props ((a, b) :: q), fin_same rfl fun i => ?_, rfl, rfl⟩
  rcases (show i = 0 ∨ i = 1 ∨ i = 2 ∨ i = 3 ∨ i = 4 ∨ 5 ≤ i by omega) with rfl | rfl | rfl | rfl | rfl | h
  ·rfl
  ·rfl
  ·rfl
  ·rfl
  ·rfl
  ·simp only [st2, Store.get, look_cons]
   repeat rw [if_neg (by omega)]
def keptR (props : List (List UInt8)) (l : List (List UInt8)) : List Pair := (l.filterMap partB).foldl (addR props) []
theorem keptR_none (props : List (List UInt8)) (l : List (List UInt8)) (k : Nat) (h : k < l.length) (hc : cutAt 58 l[k] = none) : keptR props (l.take (k + 1)) = keptR props (l.take k) := by
 unfold keptR
 rw [List.take_succ_eq_append_getElem h, List.filterMap_append, show [l[k]].filterMap partB = [] from by simp [partB, hc], List.append_nil]
theorem keptR_some (props : List (List UInt8)) (l : List (List UInt8)) (k : Nat) (h : k < l.length) {x y : List UInt8} (hc : cutAt 58 l[k] = some (x, y)) : keptR props (l.take (k + 1)) = addR props (keptR props (l.take k)) (bareB x, bareB y) := by
 unfold keptR
 rw [List.take_succ_eq_append_getElem h, List.filterMap_append, show [l[k]].filterMap partB = [(bareB x, bareB y)] from by simp [partB, hc], List.foldl_append]; rfl
theorem addR_len (props : List (List UInt8)) (q : List Pair) (p : Pair) : (addR props q p).length ≤ q.length + 1 := by
 unfold addR; split <;> simp
theorem addRs_len (props : List (List UInt8)) : ∀ (l : List Pair) (q : List Pair), (l.foldl (addR props) q).length ≤ q.length + l.length
 | [], q => by simp
 | p :: r, q => by
  have h1 := addRs_len props r (addR props q p)
  have h2 := addR_len props q p
  simp only [List.foldl_cons, List.length_cons]; omega
theorem keptR_len (props : List (List UInt8)) (l : List (List UInt8)) : (keptR props l).length ≤ l.length := by
 have h1 := addRs_len props (l.filterMap partB) []
 have h2 := List.length_filterMap_le partB l
 unfold keptR
 simp only [List.length_nil] at h1; omega
theorem lower_length (s : List UInt8) : (lower s).length = s.length := by simp [lower]
theorem bareB_len (s : List UInt8) : (bareB s).length ≤ s.length := by
 unfold bareB
 rw [lower_length]
 exact Nat.le_trans (trimLB_le _ _) (trimRB_le _ _)
set_option maxRecDepth 100000 in
set_option maxHeartbeats 1000000 in
theorem each2_ok (props : List (List UInt8)) (s : List UInt8) (hp : props.length ≤ 1000000) (hs : s.length ≤ 100000000) :
  CallsAbs Tryz.prog 181 [.d (.str s), .fn (.func 182) [] [.ref 4 0 0, .ref 3 0 0, .ref 2 0 0]] (st2 props []) fun r σ' => r = .tup [] ∧ σ' = st2 props (keptR props (splitB 59 s)) := by
 have hc1 := Split_ok 59 s (by omega)
 have hn := strsD_len (splitB 59 s)
 have hb := splitB_bound 59 s
 have hcnt := splitB_len 59 s
 have hcl := List.count_le_length (a := 59) (l := s)
 generalize splitB 59 s = ps at *
 refine fn_okT Tryz.wf Tryz.tab_ok Tryz.func181 (by decide +kernel) rfl rfl ?_
 repeat' (first | refine PureC.use hc1 ?_ | refine PureC.use hc2 ?_ | refine PureC.use hc3 ?_ | refine PureC.use hc4 ?_ | refine CallsAbs.use1 hd1 ?_ | refine wO ?_ | (refine ⟨fun h => ?_, fun h => ?_⟩ <;> (try simp only [wS, List.length_cons, List.length_nil] at h) <;> (try exact wX h)) | refine wP ?_ | fail)
 refine loopT Tryz.wf Tryz.tab_ok (fun n s' σ => ∃ k : Nat, n = ps.length - k ∧ k ≤ ps.length ∧ s' = [(1, .fn (.func 182) [] [.ref 4 0 0, .ref 3 0 0, .ref 2 0 0]), (10, .d (.sl (strsD ps))), (11, .d (.int .i64 ps.length)), (12, .d (.int .i64 k))] ∧ σ = st2 props (keptR props (ps.take k)))
  ⟨0, rfl, Nat.zero_le _, rfl, rfl⟩ (Mv.of [] rfl rfl rfl ⟨⟨rfl, .inr ⟨⟨⟨rfl, trivial, ⟨rfl, rfl, rfl⟩, trivial⟩, trivial⟩, trivial⟩⟩, ⟨rfl, .inl ⟨rfl, fun row h => by rw [List.mem_singleton.1 h]; rfl⟩⟩, ⟨rfl, .inr ⟨⟨rfl, trivial⟩, trivial⟩⟩, .inl ⟨rfl, esR_pure _⟩, ⟨rfl, .inl ⟨rfl, fun row h => by rw [List.mem_singleton.1 h]; rfl⟩⟩, trivial⟩ ⟨⟨rfl, trivial, ⟨rfl, rfl, rfl⟩, ⟨rfl, rfl, rfl⟩, ⟨rfl, rfl, rfl⟩, trivial⟩, rfl, congrArg (fun n : Nat => D.int .i64 n) hn.symm, rfl, trivial⟩) ?_
 rintro _ _ _ ⟨k, rfl, hk, rfl, rfl⟩
 by_cases hlt : k < ps.length
 ·have hg := strsD_get ps k hlt
  have hpb := hb ps[k] (List.getElem_mem hlt)
  have hc2 := CutC_ok 58 ps[k] (by omega)
  have hql := keptR_len props (ps.take k)
  rw [List.length_take] at hql
  unfold cutW at hc2
  cases hcut : cutAt 58 ps[k] with
  | none =>
   rw [hcut] at hc2
   have hnx := keptR_none props ps k hlt hcut
   repeat' (first | refine PureC.use hc1 ?_ | refine PureC.use hc2 ?_ | refine PureC.use hc3 ?_ | refine PureC.use hc4 ?_ | refine CallsAbs.use1 hd1 ?_ | refine wO ?_ | (refine ⟨fun h => ?_, fun h => ?_⟩ <;> (try simp only [wS, List.length_cons, List.length_nil] at h) <;> (try exact wX h)) | refine wP ?_ | fail)
   exact ⟨_, _, _, ⟨k + 1, rfl, hlt, rfl, rfl⟩, by omega, Mv.of [] rfl rfl rfl (by rw [hnx]; exact ⟨⟨rfl, .inr ⟨⟨⟨rfl, trivial, ⟨rfl, rfl, rfl⟩, trivial⟩, trivial⟩, trivial⟩⟩, ⟨rfl, .inl ⟨rfl, fun row h => by rw [List.mem_singleton.1 h]; rfl⟩⟩, ⟨rfl, .inr ⟨⟨rfl, trivial⟩, trivial⟩⟩, .inl ⟨rfl, esR_pure _⟩, ⟨rfl, .inl ⟨rfl, fun row h => by rw [List.mem_singleton.1 h]; rfl⟩⟩, trivial⟩) ⟨⟨rfl, trivial, ⟨rfl, rfl, rfl⟩, ⟨rfl, rfl, rfl⟩, ⟨rfl, rfl, rfl⟩, trivial⟩, rfl, rfl, rfl, trivial⟩⟩
  | some xy =>
   obtain ⟨x, y⟩ := xy
   rw [hcut] at hc2
   have hxy := congrArg List.length (cutAt_len hcut)
   rw [List.length_append, List.length_cons] at hxy
   have hby := bareB_len y
   have hnx := keptR_some props ps k hlt hcut
   have hc3 := bare_ok x (by omega)
   have hc4 := bare_ok y (by omega)
   have hd1 := first_ok props (keptR props (ps.take k)) (bareB x) (bareB y) hp (by omega) (by omega)
   repeat' (first | refine PureC.use hc1 ?_ | refine PureC.use hc2 ?_ | refine PureC.use hc3 ?_ | refine PureC.use hc4 ?_ | refine CallsAbs.use1 hd1 ?_ | refine wO ?_ | (refine ⟨fun h => ?_, fun h => ?_⟩ <;> (try simp only [wS, List.length_cons, List.length_nil] at h) <;> (try exact wX h)) | refine wP ?_ | fail)
   exact ⟨_, _, _, ⟨k + 1, rfl, hlt, rfl, rfl⟩, by omega, Mv.of [] rfl rfl rfl (by rw [hnx]; exact ⟨⟨rfl, .inr ⟨⟨⟨rfl, trivial, ⟨rfl, rfl, rfl⟩, trivial⟩, trivial⟩, trivial⟩⟩, ⟨rfl, .inl ⟨rfl, fun row h => by rw [List.mem_singleton.1 h]; rfl⟩⟩, ⟨rfl, .inr ⟨⟨rfl, trivial⟩, trivial⟩⟩, .inl ⟨rfl, esR_pure _⟩, ⟨rfl, .inl ⟨rfl, fun row h => by rw [List.mem_singleton.1 h]; rfl⟩⟩, trivial⟩) ⟨⟨rfl, trivial, ⟨rfl, rfl, rfl⟩, ⟨rfl, rfl, rfl⟩, ⟨rfl, rfl, rfl⟩, trivial⟩, rfl, rfl, rfl, trivial⟩⟩
 ·have hk' : k = ps.length := by omega
  subst hk'
  rw [List.take_length]
  repeat' (first | refine PureC.use hc1 ?_ | refine PureC.use hc2 ?_ | refine PureC.use hc3 ?_ | refine PureC.use hc4 ?_ | refine CallsAbs.use1 hd1 ?_ | refine wO ?_ | (refine ⟨fun h => ?_, fun h => ?_⟩ <;> (try simp only [wS, List.length_cons, List.length_nil] at h) <;> (try exact wX h)) | refine wP ?_ | fail)
  exact ⟨_, _, FinMove.refl _ _ _, rfl, rfl⟩
def txtB (p : Pair) : List UInt8 := p.1 ++ [58, 32] ++ p.2
def outA (out : List Pair) : List (List AV) := (strsD (out.map txtB)).map fun r => r.map .d
theorem outA_len (out : List Pair) : (outA out).length = out.length := by simp [outA, strsD_len]
theorem outA_rows (out : List Pair) : ∀ row ∈ outA out, row.length = 1 ∧ ∀ a ∈ row, a.one = true := fun row h => by
 unfold outA strsD at h
 simp only [List.map_map, List.mem_map] at h
 obtain ⟨p, _, rfl⟩ := h
 exact ⟨rfl, fun a ha => by simp at ha; rw [ha]; rfl⟩
theorem outA_snoc (out : List Pair) (p : Pair) : outA (out ++ [p]) = outA out ++ [[.d (.str (txtB p))]] := by simp [outA, strsD]
theorem outA_pure (out : List Pair) : ∀ row ∈ outA out, pureL row = true := dataA_pure _
def soutO (j : Nat) (out : List Pair) : Ob := .rows (1, 22) [[.own j 0 out.length]]
def st3 (props : List (List UInt8)) (Q : List Pair) (m : Nat) (out : List Pair) (j n : Nat) : Store := ⟨n, [(j, .rows (1, 9) (outA out)), (5, soutO j out), (4, keepO), (3, numO m), (2, mpO), (1, .map (esR Q)), (0, proO props)]⟩
set_option maxRecDepth 100000 in
theorem third_skip (props : List (List UInt8)) (Q : List Pair) (m : Nat) (out : List Pair) (a b : List UInt8) (hp : props.length ≤ 1000000) (hb : b.length ≤ 1000000000) (hk : keepB props (a, b) = false) :
  CallsAbs Tryz.prog 183 [.d (.str a), .d (.str b), .ref 4 0 0, .ref 3 0 0, .ref 2 0 0, .ref 5 0 0] (st3 props Q m out 6 7) fun r σ' => r = .tup [] ∧ σ' = st3 props Q m out 6 7 := by
 have hd1 := keep_at props a b hp hb (st3 props Q m out 6 7) rfl
 refine fn_okT Tryz.wf Tryz.tab_ok Tryz.func183 (by decide +kernel) rfl rfl ?_
 rw [hk] at hd1
 repeat' (first | refine CallsAbs.use1 hd1 ?_ | refine wO ?_ | (refine ⟨fun h => ?_, fun h => ?_⟩ <;> (try simp only [wS, List.length_cons, List.length_nil] at h) <;> (try exact wX h)) | refine wP ?_ | fail)
 exact ⟨_, _, FinMove.refl _ _ _, rfl, rfl⟩
set_option maxRecDepth 100000 in
theorem third_no (props : List (List UInt8)) (Q : List Pair) (m : Nat) (out : List Pair) (a b : List UInt8) (hp : props.length ≤ 1000000) (hb : b.length ≤ 1000000000) (hm : m ≤ 1000000000) (hk : keepB props (a, b) = true) (hi : idxR a Q ≠ m + 1) :
  CallsAbs Tryz.prog 183 [.d (.str a), .d (.str b), .ref 4 0 0, .ref 3 0 0, .ref 2 0 0, .ref 5 0 0] (st3 props Q m out 6 7) fun r σ' => r = .tup [] ∧ σ' = st3 props Q (m + 1) out 6 7 := by
 have hd1 := keep_at props a b hp hb (st3 props Q m out 6 7) rfl
 refine fn_okT Tryz.wf Tryz.tab_ok Tryz.func183 (by decide +kernel) rfl rfl ?_
 rw [hk] at hd1
 repeat' (first | refine CallsAbs.use1 hd1 ?_ | refine wO ?_ | (refine ⟨fun h => ?_, fun h => ?_⟩ <;> (try simp only [wS, List.length_cons, List.length_nil] at h) <;> (try exact wX h)) | refine wP ?_ | fail)
 refine ⟨_, _, rfl, esR_keys Q, rfl, rfl, ?_⟩
 rw [esR_look]
 repeat' (first | refine CallsAbs.use1 hd1 ?_ | refine wO ?_ | (refine ⟨fun h => ?_, fun h => ?_⟩ <;> (try simp only [wS, List.length_cons, List.length_nil] at h) <;> (try exact wX h)) | refine wP ?_ | fail)
 refine ⟨.tup [], st3 props Q (m + 1) out 6 7, fin_same rfl fun i => ?_, rfl, rfl⟩
 rcases (show i = 0 ∨ i = 1 ∨ i = 2 ∨ i = 3 ∨ i = 4 ∨ i = 5 ∨ i = 6 ∨ 7 ≤ i by omega) with rfl | rfl | rfl | rfl | rfl | rfl | rfl | h
 ·rfl
 ·rfl
 ·rfl
 ·rfl
 ·rfl
 ·rfl
 ·rfl
 ·simp only [st3, Store.get, look_cons]
  repeat rw [if_neg (by omega)]
set_option maxRecDepth 100000 in
theorem third_add (props : List (List UInt8)) (Q : List Pair) (m : Nat) (out : List Pair) (a b : List UInt8) (hp : props.length ≤ 1000000) (ha : a.length ≤ 1000000000) (hb : b.length ≤ 1000000000) (hm : m ≤ 1000000000) (ho : out.length ≤ 1000000000) (hk : keepB props (a, b) = true) (hi : idxR a Q = m + 1) :
  CallsAbs Tryz.prog 183 [.d (.str a), .d (.str b), .ref 4 0 0, .ref 3 0 0, .ref 2 0 0, .ref 5 0 0] (st3 props Q m out 6 7) fun r σ' => r = .tup [] ∧ σ' = st3 props Q (m + 1) (out ++ [(a, b)]) 7 8 := by
 have hd1 := keep_at props a b hp hb (st3 props Q m out 6 7) rfl
 have hl := outA_len out
 refine fn_okT Tryz.wf Tryz.tab_ok Tryz.func183 (by decide +kernel) rfl rfl ?_
 rw [hk] at hd1
 repeat' (first | refine CallsAbs.use1 hd1 ?_ | refine wO ?_ | (refine ⟨fun h => ?_, fun h => ?_⟩ <;> (try simp only [wS, List.length_cons, List.length_nil] at h) <;> (try exact wX h)) | refine wP ?_ | fail)
 refine ⟨_, _, rfl, esR_keys Q, rfl, rfl, ?_⟩
 rw [esR_look, hi]
 repeat' (first | refine CallsAbs.use1 hd1 ?_ | refine wO ?_ | (refine ⟨fun h => ?_, fun h => ?_⟩ <;> (try simp only [wS, List.length_cons, List.length_nil] at h) <;> (try exact wX h)) | refine wP ?_ | fail)
 refine ⟨outA out, [_], congrArg some (takeAll hl), rfl, (show srcLen (.own 6 0 out.length) _ from hl), rfl, (by rw [hl]; show (out.length + 1) * 16 ≤ 140737488355328; omega), Nat.le_of_ble_eq_true rfl, Nat.le_of_ble_eq_true rfl, rfl, rfl, outA_rows out, rowsOne rfl rfl, ?_⟩
 repeat' (first | refine CallsAbs.use1 hd1 ?_ | refine wO ?_ | (refine ⟨fun h => ?_, fun h => ?_⟩ <;> (try simp only [wS, List.length_cons, List.length_nil] at h) <;> (try exact wX h)) | refine wP ?_ | fail)
 have e1 : outA (out ++ [(a, b)]) = outA out ++ [[.d (.str (a ++ [58, 32] ++ b))]] := outA_snoc out (a, b)
 have e2 : (out ++ [(a, b)]).length = (outA out).length + 1 := by simp [outA_len]
 exact ⟨.tup [], st3 props Q (m + 1) (out ++ [(a, b)]) 7 8, fin_mv [.old 8] rfl rfl rfl ⟨⟨rfl, .inl ⟨e1, outA_pure _⟩⟩, ⟨rfl, .inr ⟨⟨⟨rfl, rfl, e2⟩, trivial⟩, trivial⟩⟩, ⟨⟨rfl, .inr ⟨⟨⟨rfl, trivial, ⟨rfl, rfl, rfl⟩, trivial⟩, trivial⟩, trivial⟩⟩, ⟨rfl, .inl ⟨rfl, fun row h => by rw [List.mem_singleton.1 h]; rfl⟩⟩, ⟨rfl, .inr ⟨⟨rfl, trivial⟩, trivial⟩⟩, .inl ⟨rfl, esR_pure _⟩, ⟨rfl, .inl ⟨rfl, fun row h => by rw [List.mem_singleton.1 h]; rfl⟩⟩, trivial⟩⟩ trivial, rfl, rfl⟩
def stepB (props : List (List UInt8)) (Q : List Pair) (x : Nat × List Pair) (p : Pair) : Nat × List Pair := if keepB props p = true then (x.1 + 1, if idxR p.1 Q = x.1 + 1 then x.2 ++ [p] else x.2) else x
def outR (props : List (List UInt8)) (Q : List Pair) (l : List (List UInt8)) : Nat × List Pair := (l.filterMap partB).foldl (stepB props Q) (0, [])
theorem outR_none (props : List (List UInt8)) (Q : List Pair) (l : List (List UInt8)) (k : Nat) (h : k < l.length) (hc : cutAt 58 l[k] = none) : outR props Q (l.take (k + 1)) = outR props Q (l.take k) := by
 unfold outR
 rw [List.take_succ_eq_append_getElem h, List.filterMap_append, show [l[k]].filterMap partB = [] from by simp [partB, hc], List.append_nil]
theorem outR_some (props : List (List UInt8)) (Q : List Pair) (l : List (List UInt8)) (k : Nat) (h : k < l.length) {x y : List UInt8} (hc : cutAt 58 l[k] = some (x, y)) : outR props Q (l.take (k + 1)) = stepB props Q (outR props Q (l.take k)) (bareB x, bareB y) := by
 unfold outR
 rw [List.take_succ_eq_append_getElem h, List.filterMap_append, show [l[k]].filterMap partB = [(bareB x, bareB y)] from by simp [partB, hc], List.foldl_append]; rfl
theorem stepB_le (props : List (List UInt8)) (Q : List Pair) (x : Nat × List Pair) (p : Pair) : (stepB props Q x p).1 ≤ x.1 + 1 ∧ (stepB props Q x p).2.length ≤ x.2.length + 1 := by
 unfold stepB; split
 ·refine ⟨Nat.le_refl _, ?_⟩
  dsimp only
  split <;> simp
 ·exact ⟨Nat.le_succ _, Nat.le_succ _⟩
theorem steps_le (props : List (List UInt8)) (Q : List Pair) : ∀ (l : List Pair) (x : Nat × List Pair), (l.foldl (stepB props Q) x).1 ≤ x.1 + l.length ∧ (l.foldl (stepB props Q) x).2.length ≤ x.2.length + l.length
 | [], x => by simp
 | p :: r, x => by
  have h1 := steps_le props Q r (stepB props Q x p)
  have h2 := stepB_le props Q x p
  simp only [List.foldl_cons, List.length_cons]; omega
theorem outR_le (props : List (List UInt8)) (Q : List Pair) (l : List (List UInt8)) : (outR props Q l).1 ≤ l.length ∧ (outR props Q l).2.length ≤ l.length := by
 have h1 := steps_le props Q (l.filterMap partB) (0, [])
 have h2 := List.length_filterMap_le partB l
 unfold outR
 simp only [List.length_nil] at h1; omega
set_option maxRecDepth 100000 in
set_option maxHeartbeats 1000000 in
theorem each3_ok (props : List (List UInt8)) (Q : List Pair) (s : List UInt8) (hp : props.length ≤ 1000000) (hs : s.length ≤ 100000000) :
  CallsAbs Tryz.prog 181 [.d (.str s), .fn (.func 183) [] [.ref 4 0 0, .ref 3 0 0, .ref 2 0 0, .ref 5 0 0]] (st3 props Q 0 [] 6 7) fun r σ' => r = .tup [] ∧ σ' = st3 props Q (outR props Q (splitB 59 s)).1 (outR props Q (splitB 59 s)).2 7 8 := by
 have hc1 := Split_ok 59 s (by omega)
 have hn := strsD_len (splitB 59 s)
 have hb := splitB_bound 59 s
 have hcnt := splitB_len 59 s
 have hcl := List.count_le_length (a := 59) (l := s)
 generalize splitB 59 s = ps at *
 refine fn_okT Tryz.wf Tryz.tab_ok Tryz.func181 (by decide +kernel) rfl rfl ?_
 refine wR (k := ?_)
 refine E.fm (s' := [(1, .fn (.func 183) [] [.ref 4 0 0, .ref 3 0 0, .ref 2 0 0, .ref 5 0 0]), (10, .d (.sl (strsD ps))), (11, .d (.int .i64 ps.length)), (12, .d (.int .i64 0))]) (σ' := st3 props Q 0 [] 7 8)
  (fin_ups [6] rfl (by decide) ⟨rfl, trivial⟩ ⟨fun h => (by cases h), trivial⟩ ⟨⟨rfl, .inl ⟨rfl, outA_pure _⟩⟩, ⟨rfl, .inr ⟨⟨⟨rfl, rfl, rfl⟩, trivial⟩, trivial⟩⟩, ⟨⟨rfl, .inr ⟨⟨⟨rfl, trivial, ⟨rfl, rfl, rfl⟩, trivial⟩, trivial⟩, trivial⟩⟩, ⟨rfl, .inl ⟨rfl, fun row h => by rw [List.mem_singleton.1 h]; rfl⟩⟩, ⟨rfl, .inr ⟨⟨rfl, trivial⟩, trivial⟩⟩, .inl ⟨rfl, esR_pure _⟩, ⟨rfl, .inl ⟨rfl, fun row h => by rw [List.mem_singleton.1 h]; rfl⟩⟩, trivial⟩⟩ ⟨⟨rfl, trivial, ⟨rfl, rfl, rfl⟩, ⟨rfl, rfl, rfl⟩, ⟨rfl, rfl, rfl⟩, ⟨rfl, rfl, rfl⟩, trivial⟩, rfl, congrArg (fun n : Nat => D.int .i64 n) hn.symm, rfl, trivial⟩) ?_
 refine loopT Tryz.wf Tryz.tab_ok (fun n s' σ => ∃ k : Nat, n = ps.length - k ∧ k ≤ ps.length ∧ s' = [(1, .fn (.func 183) [] [.ref 4 0 0, .ref 3 0 0, .ref 2 0 0, .ref 5 0 0]), (10, .d (.sl (strsD ps))), (11, .d (.int .i64 ps.length)), (12, .d (.int .i64 k))] ∧ σ = st3 props Q (outR props Q (ps.take k)).1 (outR props Q (ps.take k)).2 7 8)
  ⟨0, rfl, Nat.zero_le _, rfl, rfl⟩ (Mv.of [.old 7] rfl rfl rfl ⟨⟨rfl, .inl ⟨rfl, outA_pure _⟩⟩, ⟨rfl, .inr ⟨⟨⟨rfl, rfl, rfl⟩, trivial⟩, trivial⟩⟩, ⟨⟨rfl, .inr ⟨⟨⟨rfl, trivial, ⟨rfl, rfl, rfl⟩, trivial⟩, trivial⟩, trivial⟩⟩, ⟨rfl, .inl ⟨rfl, fun row h => by rw [List.mem_singleton.1 h]; rfl⟩⟩, ⟨rfl, .inr ⟨⟨rfl, trivial⟩, trivial⟩⟩, .inl ⟨rfl, esR_pure _⟩, ⟨rfl, .inl ⟨rfl, fun row h => by rw [List.mem_singleton.1 h]; rfl⟩⟩, trivial⟩⟩ ⟨⟨rfl, trivial, ⟨rfl, rfl, rfl⟩, ⟨rfl, rfl, rfl⟩, ⟨rfl, rfl, rfl⟩, ⟨rfl, rfl, rfl⟩, trivial⟩, rfl, rfl, rfl, trivial⟩) ?_
 rintro _ _ _ ⟨k, rfl, hk, rfl, rfl⟩
 by_cases hlt : k < ps.length
 ·have hg := strsD_get ps k hlt
  have hpb := hb ps[k] (List.getElem_mem hlt)
  have hc2 := CutC_ok 58 ps[k] (by omega)
  have hql := outR_le props Q (ps.take k)
  rw [List.length_take] at hql
  unfold cutW at hc2
  cases hcut : cutAt 58 ps[k] with
  | none =>
   rw [hcut] at hc2
   have hnx := outR_none props Q ps k hlt hcut
   refine wR (k := ?_)
   exact ⟨_, _, _, ⟨k + 1, rfl, hlt, rfl, rfl⟩, by omega, Mv.of [.old 7] rfl rfl rfl (by rw [hnx]; exact ⟨⟨rfl, .inl ⟨rfl, outA_pure _⟩⟩, ⟨rfl, .inr ⟨⟨⟨rfl, rfl, rfl⟩, trivial⟩, trivial⟩⟩, ⟨⟨rfl, .inr ⟨⟨⟨rfl, trivial, ⟨rfl, rfl, rfl⟩, trivial⟩, trivial⟩, trivial⟩⟩, ⟨rfl, .inl ⟨rfl, fun row h => by rw [List.mem_singleton.1 h]; rfl⟩⟩, ⟨rfl, .inr ⟨⟨rfl, trivial⟩, trivial⟩⟩, .inl ⟨rfl, esR_pure _⟩, ⟨rfl, .inl ⟨rfl, fun row h => by rw [List.mem_singleton.1 h]; rfl⟩⟩, trivial⟩⟩) ⟨⟨rfl, trivial, ⟨rfl, rfl, rfl⟩, ⟨rfl, rfl, rfl⟩, ⟨rfl, rfl, rfl⟩, ⟨rfl, rfl, rfl⟩, trivial⟩, rfl, rfl, rfl, trivial⟩⟩
  | some xy =>
   obtain ⟨x, y⟩ := xy
   rw [hcut] at hc2
   have hxy := congrArg List.length (cutAt_len hcut)
   rw [List.length_append, List.length_cons] at hxy
   have hbx := bareB_len x
   have hby := bareB_len y
   have hnx := outR_some props Q ps k hlt hcut
   have hc3 := bare_ok x (by omega)
   have hc4 := bare_ok y (by omega)
   generalize bareB x = a at *
   generalize bareB y = b at *
   generalize outR props Q (ps.take k) = mo at *
   obtain ⟨m, out⟩ := mo
   dsimp only at hql hnx ⊢
   refine wR (k := ?_)
   unfold stepB at hnx
   cases hk : keepB props (a, b) with
   | false =>
    rw [if_neg (by rw [hk]; exact Bool.false_ne_true)] at hnx
    refine CallsAbs.frame (third_skip props Q m out a b hp (by omega) hk) [.old 0, .old 1, .old 2, .old 3, .old 4, .old 5, .old 7] ⟨Nat.zero_le _, rfl, rfl, ⟨⟨rfl, .inl ⟨rfl, outA_pure _⟩⟩, ⟨rfl, .inr ⟨⟨⟨rfl, rfl, rfl⟩, trivial⟩, trivial⟩⟩, ⟨⟨rfl, .inr ⟨⟨⟨rfl, trivial, ⟨rfl, rfl, rfl⟩, trivial⟩, trivial⟩, trivial⟩⟩, ⟨rfl, .inl ⟨rfl, fun row h => by rw [List.mem_singleton.1 h]; rfl⟩⟩, ⟨rfl, .inr ⟨⟨rfl, trivial⟩, trivial⟩⟩, .inl ⟨rfl, esR_pure _⟩, ⟨rfl, .inl ⟨rfl, fun row h => by rw [List.mem_singleton.1 h]; rfl⟩⟩, trivial⟩⟩⟩ ⟨rfl, rfl, ⟨rfl, rfl, rfl⟩, ⟨rfl, rfl, rfl⟩, ⟨rfl, rfl, rfl⟩, ⟨rfl, rfl, rfl⟩, trivial⟩ ?_
    rintro _ _ ⟨rfl, rfl⟩
    refine ⟨.tup [], (st3 props Q m out 7 8).objs, ⟨⟨rfl, .inl ⟨rfl, outA_pure _⟩⟩, ⟨rfl, .inr ⟨⟨⟨rfl, rfl, rfl⟩, trivial⟩, trivial⟩⟩, ⟨⟨rfl, .inr ⟨⟨⟨rfl, trivial, ⟨rfl, rfl, rfl⟩, trivial⟩, trivial⟩, trivial⟩⟩, ⟨rfl, .inl ⟨rfl, fun row h => by rw [List.mem_singleton.1 h]; rfl⟩⟩, ⟨rfl, .inr ⟨⟨rfl, trivial⟩, trivial⟩⟩, .inl ⟨rfl, esR_pure _⟩, ⟨rfl, .inl ⟨rfl, fun row h => by rw [List.mem_singleton.1 h]; rfl⟩⟩, trivial⟩⟩, rfl, trivial, ?_⟩
    refine wR (k := ?_)
    exact ⟨_, _, _, ⟨k + 1, rfl, hlt, rfl, rfl⟩, by omega, Mv.of [.old 7] rfl rfl rfl (by rw [hnx]; exact ⟨⟨rfl, .inl ⟨rfl, outA_pure _⟩⟩, ⟨rfl, .inr ⟨⟨⟨rfl, rfl, rfl⟩, trivial⟩, trivial⟩⟩, ⟨⟨rfl, .inr ⟨⟨⟨rfl, trivial, ⟨rfl, rfl, rfl⟩, trivial⟩, trivial⟩, trivial⟩⟩, ⟨rfl, .inl ⟨rfl, fun row h => by rw [List.mem_singleton.1 h]; rfl⟩⟩, ⟨rfl, .inr ⟨⟨rfl, trivial⟩, trivial⟩⟩, .inl ⟨rfl, esR_pure _⟩, ⟨rfl, .inl ⟨rfl, fun row h => by rw [List.mem_singleton.1 h]; rfl⟩⟩, trivial⟩⟩) ⟨⟨rfl, trivial, ⟨rfl, rfl, rfl⟩, ⟨rfl, rfl, rfl⟩, ⟨rfl, rfl, rfl⟩, ⟨rfl, rfl, rfl⟩, trivial⟩, rfl, rfl, rfl, trivial⟩⟩
   | true =>
    rw [if_pos hk] at hnx
    dsimp only at hnx
    by_cases hi : idxR a Q = m + 1
    ·rw [if_pos hi] at hnx
     refine CallsAbs.frame (third_add props Q m out a b hp (by omega) (by omega) (by omega) (by omega) hk hi) [.old 0, .old 1, .old 2, .old 3, .old 4, .old 5, .old 7] ⟨Nat.zero_le _, rfl, rfl, ⟨⟨rfl, .inl ⟨rfl, outA_pure _⟩⟩, ⟨rfl, .inr ⟨⟨⟨rfl, rfl, rfl⟩, trivial⟩, trivial⟩⟩, ⟨⟨rfl, .inr ⟨⟨⟨rfl, trivial, ⟨rfl, rfl, rfl⟩, trivial⟩, trivial⟩, trivial⟩⟩, ⟨rfl, .inl ⟨rfl, fun row h => by rw [List.mem_singleton.1 h]; rfl⟩⟩, ⟨rfl, .inr ⟨⟨rfl, trivial⟩, trivial⟩⟩, .inl ⟨rfl, esR_pure _⟩, ⟨rfl, .inl ⟨rfl, fun row h => by rw [List.mem_singleton.1 h]; rfl⟩⟩, trivial⟩⟩⟩ ⟨rfl, rfl, ⟨rfl, rfl, rfl⟩, ⟨rfl, rfl, rfl⟩, ⟨rfl, rfl, rfl⟩, ⟨rfl, rfl, rfl⟩, trivial⟩ ?_
     rintro _ _ ⟨rfl, rfl⟩
     refine ⟨.tup [], (7, .dead) :: (st3 props Q (m + 1) (out ++ [(a, b)]) 8 9).objs, ⟨trivial, ⟨rfl, .inl ⟨rfl, outA_pure _⟩⟩, ⟨rfl, .inr ⟨⟨⟨rfl, rfl, rfl⟩, trivial⟩, trivial⟩⟩, ⟨⟨rfl, .inr ⟨⟨⟨rfl, trivial, ⟨rfl, rfl, rfl⟩, trivial⟩, trivial⟩, trivial⟩⟩, ⟨rfl, .inl ⟨rfl, fun row h => by rw [List.mem_singleton.1 h]; rfl⟩⟩, ⟨rfl, .inr ⟨⟨rfl, trivial⟩, trivial⟩⟩, .inl ⟨rfl, esR_pure _⟩, ⟨rfl, .inl ⟨rfl, fun row h => by rw [List.mem_singleton.1 h]; rfl⟩⟩, trivial⟩⟩, rfl, trivial, ?_⟩
     refine wR (k := ?_)
     exact ⟨_, _, _, ⟨k + 1, rfl, hlt, rfl, rfl⟩, by omega, Mv.of [.old 8] rfl rfl rfl (by rw [hnx]; exact ⟨⟨rfl, .inl ⟨rfl, outA_pure _⟩⟩, ⟨rfl, .inr ⟨⟨⟨rfl, rfl, rfl⟩, trivial⟩, trivial⟩⟩, ⟨⟨rfl, .inr ⟨⟨⟨rfl, trivial, ⟨rfl, rfl, rfl⟩, trivial⟩, trivial⟩, trivial⟩⟩, ⟨rfl, .inl ⟨rfl, fun row h => by rw [List.mem_singleton.1 h]; rfl⟩⟩, ⟨rfl, .inr ⟨⟨rfl, trivial⟩, trivial⟩⟩, .inl ⟨rfl, esR_pure _⟩, ⟨rfl, .inl ⟨rfl, fun row h => by rw [List.mem_singleton.1 h]; rfl⟩⟩, trivial⟩⟩) ⟨⟨rfl, trivial, ⟨rfl, rfl, rfl⟩, ⟨rfl, rfl, rfl⟩, ⟨rfl, rfl, rfl⟩, ⟨rfl, rfl, rfl⟩, trivial⟩, rfl, rfl, rfl, trivial⟩⟩
    ·rw [if_neg hi] at hnx
     refine CallsAbs.frame (third_no props Q m out a b hp (by omega) (by omega) hk hi) [.old 0, .old 1, .old 2, .old 3, .old 4, .old 5, .old 7] ⟨Nat.zero_le _, rfl, rfl, ⟨⟨rfl, .inl ⟨rfl, outA_pure _⟩⟩, ⟨rfl, .inr ⟨⟨⟨rfl, rfl, rfl⟩, trivial⟩, trivial⟩⟩, ⟨⟨rfl, .inr ⟨⟨⟨rfl, trivial, ⟨rfl, rfl, rfl⟩, trivial⟩, trivial⟩, trivial⟩⟩, ⟨rfl, .inl ⟨rfl, fun row h => by rw [List.mem_singleton.1 h]; rfl⟩⟩, ⟨rfl, .inr ⟨⟨rfl, trivial⟩, trivial⟩⟩, .inl ⟨rfl, esR_pure _⟩, ⟨rfl, .inl ⟨rfl, fun row h => by rw [List.mem_singleton.1 h]; rfl⟩⟩, trivial⟩⟩⟩ ⟨rfl, rfl, ⟨rfl, rfl, rfl⟩, ⟨rfl, rfl, rfl⟩, ⟨rfl, rfl, rfl⟩, ⟨rfl, rfl, rfl⟩, trivial⟩ ?_
     rintro _ _ ⟨rfl, rfl⟩
     refine ⟨.tup [], (st3 props Q (m + 1) out 7 8).objs, ⟨⟨rfl, .inl ⟨rfl, outA_pure _⟩⟩, ⟨rfl, .inr ⟨⟨⟨rfl, rfl, rfl⟩, trivial⟩, trivial⟩⟩, ⟨⟨rfl, .inr ⟨⟨⟨rfl, trivial, ⟨rfl, rfl, rfl⟩, trivial⟩, trivial⟩, trivial⟩⟩, ⟨rfl, .inl ⟨rfl, fun row h => by rw [List.mem_singleton.1 h]; rfl⟩⟩, ⟨rfl, .inr ⟨⟨rfl, trivial⟩, trivial⟩⟩, .inl ⟨rfl, esR_pure _⟩, ⟨rfl, .inl ⟨rfl, fun row h => by rw [List.mem_singleton.1 h]; rfl⟩⟩, trivial⟩⟩, rfl, trivial, ?_⟩
     refine wR (k := ?_)
     exact ⟨_, _, _, ⟨k + 1, rfl, hlt, rfl, rfl⟩, by omega, Mv.of [.old 7] rfl rfl rfl (by rw [hnx]; exact ⟨⟨rfl, .inl ⟨rfl, outA_pure _⟩⟩, ⟨rfl, .inr ⟨⟨⟨rfl, rfl, rfl⟩, trivial⟩, trivial⟩⟩, ⟨⟨rfl, .inr ⟨⟨⟨rfl, trivial, ⟨rfl, rfl, rfl⟩, trivial⟩, trivial⟩, trivial⟩⟩, ⟨rfl, .inl ⟨rfl, fun row h => by rw [List.mem_singleton.1 h]; rfl⟩⟩, ⟨rfl, .inr ⟨⟨rfl, trivial⟩, trivial⟩⟩, .inl ⟨rfl, esR_pure _⟩, ⟨rfl, .inl ⟨rfl, fun row h => by rw [List.mem_singleton.1 h]; rfl⟩⟩, trivial⟩⟩) ⟨⟨rfl, trivial, ⟨rfl, rfl, rfl⟩, ⟨rfl, rfl, rfl⟩, ⟨rfl, rfl, rfl⟩, ⟨rfl, rfl, rfl⟩, trivial⟩, rfl, rfl, rfl, trivial⟩⟩
 ·have hk' : k = ps.length := by omega
  subst hk'
  rw [List.take_length]
  refine wR (k := ?_)
  exact ⟨.tup [], st3 props Q (outR props Q ps).1 (outR props Q ps).2 7 8, FinMove.refl _ _ _, rfl, rfl⟩
theorem steps_mem (props : List (List UInt8)) (Q : List Pair) : ∀ (l : List Pair) (x : Nat × List Pair), ∀ p ∈ (l.foldl (stepB props Q) x).2, p ∈ x.2 ∨ p ∈ l
 | [], x, p, h => .inl h
 | q :: r, x, p, h => by
  rcases steps_mem props Q r (stepB props Q x q) p h with h | h
  ·unfold stepB at h
   split at h
   ·dsimp only at h
    split at h
    ·rcases List.mem_append.1 h with h | h
     ·exact .inl h
     ·exact .inr (by rw [List.mem_singleton.1 h]; simp)
    ·exact .inl h
   ·exact .inl h
  ·exact .inr (by simp [h])
theorem part_len {p : List UInt8} {q : Pair} (h : partB p = some q) : q.1.length + q.2.length ≤ p.length := by
 unfold partB at h
 cases hc : cutAt 58 p with
 | none => rw [hc] at h; cases h
 | some xy =>
  rw [hc] at h
  cases h
  have h1 := congrArg List.length (cutAt_len hc)
  rw [List.length_append, List.length_cons] at h1
  have h2 := bareB_len xy.1
  have h3 := bareB_len xy.2
  dsimp only; omega
theorem out_len (props : List (List UInt8)) (Q : List Pair) (s : List UInt8) : ∀ p ∈ (outR props Q (splitB 59 s)).2, (txtB p).length ≤ s.length + 2 := fun p h => by
 rcases steps_mem props Q _ _ p h with h | h
 ·cases h
 ·obtain ⟨x, hx, hp⟩ := List.mem_filterMap.1 h
  have h1 := splitB_bound 59 s x hx
  have h2 := part_len hp
  unfold txtB
  simp only [List.length_append, List.length_cons, List.length_nil]; omega
theorem lensB_max {M : Nat} : ∀ {l : List (List UInt8)}, (∀ x ∈ l, x.length ≤ M) → lensB l ≤ l.length * M
 | [], _ => by simp [lensB]
 | a :: r, h => by
  have h1 := lensB_max (l := r) (fun x hx => h x (by simp [hx]))
  have h2 := h a (by simp)
  have e : lensB (a :: r) = a.length + lensB r := by simp [lensB]
  rw [e, List.length_cons, Nat.add_mul, Nat.one_mul]; omega
def filterB (props : List (List UInt8)) (s : List UInt8) : List UInt8 := joinB [59, 32] ((outR props (keptR props (splitB 59 s)) (splitB 59 s)).2.map txtB)
set_option maxRecDepth 100000 in
set_option maxHeartbeats 1000000 in
theorem Filter_ok (props : List (List UInt8)) (s : List UInt8) (hp : props.length ≤ 1000000) (hs : s.length ≤ 400000) : PureC Tryz.prog 162 [.d (.str s), .d (.sl (strsD props))] (.d (.str (filterB props s))) := by
 have hd1 := each2_ok props s hp (by omega)
 have hd2 := each3_ok props (keptR props (splitB 59 s)) s hp (by omega)
 have hlen := out_len props (keptR props (splitB 59 s)) s
 have hcnt := (outR_le props (keptR props (splitB 59 s)) (splitB 59 s)).2
 have hps := splitB_len 59 s
 have hcl := List.count_le_length (a := 59) (l := s)
 unfold filterB
 generalize keptR props (splitB 59 s) = Q at *
 generalize outR props Q (splitB 59 s) = mo at *
 obtain ⟨m, out⟩ := mo
 dsimp only at *
 have hmx : lensB (out.map txtB) ≤ (out.map txtB).length * (s.length + 2) := lensB_max (fun x hx => by
  obtain ⟨p, h1, rfl⟩ := List.mem_map.1 hx
  exact hlen p h1)
 rw [List.length_map] at hmx
 have hml : out.length * (s.length + 2) ≤ 500000 * 500000 := Nat.mul_le_mul (by omega) (by omega)
 have hj := Join_ok [59, 32] (out.map txtB) (by decide) (by decide) (by rw [List.length_map]; omega) (by omega) (fun h => by
  cases out with
  | nil => simp at h
  | cons p r =>
   have : lensB ((p :: r).map txtB) = (txtB p).length + lensB (r.map txtB) := by simp [lensB]
   rw [this]
   have : 2 ≤ (txtB p).length := by simp only [txtB, List.length_append, List.length_cons, List.length_nil]; omega
   omega)
 clear hmx hml hlen
 refine pure_okT Tryz.wf Tryz.tab_ok Tryz.func162 (by decide +kernel) rfl rfl rfl rfl ?_
 repeat' (first | refine CallsAbs.use1 hd1 ?_ | refine CallsAbs.use1 hd2 ?_ | refine wO ?_ | (refine ⟨fun h => ?_, fun h => ?_⟩ <;> (try simp only [wS, List.length_cons, List.length_nil] at h) <;> (try exact wX h)) | refine wP ?_ | fail)
 refine CallsAbs.fm (σ' := st2 props []) (fin_same rfl fun i => ?_) ?_
 ·rcases (show i = 0 ∨ i = 1 ∨ i = 2 ∨ i = 3 ∨ i = 4 ∨ 5 ≤ i by omega) with rfl | rfl | rfl | rfl | rfl | h
  ·rfl
  ·rfl
  ·rfl
  ·rfl
  ·rfl
  ·simp only [st2, Store.get, look_cons]
   repeat rw [if_neg (by omega)]
 refine CallsAbs.use1 hd1 ?_
 clear hd1
 repeat' (first | refine CallsAbs.use1 hd1 ?_ | refine CallsAbs.use1 hd2 ?_ | refine wO ?_ | (refine ⟨fun h => ?_, fun h => ?_⟩ <;> (try simp only [wS, List.length_cons, List.length_nil] at h) <;> (try exact wX h)) | refine wP ?_ | fail)
 refine CallsAbs.fm (args' := [.d (.str s), .fn (.func 183) [] [.ref 4 0 0, .ref 3 0 0, .ref 2 0 0, .ref 5 0 0]]) (σ' := st3 props Q 0 [] 6 7) (fin_mv [.phan 1] rfl rfl rfl ⟨rfl, ⟨rfl, .inr ⟨⟨⟨rfl, rfl, rfl⟩, trivial⟩, trivial⟩⟩, ⟨⟨rfl, .inr ⟨⟨⟨rfl, trivial, ⟨rfl, rfl, rfl⟩, trivial⟩, trivial⟩, trivial⟩⟩, ⟨rfl, .inl ⟨rfl, fun row h => by rw [List.mem_singleton.1 h]; rfl⟩⟩, ⟨rfl, .inr ⟨⟨rfl, trivial⟩, trivial⟩⟩, .inl ⟨rfl, esR_pure _⟩, ⟨rfl, .inl ⟨rfl, fun row h => by rw [List.mem_singleton.1 h]; rfl⟩⟩, trivial⟩⟩ ⟨rfl, ⟨rfl, trivial, ⟨rfl, rfl, rfl⟩, ⟨rfl, rfl, rfl⟩, ⟨rfl, rfl, rfl⟩, ⟨rfl, rfl, rfl⟩, trivial⟩, trivial⟩) ?_
 refine CallsAbs.use1 hd2 ?_
 clear hd2
 have hl := outA_len out
 repeat' (first | refine CallsAbs.use1 hd1 ?_ | refine CallsAbs.use1 hd2 ?_ | refine wO ?_ | (refine ⟨fun h => ?_, fun h => ?_⟩ <;> (try simp only [wS, List.length_cons, List.length_nil] at h) <;> (try exact wX h)) | refine wP ?_ | fail)
 refine CallsAbs.use1 (PureC.borrow 1 hj rfl ?_) ?_
 ·have e := see_own (σ := st3 props Q m out 7 8) (n := 0) (i := 7) (len := out.length) (sz := (1, 9)) (ds := strsD (out.map txtB)) rfl (by rw [strsD_len, List.length_map])
  show optL (seeV (st3 props Q m out 7 8) 1) [.own 7 0 out.length, .d (.str [59, 32])] = _
  simp only [optL, seeV, e, seeD_d, Option.map_some]
 repeat' (first | refine CallsAbs.use1 hd1 ?_ | refine CallsAbs.use1 hd2 ?_ | refine wO ?_ | (refine ⟨fun h => ?_, fun h => ?_⟩ <;> (try simp only [wS, List.length_cons, List.length_nil] at h) <;> (try exact wX h)) | refine wP ?_ | fail)
 exact ⟨_, _, fin_out rfl, rfl⟩
def strsA (l : List (List UInt8)) : List (List AV) := (strsD l).map fun r => r.map AV.d
theorem strsA_len (l : List (List UInt8)) : (strsA l).length = l.length := by simp [strsA, strsD_len]
theorem strsA_rows (l : List (List UInt8)) : ∀ row ∈ strsA l, row.length = 1 ∧ ∀ a ∈ row, a.one = true := fun row h => by
 unfold strsA strsD at h
 simp only [List.map_map, List.mem_map] at h
 obtain ⟨p, _, rfl⟩ := h
 exact ⟨rfl, fun a ha => by simp at ha; rw [ha]; rfl⟩
theorem strsA_snoc (l : List (List UInt8)) (p : List UInt8) : strsA (l ++ [p]) = strsA l ++ [[.d (.str p)]] := by simp [strsA, strsD]
theorem strsA_pure (l : List (List UInt8)) : ∀ row ∈ strsA l, pureL row = true := dataA_pure _
def PartI (c : UInt8) (s : List UInt8) (i : Nat) (P : List (List UInt8)) (fr : Nat) : Prop :=
 (i ≤ s.length ∧ fr ≤ i ∧ splitB c s = P ++ splitB c (s.drop fr) ∧ c ∉ (s.drop fr).take (i - fr)) ∨ (i = s.length + 1 ∧ fr = s.length + 1 ∧ P = splitB c s)
theorem PartI.hit {c : UInt8} {s : List UInt8} {i : Nat} {P : List (List UInt8)} {fr : Nat} (h : PartI c s i P fr) (hi : i < s.length) (hc : s[i] = c) : PartI c s (i + 1) (P ++ [(s.take i).drop fr]) (i + 1) := by
 rcases h with ⟨_, h1, h2, h3⟩ | ⟨h, _⟩
 ·refine .inl ⟨hi, Nat.le_refl _, ?_, by simp⟩
  have e : s.drop fr = (s.drop fr).take (i - fr) ++ c :: s.drop (i + 1) := by
   rw [← hc]
   have h4 : (s.drop fr).drop (i - fr) = s[i] :: s.drop (i + 1) := by
    rw [List.drop_drop, show fr + (i - fr) = i from by omega, List.drop_eq_getElem_cons hi]
   rw [← h4, List.take_append_drop]
  rw [h2, e, splitB_app h3, List.drop_take, List.append_assoc]; rfl
 ·omega
theorem PartI.fin {c : UInt8} {s : List UInt8} {P : List (List UInt8)} {fr : Nat} (h : PartI c s s.length P fr) : PartI c s (s.length + 1) (P ++ [(s.take s.length).drop fr]) (s.length + 1) := by
 rcases h with ⟨_, h1, h2, h3⟩ | ⟨h, _⟩
 ·refine .inr ⟨rfl, rfl, ?_⟩
  rw [List.take_of_length_le (by rw [List.length_drop]; omega)] at h3
  rw [h2, splitB_none h3, List.take_length]
 ·omega
theorem PartI.len {c : UInt8} {s : List UInt8} {i : Nat} {P : List (List UInt8)} {fr : Nat} (h : PartI c s i P fr) : P.length ≤ s.length + 1 ∧ fr ≤ i := by
 have h1 := splitB_len c s
 have h2 := List.count_le_length (a := c) (l := s)
 rcases h with ⟨_, h3, h, _⟩ | ⟨h0, h3, h⟩
 ·rw [h, List.length_append] at h1; omega
 ·rw [← h] at h1; omega
def lastsL : List Pair → List Pair
 | [] => []
 | p :: r => if p.1 ∈ r.map Prod.fst then lastsL r else p :: lastsL r
def keptL (props : List (List UInt8)) (l : List (List UInt8)) : List Pair := (l.filterMap partB).filter (keepB props)
theorem addRs_eq (props : List (List UInt8)) : ∀ (l : List Pair) (q : List Pair), l.foldl (addR props) q = (l.filter (keepB props)).reverse ++ q
 | [], q => rfl
 | p :: r, q => by
  rw [List.foldl_cons, addRs_eq props r]
  unfold addR
  by_cases h : keepB props p = true
  ·rw [if_pos h, List.filter_cons_of_pos h, List.reverse_cons, List.append_assoc]; rfl
  ·rw [if_neg h, List.filter_cons_of_neg h]
theorem keptR_eq (props : List (List UInt8)) (l : List (List UInt8)) : keptR props l = (keptL props l).reverse := by
 unfold keptR keptL
 rw [addRs_eq, List.append_nil]
theorem idxR_app (x : List UInt8) (B : List Pair) : ∀ A : List Pair, (x ∈ A.map Prod.fst → B.length < idxR x (A ++ B)) ∧ (x ∉ A.map Prod.fst → idxR x (A ++ B) = idxR x B)
 | [] => ⟨fun h => by simp at h, fun _ => rfl⟩
 | p :: A => by
  obtain ⟨h1, h2⟩ := idxR_app x B A
  rw [List.cons_append, idxR, List.map_cons]
  by_cases hx : x = p.1
  ·rw [if_pos hx, List.length_append]
   exact ⟨fun _ => by omega, fun h => absurd (by rw [hx]; exact List.mem_cons_self) h⟩
  ·rw [if_neg hx]
   refine ⟨fun h => h1 ?_, fun h => h2 fun h3 => h (List.mem_cons_of_mem _ h3)⟩
   rcases List.mem_cons.1 h with h | h
   ·exact absurd h hx
   ·exact h
theorem steps_lasts (props : List (List UInt8)) (Q : List Pair) : ∀ (l pre : List Pair) (out : List Pair), Q = (pre ++ l.filter (keepB props)).reverse → l.foldl (stepB props Q) (pre.length, out) = ((pre ++ l.filter (keepB props)).length, out ++ lastsL (l.filter (keepB props)))
 | [], pre, out, _ => by simp [lastsL]
 | p :: r, pre, out, hQ => by
  rw [List.foldl_cons]
  unfold stepB
  by_cases h : keepB props p = true
  ·rw [if_pos h]
   rw [List.filter_cons_of_pos h] at hQ ⊢
   have hQ2 : Q = ((pre ++ [p]) ++ r.filter (keepB props)).reverse := by rw [hQ]; simp
   have hq : Q = (r.filter (keepB props)).reverse ++ (p :: pre.reverse) := by rw [hQ]; simp
   have hidx := idxR_app p.1 (p :: pre.reverse) (r.filter (keepB props)).reverse
   rw [← hq] at hidx
   have hme : p.1 ∈ (r.filter (keepB props)).reverse.map Prod.fst ↔ p.1 ∈ (r.filter (keepB props)).map Prod.fst := by simp
   rw [hme] at hidx
   have hself : idxR p.1 (p :: pre.reverse) = pre.length + 1 := by rw [idxR, if_pos rfl, List.length_reverse]
   dsimp only
   have ih := fun o => steps_lasts props Q r (pre ++ [p]) o hQ2
   rw [List.length_append] at ih
   rw [lastsL]
   by_cases hm : p.1 ∈ (r.filter (keepB props)).map Prod.fst
   ·have h1 := hidx.1 hm
    rw [List.length_cons, List.length_reverse] at h1
    rw [if_neg (by omega), if_pos hm]
    exact (ih out).trans (by simp)
   ·rw [if_pos ((hidx.2 hm).trans hself), if_neg hm]
    exact (ih (out ++ [p])).trans (by simp)
  ·rw [if_neg h]
   rw [List.filter_cons_of_neg h] at hQ ⊢
   exact steps_lasts props Q r pre out hQ
theorem outR_eq (props : List (List UInt8)) (l : List (List UInt8)) : (outR props (keptR props l) l).2 = lastsL (keptL props l) := by
 unfold outR
 have h := steps_lasts props (keptR props l) (l.filterMap partB) [] [] (by rw [keptR_eq]; rfl)
 rw [show (0, []) = (([] : List Pair).length, ([] : List Pair)) from rfl, h]
 rfl
theorem filterB_eq (props : List (List UInt8)) (s : List UInt8) : filterB props s = joinB [59, 32] ((lastsL (keptL props (splitB 59 s))).map txtB) := by
 unfold filterB; rw [outR_eq]
def two (N V : List (List UInt8)) : Store := ⟨2, [(1, .rows (1, 9) (strsA V)), (0, .rows (1, 9) (strsA N))]⟩
end Go.Proofs.YthngplknbbcecaaGreatDoor
namespace Go.Proofs.YthngplknbbcecaaGreatDoor
open Go.Aw
set_option maxHeartbeats 1600000
set_option linter.unusedSimpArgs false
set_option linter.unusedVariables false
inductive Node where
 | mk (name : List UInt8) (attrs : List (List UInt8 × List UInt8)) (text : List UInt8) (kids : List Node)
def Node.name : Node → List UInt8
 | .mk n _ _ _ => n
def Node.attrs : Node → List (List UInt8 × List UInt8)
 | .mk _ a _ _ => a
def Node.text : Node → List UInt8
 | .mk _ _ t _ => t
def Node.kids : Node → List Node
 | .mk _ _ _ k => k
def attrD (a : List UInt8 × List UInt8) : List D := [.str a.1, .str a.2]
def attrsD (l : List (List UInt8 × List UInt8)) : List (List D) := l.map attrD
mutual
def nodeD : Node → List D
 | .mk n a t k => [.str n, .sl (attrsD a), .str t, .sl (nodesD k)]
def nodesD : List Node → List (List D)
 | [] => []
 | n :: r => nodeD n :: nodesD r
end
theorem nodesD_map : ∀ l : List Node, nodesD l = l.map nodeD
 | [] => by unfold nodesD; rfl
 | n :: r => by unfold nodesD; rw [nodesD_map r]; rfl
theorem nodeD_eq (n : Node) : nodeD n = [.str n.name, .sl (attrsD n.attrs), .str n.text, .sl (nodesD n.kids)] := by
 cases n; unfold nodeD; rfl
theorem nodesD_len (l : List Node) : (nodesD l).length = l.length := by rw [nodesD_map]; simp
theorem attrsD_len (l : List (List UInt8 × List UInt8)) : (attrsD l).length = l.length := by simp [attrsD]
theorem nodesD_get (l : List Node) (k : Nat) (h : k < l.length) : (nodesD l)[((k : Nat) : Int).toNat]? = some [.str l[k].name, .sl (attrsD l[k].attrs), .str l[k].text, .sl (nodesD l[k].kids)] := by
 rw [nodesD_map, Int.toNat_natCast]; simp [h, nodeD_eq]
theorem attrsD_get (l : List (List UInt8 × List UInt8)) (k : Nat) (h : k < l.length) : (attrsD l)[((k : Nat) : Int).toNat]? = some [.str l[k].1, .str l[k].2] := by
 rw [Int.toNat_natCast]; simp [attrsD, attrD, h]
mutual
def szN : Node → Nat
 | .mk _ _ _ k => 1 + szL k
def szL : List Node → Nat
 | [] => 0
 | n :: r => szN n + szL r
end
theorem szN_eq (n : Node) : szN n = 1 + szL n.kids := by cases n; unfold szN; rfl
theorem szL_cons (n : Node) (r : List Node) : szL (n :: r) = szN n + szL r := by rw [szL]
theorem sz_mem {l : List Node} {n : Node} (h : n ∈ l) : szN n ≤ szL l := by
 induction l with
 | nil => simp at h
 | cons m r ih =>
  rw [szL_cons]
  rcases List.mem_cons.1 h with rfl | h
  ·omega
  ·have := ih h; omega
theorem kids_lt {l : List Node} {n : Node} (h : n ∈ l) : szL n.kids < szL l := by
 have := sz_mem h
 rw [szN_eq] at this; omega
def voids : List (List UInt8) := [[97, 114, 101, 97], [98, 97, 115, 101], [98, 114], [99, 111, 108], [101, 109, 98, 101, 100], [104, 114], [105, 109, 103], [105, 110, 112, 117, 116], [108, 105, 110, 107], [109, 101, 116, 97], [112, 97, 114, 97, 109], [115, 111, 117, 114, 99, 101], [116, 114, 97, 99, 107], [119, 98, 114]]
def blocks : List (List UInt8) := [[97, 100, 100, 114, 101, 115, 115], [97, 114, 116, 105, 99, 108, 101], [97, 115, 105, 100, 101], [98, 108, 111, 99, 107, 113, 117, 111, 116, 101], [100, 105, 118], [100, 108], [102, 105, 101, 108, 100, 115, 101, 116], [102, 105, 103, 117, 114, 101], [102, 111, 111, 116, 101, 114], [102, 111, 114, 109], [104, 49], [104, 50], [104, 51], [104, 52], [104, 53], [104, 54], [104, 101, 97, 100, 101, 114], [104, 114], [108, 105], [109, 97, 105, 110], [110, 97, 118], [111, 108], [112], [112, 114, 101], [115, 101, 99, 116, 105, 111, 110], [116, 97, 98, 108, 101], [117, 108]]
def raws : List (List UInt8) := [[115, 99, 114, 105, 112, 116], [115, 116, 121, 108, 101], [120, 109, 112], [105, 102, 114, 97, 109, 101], [110, 111, 101, 109, 98, 101, 100], [110, 111, 102, 114, 97, 109, 101, 115], [112, 108, 97, 105, 110, 116, 101, 120, 116]]
def softs : List (List UInt8) := [[116, 101, 120, 116, 97, 114, 101, 97], [116, 105, 116, 108, 101]]
def rawV (s : List UInt8) : AV := .tup [.d (.bool (decide (s ∈ raws) || decide (s ∈ softs))), .d (.bool (decide (s ∉ raws) && decide (s ∈ softs)))]
theorem rawV_pure (s : List UInt8) : (rawV s).pure = true := rfl
set_option maxRecDepth 100000 in
theorem Void_ok (s : List UInt8) : PureC Tryz.prog 119 [.d (.str s)] (.d (.bool (decide (s ∈ voids)))) := by
 refine pure_okT Tryz.wf Tryz.tab_ok Tryz.func119 (by decide +kernel) rfl rfl rfl rfl ?_
 have yes : ∀ σ : Store, s ∈ voids → ∃ r2 σ2, FinMove ⟨0, []⟩ (AV.d (.bool true)) σ r2 σ2 ∧ r2 = AV.d (.bool (decide (s ∈ voids))) := fun σ h => ⟨_, _, fin_out rfl, by rw [decide_eq_true h]⟩
 iterate 14 (refine ⟨fun h => yes _ (by rw [of_decide_eq_true h]; decide), fun h => ?_⟩; replace h := of_decide_eq_false h)
 refine ⟨_, _, fin_out rfl, congrArg (fun b => AV.d (.bool b)) (decide_eq_false ?_).symm⟩
 simp_all [voids]
set_option maxRecDepth 100000 in
theorem Block_ok (s : List UInt8) : PureC Tryz.prog 115 [.d (.str s)] (.d (.bool (decide (s ∈ blocks)))) := by
 refine pure_okT Tryz.wf Tryz.tab_ok Tryz.func115 (by decide +kernel) rfl rfl rfl rfl ?_
 have yes : ∀ σ : Store, s ∈ blocks → ∃ r2 σ2, FinMove ⟨0, []⟩ (AV.d (.bool true)) σ r2 σ2 ∧ r2 = AV.d (.bool (decide (s ∈ blocks))) := fun σ h => ⟨_, _, fin_out rfl, by rw [decide_eq_true h]⟩
 iterate 27 (refine ⟨fun h => yes _ (by rw [of_decide_eq_true h]; decide), fun h => ?_⟩; replace h := of_decide_eq_false h)
 refine ⟨_, _, fin_out rfl, congrArg (fun b => AV.d (.bool b)) (decide_eq_false ?_).symm⟩
 simp_all [blocks]
set_option maxRecDepth 100000 in
theorem tRaw_ok (s : List UInt8) : PureC Tryz.prog 47 [.d (.str s)] (rawV s) := by
 refine pure_okT Tryz.wf Tryz.tab_ok Tryz.func47 (by decide +kernel) rfl rfl rfl (rawV_pure s) ?_
 have yes : ∀ σ : Store, s ∈ raws → ∃ r2 σ2, FinMove ⟨0, []⟩ (AV.tup [.d (.bool true), .d (.bool false)]) σ r2 σ2 ∧ r2 = rawV s := fun σ h => ⟨_, _, fin_out rfl, by simp [rawV, h]⟩
 iterate 7 (refine ⟨fun h => yes _ (by rw [of_decide_eq_true h]; decide), fun h => ?_⟩; replace h := of_decide_eq_false h)
 have hno : s ∉ raws := by simp_all [raws]
 have yes2 : ∀ σ : Store, s ∈ softs → ∃ r2 σ2, FinMove ⟨0, []⟩ (AV.tup [.d (.bool true), .d (.bool true)]) σ r2 σ2 ∧ r2 = rawV s := fun σ h => ⟨_, _, fin_out rfl, by simp [rawV, h, hno]⟩
 iterate 2 (refine ⟨fun h => yes2 _ (by rw [of_decide_eq_true h]; decide), fun h => ?_⟩; replace h := of_decide_eq_false h)
 have hno2 : s ∉ softs := by simp_all [softs]
 have e : rawV s = .tup [.d (.bool false), .d (.bool false)] := by simp [rawV, hno, hno2]
 exact ⟨_, _, fin_out rfl, e.symm⟩
end Go.Proofs.YthngplknbbcecaaGreatDoor

namespace Go.Proofs.YthngplknbbcecaaGreatDoor
open Go.Aw
set_option maxHeartbeats 1600000
set_option linter.unusedSimpArgs false
set_option linter.unusedVariables false
def letB (c : UInt8) : Bool := decide (97 ≤ c.toNat) && decide (c.toNat ≤ 122)
def digB (c : UInt8) : Bool := decide (48 ≤ c.toNat) && decide (c.toNat ≤ 57)
def smallT (o : List UInt8) (s : List UInt8) : Bool := s.all fun c => letB c || (digB c || decide (c ∈ o))
def small (s o : List UInt8) : Bool := match s with
 | [] => false
 | c :: r => letB c && smallT o r
theorem idx_mem (c : UInt8) (o : List UInt8) (h : o.length ≤ 9223372036854775807) : (decide (0 ≤ idxB c o)) = decide (c ∈ o) := by
 by_cases hm : c ∈ o
 ·obtain ⟨a, b, rfl, ha⟩ := split_first hm
  rw [idxB_some ha, decide_eq_true hm, decide_eq_true (by omega)]
 ·rw [idxB_none hm, decide_eq_false hm]; rfl
def upto (s o : List UInt8) (k : Nat) : Bool := decide (k = 0) || small (s.take k) o
theorem upto_step (s o : List UInt8) (k : Nat) (h : k < s.length) : upto s o (k + 1) = (upto s o k && (letB s[k] || decide (0 < k) && (digB s[k] || decide (s[k] ∈ o)))) := by
 cases k with
 | zero =>
  have e : s.take (0 + 1) = [s[0]] := by rw [List.take_succ_eq_append_getElem h]; rfl
  unfold upto
  rw [e]
  simp [small, smallT]
 | succ j =>
  cases s with
  | nil => simp at h
  | cons c r =>
   simp only [List.length_cons] at h
   have hj : j < r.length := by omega
   unfold upto
   simp only [List.take_succ_cons, List.getElem_cons_succ, small]
   rw [List.take_succ_eq_append_getElem hj]
   simp only [smallT, List.all_append, List.all_cons, List.all_nil, Bool.and_true]
   simp [Bool.and_assoc]
theorem upto_end (s o : List UInt8) : (upto s o s.length && !decide (s = [])) = small s o := by
 unfold upto
 cases s with
 | nil => rfl
 | cons c r => simp
theorem upto_bad : ∀ (s o : List UInt8) (k : Nat), k ≤ s.length → upto s o k = false → small s o = false := by
 intro s o k hk h
 unfold upto at h
 rw [Bool.or_eq_false_iff] at h
 have hk0 : k ≠ 0 := by simpa using h.1
 cases s with
 | nil => simp at hk; omega
 | cons c r =>
  obtain ⟨j, rfl⟩ : ∃ j, k = j + 1 := ⟨k - 1, by omega⟩
  have h2 := h.2
  simp only [List.take_succ_cons, small] at h2 ⊢
  rw [Bool.and_eq_false_iff] at h2 ⊢
  rcases h2 with h2 | h2
  ·exact .inl h2
  ·refine .inr ?_
   unfold smallT at h2 ⊢
   rw [← List.take_append_drop j r, List.all_append, h2]; rfl
def optV : Option (List UInt8) → AV
 | some x => .tup [.d (.str x), .d (.bool true)]
 | none => .tup [.d (.str []), .d (.bool false)]
theorem optV_pure (o : Option (List UInt8)) : (optV o).pure = true := by cases o <;> rfl
def enc (n : Int) : List UInt8 := (Utf8.encode n).data.toList
def nameTab : List (List UInt8 × Int) := [([97, 109, 112], 38), ([108, 116], 60), ([103, 116], 62), ([113, 117, 111, 116], 34), ([97, 112, 111, 115], 39), ([110, 98, 115, 112], 160), ([99, 111, 112, 121], 169), ([114, 101, 103], 174), ([100, 101, 103], 176), ([109, 105, 100, 100, 111, 116], 183), ([108, 97, 113, 117, 111], 171), ([114, 97, 113, 117, 111], 187), ([116, 105, 109, 101, 115], 215), ([101, 97, 99, 117, 116, 101], 233), ([110, 100, 97, 115, 104], 8211), ([109, 100, 97, 115, 104], 8212), ([108, 115, 113, 117, 111], 8216), ([114, 115, 113, 117, 111], 8217), ([108, 100, 113, 117, 111], 8220), ([114, 100, 113, 117, 111], 8221), ([104, 101, 108, 108, 105, 112], 8230), ([101, 117, 114, 111], 8364)]
def named (s : List UInt8) : Option (List UInt8) := (nameTab.find? fun e => decide (e.1 = s)).map fun e => enc e.2
theorem named_hit {s : List UInt8} {k : Nat} (h : k < nameTab.length) (hI : ∀ j (hj : j < nameTab.length), j < k → nameTab[j].1 ≠ s) (e : nameTab[k].1 = s) : named s = some (enc nameTab[k].2) := by
 have : nameTab.find? (fun e => decide (e.1 = s)) = some nameTab[k] := by
  rw [List.find?_eq_some_iff_getElem]
  exact ⟨decide_eq_true e, k, h, rfl, fun j hj => by simpa using hI j (by omega) hj⟩
 rw [named, this]; rfl
theorem named_miss {s : List UInt8} (hI : ∀ j (hj : j < nameTab.length), nameTab[j].1 ≠ s) : named s = none := by
 have : nameTab.find? (fun e => decide (e.1 = s)) = none := by
  rw [List.find?_eq_none]
  intro e he
  obtain ⟨j, hj, rfl⟩ := List.mem_iff_getElem.1 he
  simpa using hI j hj
 rw [named, this]; rfl
def fixN (n : Int) : Int := if n = 0 ∨ n = 13 ∨ (55296 ≤ n ∧ n ≤ 57343) ∨ 1114111 < n then 65533 else n
theorem fixN_ok (n : Int) (h : 0 ≤ n) : 0 ≤ fixN n ∧ fixN n ≤ 1114111 ∧ Utf8.valid (fixN n) = true := by
 unfold fixN
 split
 ·decide
 ·refine ⟨by omega, by omega, ?_⟩
  simp [Utf8.valid]; omega
theorem enc_of (n : Int) (hv : Utf8.valid n = true) : enc n =
  if n.toNat < 128 then [UInt8.ofNat n.toNat]
  else if n.toNat < 2048 then [UInt8.ofNat (192 + n.toNat / 64), UInt8.ofNat (128 + n.toNat % 64)]
  else if n.toNat < 65536 then [UInt8.ofNat (224 + n.toNat / 4096), UInt8.ofNat (128 + n.toNat / 64 % 64), UInt8.ofNat (128 + n.toNat % 64)]
  else [UInt8.ofNat (240 + n.toNat / 262144), UInt8.ofNat (128 + n.toNat / 4096 % 64), UInt8.ofNat (128 + n.toNat / 64 % 64), UInt8.ofNat (128 + n.toNat % 64)] := by
 unfold enc Utf8.encode
 dsimp only
 rw [if_pos hv]
 repeat' split
 all_goals first | rfl | omega
theorem enc_len (n : Int) : 1 ≤ (enc n).length ∧ (enc n).length ≤ 4 := by
 unfold enc Utf8.encode
 dsimp only
 repeat' split
 all_goals simp
def hexv (c : UInt8) : Option Nat := if 48 ≤ c.toNat ∧ c.toNat ≤ 57 then some (c.toNat - 48) else if 97 ≤ c.toNat ∧ c.toNat ≤ 102 then some (c.toNat - 87) else if 65 ≤ c.toNat ∧ c.toNat ≤ 70 then some (c.toNat - 55) else none
def digs (base : Nat) : List UInt8 → Nat → Option Nat
 | [], n => some n
 | c :: r, n => match hexv c with
  | some d => if d < base then digs base r (n * base + d) else none
  | none => none
theorem hexv_lt {c : UInt8} {d : Nat} (h : hexv c = some d) : d < 16 := by
 unfold hexv at h
 split at h
 ·cases h; omega
 ·split at h
  ·cases h; omega
  ·split at h
   ·cases h; omega
   ·cases h
theorem digs_lt {base : Nat} (hb : base ≤ 16) : ∀ {l : List UInt8} {n m : Nat}, digs base l n = some m → m + 1 ≤ (n + 1) * 16 ^ l.length
 | [], n, m, h => by simp [digs] at h; subst h; simp
 | c :: r, n, m, h => by
  unfold digs at h
  split at h
  ·rename_i d hd
   split at h
   ·rename_i hlt
    have := digs_lt hb h
    have h1 : n * base + d + 1 ≤ (n + 1) * 16 := by
     have : n * base ≤ n * 16 := Nat.mul_le_mul_left _ hb
     have := hexv_lt hd
     omega
    calc m + 1 ≤ (n * base + d + 1) * 16 ^ r.length := this
     _ ≤ ((n + 1) * 16) * 16 ^ r.length := Nat.mul_le_mul_right _ h1
     _ = (n + 1) * 16 ^ (c :: r).length := by rw [List.length_cons, Nat.pow_succ, Nat.mul_assoc, Nat.mul_comm 16]
   ·cases h
  ·cases h
def number (s : List UInt8) (base most : Nat) : Option Nat := if s = [] ∨ most < s.length then none else digs base s 0
def hashN (d : List UInt8) : Option Nat := match d with
 | 120 :: e => number e 16 6
 | 88 :: e => number e 16 6
 | _ => number d 10 7
def stands (s : List UInt8) : Option (List UInt8) := match s with
 | 35 :: d => (hashN d).map fun (n : Nat) => enc (fixN (n : Int))
 | _ => named s
theorem stands_hash (d : List UInt8) : stands (35 :: d) = (hashN d).map fun (n : Nat) => enc (fixN (n : Int)) := rfl
theorem hash_x (e : List UInt8) : hashN (120 :: e) = number e 16 6 := rfl
theorem hash_X (e : List UInt8) : hashN (88 :: e) = number e 16 6 := rfl
theorem hash_d (d : List UInt8) (h1 : ∀ e, d ≠ 120 :: e) (h2 : ∀ e, d ≠ 88 :: e) : hashN d = number d 10 7 := by
 unfold hashN
 split
 ·exact absurd rfl (h1 _)
 ·exact absurd rfl (h2 _)
 ·rfl
theorem stands_named (s : List UInt8) (h : ∀ d, s ≠ 35 :: d) : stands s = named s := by
 unfold stands
 split
 ·rename_i d; exact absurd rfl (h d)
 ·rfl
theorem find_at (a b : List UInt8) (h : (59 : UInt8) ∉ a) : (a ++ 59 :: b).findIdx (fun c => decide (c = 59)) = a.length := by
 induction a with
 | nil => rw [List.nil_append, List.findIdx_cons]; rfl
 | cons x r ih =>
  have h1 : x ≠ 59 := fun e => h (by simp [e])
  have h2 : (59 : UInt8) ∉ r := fun e => h (by simp [e])
  rw [List.cons_append, List.findIdx_cons, decide_eq_false h1]
  simp only [cond_false, List.length_cons]
  rw [ih h2]
def oneR (r : List UInt8) : Option (List UInt8 × List UInt8) :=
 if r.findIdx (fun c => decide (c = 59)) ≤ 10 ∧ r.findIdx (fun c => decide (c = 59)) < r.length then
  (stands (r.take (r.findIdx fun c => decide (c = 59)))).map fun t => (t, r.drop (r.findIdx (fun c => decide (c = 59)) + 1))
 else none
theorem oneR_some (a b : List UInt8) (h : (59 : UInt8) ∉ a) (hl : a.length ≤ 10) : oneR (a ++ 59 :: b) = (stands a).map fun t => (t, b) := by
 unfold oneR
 rw [find_at a b h, if_pos ⟨hl, by simp⟩]
 simp
theorem oneR_none (r : List UInt8) (h : (59 : UInt8) ∉ r.take 11) : oneR r = none := by
 unfold oneR
 rw [if_neg]
 rintro ⟨h1, h2⟩
 have h3 := List.findIdx_getElem (w := h2)
 apply h
 have : r[r.findIdx fun c => decide (c = 59)] = 59 := by simpa using h3
 rw [List.mem_iff_getElem]
 refine ⟨r.findIdx fun c => decide (c = 59), by simp; omega, ?_⟩
 rw [List.getElem_take]; exact this
theorem split_take (r : List UInt8) (h : (59 : UInt8) ∈ r.take 11) : ∃ a b, r = a ++ 59 :: b ∧ (59 : UInt8) ∉ a ∧ a.length ≤ 10 := by
 obtain ⟨a, b, e, ha⟩ := split_first h
 have hl : a.length < (r.take 11).length := by rw [e]; simp
 refine ⟨a, b ++ r.drop 11, ?_, ha, by simp at hl; omega⟩
 calc r = r.take 11 ++ r.drop 11 := (List.take_append_drop 11 r).symm
  _ = a ++ 59 :: (b ++ r.drop 11) := by rw [e]; simp
theorem oneR_lt {r t r' : List UInt8} (h : oneR r = some (t, r')) : r'.length < r.length := by
 by_cases hm : (59 : UInt8) ∈ r.take 11
 ·obtain ⟨a, b, rfl, ha, hl⟩ := split_take r hm
  rw [oneR_some a b ha hl] at h
  cases hs : stands a with
  | none => rw [hs] at h; cases h
  | some u => rw [hs] at h; cases h; simp; omega
 ·rw [oneR_none r hm] at h; cases h
def rsv : Nat → List UInt8 → List UInt8
 | 0, _ => []
 | _ + 1, [] => []
 | n + 1, c :: r => if c = 38 then (match oneR r with
   | some (t, r') => t ++ rsv n r'
   | none => 38 :: rsv n r) else c :: rsv n r
theorem rsv_fuel : ∀ (n m : Nat) (s : List UInt8), s.length ≤ n → s.length ≤ m → rsv n s = rsv m s
 | 0, 0, _, _, _ => rfl
 | 0, m + 1, s, h, _ => by
  have : s = [] := List.length_eq_zero_iff.1 (by omega)
  subst this; rfl
 | n + 1, 0, s, _, h => by
  have : s = [] := List.length_eq_zero_iff.1 (by omega)
  subst this; rfl
 | n + 1, m + 1, [], _, _ => rfl
 | n + 1, m + 1, c :: r, h1, h2 => by
  simp at h1 h2
  unfold rsv
  split
  ·split
   ·rename_i t r' ho
    have := oneR_lt ho
    rw [rsv_fuel n m r' (by omega) (by omega)]
   ·rw [rsv_fuel n m r h1 h2]
  ·rw [rsv_fuel n m r h1 h2]
def resolve (s : List UInt8) : List UInt8 := rsv s.length s
theorem resolve_nil : resolve [] = [] := rfl
theorem resolve_amp (r : List UInt8) : resolve (38 :: r) = match oneR r with
  | some (t, r') => t ++ resolve r'
  | none => 38 :: resolve r := by
 show rsv (r.length + 1) (38 :: r) = _
 unfold rsv
 rw [if_pos rfl]
 split
 ·rename_i t r' ho
  have := oneR_lt ho
  rw [rsv_fuel r.length r'.length r' (by omega) (Nat.le_refl _)]; rfl
 ·rfl
theorem resolve_other (c : UInt8) (r : List UInt8) (h : c ≠ 38) : resolve (c :: r) = c :: resolve r := by
 show rsv (r.length + 1) (c :: r) = _
 unfold rsv
 rw [if_neg h]; rfl
theorem resolve_plain : ∀ (a b : List UInt8), (38 : UInt8) ∉ a → resolve (a ++ b) = a ++ resolve b
 | [], _, _ => rfl
 | c :: a, b, h => by
  rw [List.cons_append, resolve_other _ _ (fun e => h (by simp [e])), resolve_plain a b (fun e => h (by simp [e]))]; rfl
theorem resolve_same (a : List UInt8) (h : (38 : UInt8) ∉ a) : resolve a = a := by
 have := resolve_plain a [] h
 rw [List.append_nil, resolve_nil, List.append_nil] at this; exact this
theorem nameTab_len : ∀ e ∈ nameTab, (enc e.2).length ≤ e.1.length + 2 := by decide +kernel
theorem named_len {a t : List UInt8} (h : named a = some t) : t.length ≤ a.length + 2 := by
 unfold named at h
 obtain ⟨e, he, rfl⟩ := Option.map_eq_some_iff.1 h
 have hm := List.mem_of_find?_eq_some he
 have hp := List.find?_some he
 have : e.1 = a := by simpa using hp
 rw [← this]
 exact nameTab_len e hm
theorem number_pos {s : List UInt8} {b m n : Nat} (h : number s b m = some n) : 1 ≤ s.length ∧ s.length ≤ m ∧ digs b s 0 = some n := by
 unfold number at h
 split at h
 ·cases h
 ·rename_i hn
  have : s ≠ [] := fun e => hn (.inl e)
  have := List.length_pos_iff.2 this
  exact ⟨this, by omega, h⟩
theorem stands_len {a t : List UInt8} (h : stands a = some t) : t.length ≤ a.length + 2 := by
 by_cases hh : ∃ d, a = 35 :: d
 ·obtain ⟨d, rfl⟩ := hh
  rw [stands_hash] at h
  obtain ⟨n, hn, rfl⟩ := Option.map_eq_some_iff.1 h
  have h4 := (enc_len (fixN n)).2
  unfold hashN at hn
  split at hn
  ·have := (number_pos hn).1; simp at this ⊢; omega
  ·have := (number_pos hn).1; simp at this ⊢; omega
  ·have := (number_pos hn).1; simp at this ⊢; omega
 ·rw [stands_named a (fun d e => hh ⟨d, e⟩)] at h
  exact named_len h
theorem oneR_len {r t r' : List UInt8} (h : oneR r = some (t, r')) : t.length + r'.length ≤ r.length + 1 := by
 by_cases hm : (59 : UInt8) ∈ r.take 11
 ·obtain ⟨a, b, rfl, ha, hl⟩ := split_take r hm
  rw [oneR_some a b ha hl] at h
  cases hs : stands a with
  | none => rw [hs] at h; cases h
  | some u =>
   rw [hs] at h; cases h
   have := stands_len hs
   simp; omega
 ·rw [oneR_none r hm] at h; cases h
theorem resolve_len : ∀ (n : Nat) (s : List UInt8), s.length ≤ n → (resolve s).length ≤ s.length
 | _, [], _ => by simp [resolve_nil]
 | 0, _ :: _, h => by simp at h
 | n + 1, c :: r, h => by
  simp at h
  by_cases hc : c = 38
  ·subst hc
   rw [resolve_amp]
   split
   ·rename_i t r' ho
    have h1 := oneR_lt ho
    have h2 := oneR_len ho
    have := resolve_len n r' (by omega)
    simp; omega
   ·have := resolve_len n r h
    simp; omega
  ·rw [resolve_other c r hc]
   have := resolve_len n r h
   simp; omega
def esc1 (q : Bool) (c : UInt8) : List UInt8 := if c = 38 then [38, 97, 109, 112, 59] else if c = 60 then [38, 108, 116, 59] else if c = 62 then [38, 103, 116, 59] else if c = 34 ∧ q = true then [38, 113, 117, 111, 116, 59] else [c]
def escape (q : Bool) : List UInt8 → List UInt8
 | [] => []
 | [c] => esc1 q c
 | c :: d :: r => if c = 194 ∧ d = 160 then [38, 110, 98, 115, 112, 59] ++ escape q r else esc1 q c ++ escape q (d :: r)
theorem escape_nb (q : Bool) (r : List UInt8) : escape q (194 :: 160 :: r) = [38, 110, 98, 115, 112, 59] ++ escape q r := by simp [escape]
theorem escape_cons (q : Bool) (c : UInt8) (r : List UInt8) (h : ¬ (c = 194 ∧ ∃ t, r = 160 :: t)) : escape q (c :: r) = esc1 q c ++ escape q r := by
 cases r with
 | nil => simp [escape]
 | cons d t =>
  rw [escape, if_neg]
  rintro ⟨h1, h2⟩
  exact h ⟨h1, t, by rw [h2]⟩
theorem esc1_len (q : Bool) (c : UInt8) : 1 ≤ (esc1 q c).length ∧ (esc1 q c).length ≤ 6 := by
 unfold esc1
 repeat' split
 all_goals simp
theorem escape_len : ∀ (n : Nat) (q : Bool) (s : List UInt8), s.length ≤ n → s.length ≤ (escape q s).length ∧ (escape q s).length ≤ 6 * s.length
 | _, _, [], _ => by simp [escape]
 | 0, _, _ :: _, h => by simp at h
 | n + 1, q, c :: r, h => by
  simp at h
  by_cases hc : c = 194 ∧ ∃ t, r = 160 :: t
  ·obtain ⟨rfl, t, rfl⟩ := hc
   rw [escape_nb]
   have := escape_len n q t (by simp at h; omega)
   simp; omega
  ·rw [escape_cons q c r hc]
   have := escape_len n q r h
   have := esc1_len q c
   simp; omega
def lead (c : UInt8) : Nat × Nat × Nat :=
 if 194 ≤ c.toNat ∧ c.toNat ≤ 223 then (2, 128, 191)
 else if 224 ≤ c.toNat ∧ c.toNat ≤ 239 then (3, if c.toNat = 224 then 160 else 128, if c.toNat = 237 then 159 else 191)
 else if 240 ≤ c.toNat ∧ c.toNat ≤ 244 then (4, if c.toNat = 240 then 144 else 128, if c.toNat = 244 then 143 else 191)
 else (0, 128, 191)
def goesB (c : UInt8) : Bool := decide (128 ≤ c.toNat) && decide (c.toNat ≤ 191)
def right (s : List UInt8) : Nat := match s with
 | [] => 0
 | c :: r => if c.toNat < 128 then 1 else
  if (lead c).1 = 0 ∨ s.length < (lead c).1 ∨ (r.getD 0 0).toNat < (lead c).2.1 ∨ (lead c).2.2 < (r.getD 0 0).toNat then 0 else
  if ((r.drop 1).take ((lead c).1 - 2)).all goesB then (lead c).1 else 0
theorem lead_le (c : UInt8) : (lead c).1 ≤ 4 := by
 unfold lead
 repeat' split
 all_goals simp
theorem right_le (s : List UInt8) : right s ≤ s.length := by
 unfold right
 split
 ·simp
 ·rename_i c r
  repeat' split
  all_goals first | omega | (simp; done) | skip
theorem right_le4 (s : List UInt8) : right s ≤ 4 := by
 unfold right
 split
 ·simp
 ·rename_i c r
  have := lead_le c
  repeat' split
  all_goals omega
def rawB (s : List UInt8) : Bool := decide (s ∈ raws) || decide (s ∈ softs)
def attrsFrom : List (List UInt8) → List (List UInt8 × List UInt8) → Bool
 | _, [] => true
 | seen, a :: r => (small a.1 [45, 95, 58] && !decide (a.1 ∈ seen)) && attrsFrom (seen ++ [a.1]) r
def ownB (n : Node) : Bool := !(rawB n.name || !small n.name [45] || !decide (n.text = []) || decide (n.name ∈ voids) && !decide (n.kids = [])) && attrsFrom [] n.attrs
theorem rawV_fst (s : List UInt8) : rawV s = .tup [.d (.bool (rawB s)), .d (.bool (decide (s ∉ raws) && decide (s ∈ softs)))] := rfl
def Short (l : List (List UInt8 × List UInt8)) : Prop := l.length ≤ 1000000000 ∧ ∀ a ∈ l, a.1.length ≤ 1000000000 ∧ a.2.length ≤ 1000000000
structure Pol where
 ep : Int
 el : List (List UInt8)
 at' : List (List UInt8)
 sc : List (List UInt8)
 cl : List (List UInt8)
 pr : List (List UInt8)
 dp : Int
 nd : Int
 by' : Int
deriving DecidableEq
def polD (p : Pol) : List D := [.int .i64 p.ep, .sl (strsD p.el), .sl (strsD p.at'), .sl (strsD p.sc), .sl (strsD p.cl), .sl (strsD p.pr), .int .i64 p.dp, .int .i64 p.nd, .int .i64 p.by']
def polA (p : Pol) : AV := .agg ((polD p).map .d)
def FitsL (l : List (List UInt8)) : Prop := l.length ≤ 1000000 ∧ ∀ s ∈ l, s.length ≤ 1000000
structure Fits (p : Pol) : Prop where
 el : FitsL p.el
 at' : FitsL p.at'
 sc : FitsL p.sc
 cl : FitsL p.cl
 pr : FitsL p.pr
def wordB (s : List UInt8) : Bool := small s [45] && decide (s.length ≤ 32)
def cutDot : List UInt8 → Option (List UInt8 × List UInt8)
 | [] => none
 | c :: r => if c = 46 then some ([], r) else (cutDot r).map fun x => (c :: x.1, x.2)
def attrWordB (a : List UInt8) : Bool := wordB a && (!hasPre a [111, 110] && (!decide (a = [115, 114, 99, 100, 111, 99]) && (!decide (a = [102, 111, 114, 109, 97, 99, 116, 105, 111, 110]) && !decide (a = [115, 116, 121, 108, 101]))))
def attrOk (el : List (List UInt8)) (s : List UInt8) : Bool := match cutDot s with
 | none => false
 | some (e, a) => (decide (e = [42]) || decide (e ∈ el)) && attrWordB a
def nevers : List (List UInt8) := [[98, 97, 115, 101], [101, 109, 98, 101, 100], [102, 111, 114, 109], [105, 110, 112, 117, 116], [108, 105, 110, 107], [109, 97, 116, 104], [109, 101, 116, 97], [111, 98, 106, 101, 99, 116], [112, 97, 114, 97, 109], [115, 101, 108, 101, 99, 116], [115, 118, 103], [116, 101, 109, 112, 108, 97, 116, 101], [110, 111, 115, 99, 114, 105, 112, 116], [102, 114, 97, 109, 101], [102, 114, 97, 109, 101, 115, 101, 116]]
def neverB (s : List UInt8) : Bool := decide (s ∈ nevers) || rawB s
def elemOk (s : List UInt8) : Bool := wordB s && !neverB s
def schemeOk (s : List UInt8) : Bool := wordB s && (!decide (s = [106, 97, 118, 97, 115, 99, 114, 105, 112, 116]) && (!decide (s = [100, 97, 116, 97]) && !decide (s = [118, 98, 115, 99, 114, 105, 112, 116])))
def listB (f : List UInt8 → Bool) (l : List (List UInt8)) : Bool := risesB l && l.all f && decide (l.length ≤ 64)
def sizesB (p : Pol) : Bool := decide (1 ≤ p.ep ∧ p.ep ≤ 1000000 ∧ 1 ≤ p.dp ∧ p.dp ≤ 64 ∧ 1 ≤ p.nd ∧ p.nd ≤ 2000 ∧ 1 ≤ p.by' ∧ p.by' ≤ 16384)
def pliB (l : List (List UInt8)) : Bool := !decide ([108, 105] ∈ l) || (decide ([117, 108] ∈ l) && decide ([111, 108] ∈ l))
def rightB (p : Pol) : Bool := sizesB p && (listB elemOk p.el && (listB (attrOk p.el) p.at' && (listB schemeOk p.sc && (listB wordB p.cl && (listB wordB p.pr && pliB p.el)))))
theorem cutDot_none {s : List UInt8} (h : (46 : UInt8) ∉ s) : cutDot s = none := by
 induction s with
 | nil => rfl
 | cons c r ih =>
  rw [List.mem_cons, not_or] at h
  rw [cutDot, if_neg (fun e => h.1 e.symm), ih h.2]; rfl
theorem cutDot_some {a b : List UInt8} (h : (46 : UInt8) ∉ a) : cutDot (a ++ 46 :: b) = some (a, b) := by
 induction a with
 | nil => rfl
 | cons c r ih =>
  rw [List.mem_cons, not_or] at h
  rw [List.cons_append, cutDot, if_neg (fun e => h.1 e.symm), ih h.2]; rfl
theorem cutDot_len : ∀ (s : List UInt8) (x : List UInt8 × List UInt8), cutDot s = some x → x.1.length + 1 + x.2.length = s.length
 | [], x, h => by simp [cutDot] at h
 | c :: r, x, h => by
  unfold cutDot at h
  split at h
  ·cases h; simp; omega
  ·rw [Option.map_eq_some_iff] at h
   obtain ⟨y, hy, rfl⟩ := h
   have := cutDot_len r y hy
   simp only [List.length_cons]; omega
theorem in45 (c : UInt8) : decide (c ∈ [(45 : UInt8)]) = decide (c.toNat = 45) := by
 rw [decide_eq_decide, List.mem_singleton]
 constructor
 ·intro h; rw [h]; rfl
 ·intro h; exact UInt8.toNat_inj.1 h
set_option maxRecDepth 100000 in
theorem word_ok (s : List UInt8) (hs : s.length ≤ 4611686018427387904) : PureC Tryz.prog 53 [.d (.str s)] (.d (.bool (wordB s))) := by
 refine pure_okT Tryz.wf Tryz.tab_ok Tryz.func53 (by decide +kernel) rfl rfl rfl rfl ?_
 refine loopT Tryz.wf Tryz.tab_ok (fun n s' σ => ∃ k : Nat, n = s.length - k ∧ k ≤ s.length ∧ upto s [45] k = true ∧ s' = [(0, .d (.str s)), (6, .d (.int .i64 s.length)), (7, .d (.int .i64 k))] ∧ σ = ⟨0, []⟩)
  ⟨0, rfl, Nat.zero_le _, rfl, rfl, rfl⟩ (Mv.of [] rfl rfl rfl trivial ⟨rfl, rfl, rfl, trivial⟩) ?_
 rintro _ _ _ ⟨k, rfl, hk, hI, rfl, rfl⟩
 refine ⟨fun h => ?_, fun h => ?_⟩
 ·have hlt : k < s.length := by have := of_decide_eq_true h; omega
  clear h
  have hst := upto_step s [45] k hlt
  rw [hI, Bool.true_and, ← getD_at s k hlt, in45] at hst
  have no : upto s [45] (k + 1) = false → wordB s = false := fun h => by
   unfold wordB; rw [upto_bad s [45] (k + 1) hlt h]; rfl
  unfold letB digB at hst
  repeat' (first | refine wO ?_ | (refine ⟨fun h => ?_, fun h => ?_⟩ <;> (try simp only [wS, List.length_cons, List.length_nil] at h) <;> (try exact wX h)) | refine wP ?_ | fail)
  all_goals first
   | exact ⟨_, _, _, ⟨k + 1, rfl, hlt, by rw [hst]; (rw [Bool.eq_iff_iff]; simp only [Bool.or_eq_true, Bool.and_eq_true, Bool.not_eq_true', decide_eq_true_eq, decide_eq_false_iff_not, iff_true, iff_false, true_iff, false_iff, not_and, Bool.false_eq_true, reduceCtorEq, and_false, false_and, and_true, true_and, not_false_eq_true, false_or, or_false] <;> omega), rfl, rfl⟩, by omega, Mv.of [] rfl rfl rfl trivial ⟨rfl, rfl, rfl, trivial⟩⟩
   | exact ⟨_, _, fin_out rfl, congrArg (fun b => AV.d (.bool b)) (no (by rw [hst]; (rw [Bool.eq_iff_iff]; simp only [Bool.or_eq_true, Bool.and_eq_true, Bool.not_eq_true', decide_eq_true_eq, decide_eq_false_iff_not, iff_true, iff_false, true_iff, false_iff, not_and, Bool.false_eq_true, reduceCtorEq, and_false, false_and, and_true, true_and, not_false_eq_true, false_or, or_false] <;> omega))).symm⟩
 ·have hk' : k = s.length := by have := of_decide_eq_false h; omega
  subst hk'
  have he := upto_end s [45]
  rw [hI, Bool.true_and] at he
  repeat' (first | refine wO ?_ | (refine ⟨fun h => ?_, fun h => ?_⟩ <;> (try simp only [wS, List.length_cons, List.length_nil] at h) <;> (try exact wX h)) | refine wP ?_ | fail)
  all_goals exact ⟨_, _, fin_out rfl, congrArg (fun b => AV.d (.bool b)) (by unfold wordB; rw [← he]; ((                      try clear no; skip); first | rfl | (subst_vars; rfl) | (simp_all; done) | (simp_all; omega) | (simp_all; grind)))⟩
def listU (f : List UInt8 → Bool) (l : List (List UInt8)) (k : Nat) : Bool := risesB (l.take k) && (l.take k).all f
theorem listU_step (f : List UInt8 → Bool) (l : List (List UInt8)) (k : Nat) (h : k < l.length) : listU f l (k + 1) = (listU f l k && ((decide (k = 0) || Op.bytesLess (l[k - 1]'(by omega)) l[k]) && f l[k])) := by
 unfold listU
 rw [risesB_step l k h, all_step f l k h]
 generalize risesB (l.take k) = a
 generalize (l.take k).all f = b
 generalize f l[k] = d
 generalize (decide (k = 0) || Op.bytesLess (l[k - 1]'(by omega)) l[k]) = e
 cases a <;> cases b <;> cases d <;> cases e <;> rfl
theorem listU_bad (f : List UInt8 → Bool) (l : List (List UInt8)) (k : Nat) (h : listU f l k = false) : listB f l = false := by
 unfold listU at h
 unfold listB
 rw [Bool.and_eq_false_iff] at h
 rcases h with h | h
 ·have := risesB_pre _ (l.drop k) h
  rw [List.take_append_drop] at this
  rw [this]; rfl
 ·rw [all_pre f l k h]; simp
set_option maxRecDepth 100000 in
theorem list_gen (σ0 : Store) (cap : List AV) (k0 : FuncId) (f : List UInt8 → Bool) (l : List (List UInt8)) (hl : l.length ≤ 4611686018427387903)
  (hmv : ∀ x y : St, vrelS (phi σ0.n []) x y → Mv σ0.n x σ0 y σ0) (hcap : vrelL (phi σ0.n []) cap cap)
  (hf : ∀ s ∈ l, CallsAbs Tryz.prog k0 ([.d (.str s)] ++ cap) σ0 fun r σ' => r = .d (.bool (f s)) ∧ σ' = σ0) :
  CallsAbs Tryz.prog 51 [.d (.sl (strsD l)), .fn (.func k0) [] cap] σ0 fun r σ' => r = .d (.bool (listB f l)) ∧ σ' = σ0 := by
 refine fn_okT Tryz.wf Tryz.tab_ok Tryz.func51 (by decide +kernel) rfl rfl ?_
 have hn := strsD_len l
 refine loopT Tryz.wf Tryz.tab_ok (fun n s' σ => ∃ k : Nat, n = l.length - k ∧ k ≤ l.length ∧ listU f l k = true ∧ s' = [(0, .d (.sl (strsD l))), (1, .fn (.func k0) [] cap), (7, .d (.sl (strsD l))), (8, .d (.int .i64 l.length)), (9, .d (.int .i64 k))] ∧ σ = σ0)
  ⟨0, rfl, Nat.zero_le _, rfl, rfl, rfl⟩ (hmv _ _ ⟨rfl, ⟨rfl, trivial, hcap⟩, rfl, congrArg (fun n : Nat => D.int .i64 n) hn.symm, rfl, trivial⟩) ?_
 rintro _ _ _ ⟨k, rfl, hk, hI, rfl, rfl⟩
 refine ⟨fun h => ?_, fun h => ?_⟩
 ·have hlt : k < l.length := by have := of_decide_eq_true h; omega
  clear h
  have hg := strsD_get l k hlt
  have hg2 := strsD_getm l k hlt
  have hd1 := hf _ (List.getElem_mem hlt)
  have hst := listU_step f l k hlt
  rw [hI, Bool.true_and] at hst
  have no := listU_bad f l (k + 1)
  repeat' (first | refine CallsAbs.use1 hd1 ?_ | refine wO ?_ | (refine ⟨fun h => ?_, fun h => ?_⟩ <;> (try simp only [wS, List.length_cons, List.length_nil] at h) <;> (try exact wX h)) | refine wP ?_ | fail)
  all_goals first
   | exact ⟨_, _, _, ⟨k + 1, rfl, hlt, by rw [hst]; ((try clear hd1;                  try clear hl;  try clear hmv; try clear hf; try clear no; skip); first | rfl | (subst_vars; rfl) | (simp_all; done) | (simp_all; omega) | (simp_all; grind)), rfl, rfl⟩, by omega, hmv _ _ ⟨rfl, ⟨rfl, trivial, hcap⟩, rfl, rfl, rfl, trivial⟩⟩
   | exact ⟨_, _, FinMove.refl _ _ _, congrArg (fun b => AV.d (.bool b)) (no (by rw [hst]; ((try clear hd1;                  try clear hl;  try clear hmv; try clear hf; try clear no; skip); first | rfl | (subst_vars; rfl) | (simp_all; done) | (simp_all; omega) | (simp_all; grind)))).symm, rfl⟩
 ·have hk' : k = l.length := by have := of_decide_eq_false h; omega
  subst hk'
  unfold listU at hI
  rw [List.take_length] at hI
  repeat' (first | refine CallsAbs.use1 hd1 ?_ | refine wO ?_ | (refine ⟨fun h => ?_, fun h => ?_⟩ <;> (try simp only [wS, List.length_cons, List.length_nil] at h) <;> (try exact wX h)) | refine wP ?_ | fail)
  exact ⟨_, _, FinMove.refl _ _ _, congrArg (fun b => AV.d (.bool b)) (by unfold listB; rw [hI, hn]; ((try clear hd1;                  try clear hl;  try clear hmv; try clear hf; try clear no; skip); first | rfl | (subst_vars; rfl) | (simp_all; done) | (simp_all; omega) | (simp_all; grind))), rfl⟩
theorem list_ok (k0 : FuncId) (f : List UInt8 → Bool) (l : List (List UInt8)) (hl : l.length ≤ 4611686018427387903) (hf : ∀ s ∈ l, PureC Tryz.prog k0 [.d (.str s)] (.d (.bool (f s)))) :
  PureC Tryz.prog 51 [.d (.sl (strsD l)), .fn (.func k0) [] []] (.d (.bool (listB f l))) := by
 refine PureC.of rfl rfl ((list_gen ⟨0, []⟩ [] k0 f l hl (fun x y h => Mv.of [] rfl rfl rfl trivial h) trivial (fun s hs => hf s hs _)).mono ?_)
 rintro _ _ ⟨rfl, rfl⟩
 exact ⟨rfl, rfl⟩
set_option maxRecDepth 100000 in
theorem never_ok (s : List UInt8) : PureC Tryz.prog 54 [.d (.str s)] (.d (.bool (neverB s))) := by
 have hc1 := tRaw_ok s
 rw [rawV_fst] at hc1
 refine pure_okT Tryz.wf Tryz.tab_ok Tryz.func54 (by decide +kernel) rfl rfl rfl rfl ?_
 repeat' (first | refine PureC.use hc1 ?_ | refine wO ?_ | (refine ⟨fun h => ?_, fun h => ?_⟩ <;> (try simp only [wS, List.length_cons, List.length_nil] at h) <;> (try exact wX h)) | refine wP ?_ | fail)
 all_goals exact ⟨_, _, fin_out rfl, congrArg (fun b => AV.d (.bool b)) (by unfold neverB; simp_all [nevers])⟩
set_option maxRecDepth 100000 in
theorem attr_ok (s : List UInt8) (hs : s.length ≤ 4611686018427387904) : PureC Tryz.prog 57 [.d (.str s)] (.d (.bool (attrWordB s))) := by
 have hc1 := word_ok s hs
 have hc2 := HasPrefix_ok s [111, 110]
 refine pure_okT Tryz.wf Tryz.tab_ok Tryz.func57 (by decide +kernel) rfl rfl rfl rfl ?_
 repeat' (first | refine PureC.use hc1 ?_ | refine PureC.use hc2 ?_ | refine wO ?_ | (refine ⟨fun h => ?_, fun h => ?_⟩ <;> (try simp only [wS, List.length_cons, List.length_nil] at h) <;> (try exact wX h)) | refine wP ?_ | fail)
 all_goals exact ⟨_, _, fin_out rfl, congrArg (fun b => AV.d (.bool b)) (by unfold attrWordB; ((          try clear hc1; try clear hc2;            skip); first | rfl | (subst_vars; rfl) | (simp_all; done) | (simp_all; omega) | (simp_all; grind)))⟩
set_option maxRecDepth 100000 in
theorem right2_ok (s : List UInt8) (hs : s.length ≤ 4611686018427387904) : PureC Tryz.prog 52 [.d (.str s)] (.d (.bool (elemOk s))) := by
 have hc1 := word_ok s hs
 have hc2 := never_ok s
 refine pure_okT Tryz.wf Tryz.tab_ok Tryz.func52 (by decide +kernel) rfl rfl rfl rfl ?_
 repeat' (first | refine PureC.use hc1 ?_ | refine PureC.use hc2 ?_ | refine wO ?_ | (refine ⟨fun h => ?_, fun h => ?_⟩ <;> (try simp only [wS, List.length_cons, List.length_nil] at h) <;> (try exact wX h)) | refine wP ?_ | fail)
 all_goals exact ⟨_, _, fin_out rfl, congrArg (fun b => AV.d (.bool b)) (by unfold elemOk; ((          try clear hc1; try clear hc2;            skip); first | rfl | (subst_vars; rfl) | (simp_all; done) | (simp_all; omega) | (simp_all; grind)))⟩
set_option maxRecDepth 100000 in
theorem right4_ok (s : List UInt8) (hs : s.length ≤ 4611686018427387904) : PureC Tryz.prog 58 [.d (.str s)] (.d (.bool (schemeOk s))) := by
 have hc1 := word_ok s hs
 refine pure_okT Tryz.wf Tryz.tab_ok Tryz.func58 (by decide +kernel) rfl rfl rfl rfl ?_
 repeat' (first | refine PureC.use hc1 ?_ | refine wO ?_ | (refine ⟨fun h => ?_, fun h => ?_⟩ <;> (try simp only [wS, List.length_cons, List.length_nil] at h) <;> (try exact wX h)) | refine wP ?_ | fail)
 all_goals exact ⟨_, _, fin_out rfl, congrArg (fun b => AV.d (.bool b)) (by unfold schemeOk; ((          try clear hc1;             skip); first | rfl | (subst_vars; rfl) | (simp_all; done) | (simp_all; omega) | (simp_all; grind)))⟩
set_option maxRecDepth 100000 in
theorem lIndex1_ok (s : List UInt8) (c : UInt8) : PureC Tryz.prog 145 [.d (.str s), .d (.str [c])] (.d (.int .i64 (idxB c s))) := by
 have hc1 := lIndexByte_ok s c
 refine pure_okT Tryz.wf Tryz.tab_ok Tryz.func145 (by decide +kernel) rfl rfl rfl rfl ?_
 repeat' (first | refine PureC.use hc1 ?_ | refine wO ?_ | (refine ⟨fun h => ?_, fun h => ?_⟩ <;> (try simp only [wS, List.length_cons, List.length_nil] at h) <;> (try exact wX h)) | refine wP ?_ | fail)
 ·rename_i h
  refine ⟨_, _, fin_out rfl, ?_⟩
  subst h
  exact congrArg (fun n => AV.d (.int .i64 n)) (idxB_some (a := []) (b := []) (by simp)).symm
 ·exact ⟨_, _, fin_out rfl, rfl⟩
def cutV (s : List UInt8) : AV := match cutDot s with
 | none => .tup [.d (.str s), .d (.str []), .d (.bool false)]
 | some (a, b) => .tup [.d (.str a), .d (.str b), .d (.bool true)]
theorem cutV_pure (s : List UInt8) : (cutV s).pure = true := by unfold cutV; split <;> rfl
set_option maxRecDepth 100000 in
theorem lCut_ok (s : List UInt8) (hs : s.length ≤ 4611686018427387904) : PureC Tryz.prog 97 [.d (.str s), .d (.str [46])] (cutV s) := by
 have hc1 := lIndex1_ok s 46
 refine pure_okT Tryz.wf Tryz.tab_ok Tryz.func97 (by decide +kernel) rfl rfl rfl (cutV_pure s) ?_
 by_cases hm : (46 : UInt8) ∈ s
 ·obtain ⟨a, b, rfl, ha⟩ := split_first hm
  rw [idxB_some ha] at hc1
  have e : cutV (a ++ 46 :: b) = .tup [.d (.str a), .d (.str b), .d (.bool true)] := by unfold cutV; rw [cutDot_some ha]
  rw [e]
  simp only [List.length_append, List.length_cons] at hs
  refine wR (k := ?_)
  refine drawnT Tryz.wf Tryz.tab_ok Tryz.mixed (by decide +kernel) ?_; repeat' (first | refine qO ?_ | refine qP ?_ | fail)
  refine ⟨_, _, fin_out rfl, ?_⟩
  show AV.tup [.d (.str (((a ++ 46 :: b).take ((a.length : Nat) : Int).toNat).drop (0 : Int).toNat)), .d (.str (((a ++ 46 :: b).take (((a ++ 46 :: b).length : Nat) : Int).toNat).drop ((a.length : Int) + ((([46] : List UInt8).length : Nat) : Int)).toNat)), .d (.bool true)] = _
  have e2 : ((a.length : Int) + ((([46] : List UInt8).length : Nat) : Int)).toNat = a.length + 1 := by simp only [List.length_cons, List.length_nil]; omega
  rw [e2, Int.toNat_natCast, Int.toNat_natCast, List.take_length]
  simp
 ·rw [idxB_none hm] at hc1
  have e : cutV s = .tup [.d (.str s), .d (.str []), .d (.bool false)] := by unfold cutV; rw [cutDot_none hm]
  rw [e]
  refine wR (k := ?_)
  exact ⟨_, _, fin_out rfl, rfl⟩
set_option maxRecDepth 100000 in
theorem Cut_ok (s : List UInt8) (hs : s.length ≤ 4611686018427387904) : PureC Tryz.prog 56 [.d (.str s), .d (.str [46])] (cutV s) := by
 have hc1 := lCut_ok s hs
 refine pure_okT Tryz.wf Tryz.tab_ok Tryz.func56 (by decide +kernel) rfl rfl rfl (cutV_pure s) ?_
 refine PureC.use hc1 ?_
 unfold cutV
 cases cutDot s with
 | none => exact ⟨_, _, fin_out rfl, rfl⟩
 | some x => exact ⟨_, _, fin_out rfl, rfl⟩
def boxO (p : Pol) : Ob := .rows (9, 24) [(polD p).map .d]
theorem box_pure (p : Pol) : ∀ row ∈ [(polD p).map AV.d], pureL row = true := fun row h => by rw [List.mem_singleton.1 h]; rfl
def hasO : Ob := .rows (1, 36) [[.fn (.func 49) [] [.ref 0 0 0]]]
def hasS (p : Pol) : Store := ⟨2, [(1, hasO), (0, boxO p)]⟩
set_option maxRecDepth 100000 in
theorem right1_ok (p : Pol) (s : List UInt8) (hp : Fits p) : CallsAbs Tryz.prog 49 [.d (.str s), .ref 0 0 0] (hasS p) fun r σ' => r = .d (.bool (decide (s ∈ p.el))) ∧ σ' = hasS p := by
 have hc1 := Contains_ok p.el s (by have := hp.el.1; omega)
 refine fn_okT Tryz.wf Tryz.tab_ok Tryz.func49 (by decide +kernel) rfl rfl ?_
 refine wR (k := ?_)
 exact ⟨_, _, FinMove.refl _ _ _, rfl, rfl⟩
set_option maxRecDepth 100000 in
theorem right3_ok (p : Pol) (s : List UInt8) (hp : Fits p) (hs : s.length ≤ 1000000) : CallsAbs Tryz.prog 55 [.d (.str s), .ref 1 0 0] (hasS p) fun r σ' => r = .d (.bool (attrOk p.el s)) ∧ σ' = hasS p := by
 have hc1 := Cut_ok s (by omega)
 refine fn_okT Tryz.wf Tryz.tab_ok Tryz.func55 (by decide +kernel) rfl rfl ?_
 unfold cutV at hc1
 have hlen := cutDot_len s
 unfold attrOk
 cases hcd : cutDot s with
 | none =>
  rw [hcd] at hc1
  repeat' (first | refine PureC.use hc1 ?_ | refine PureC.use hc2 ?_ | refine CallsAbs.use1 hd1 ?_ | refine wO ?_ | (refine ⟨fun h => ?_, fun h => ?_⟩ <;> (try simp only [wS, List.length_cons, List.length_nil] at h) <;> (try exact wX h)) | refine wP ?_ | fail)
  exact ⟨_, _, FinMove.refl _ _ _, rfl, rfl⟩
 | some x =>
  rw [hcd] at hc1 hlen
  obtain ⟨e, a⟩ := x
  have hd1 := right1_ok p e hp
  have hc2 := attr_ok a (by have := hlen _ rfl; dsimp only at this; omega)
  repeat' (first | refine PureC.use hc1 ?_ | refine PureC.use hc2 ?_ | refine CallsAbs.use1 hd1 ?_ | refine wO ?_ | (refine ⟨fun h => ?_, fun h => ?_⟩ <;> (try simp only [wS, List.length_cons, List.length_nil] at h) <;> (try exact wX h)) | refine wP ?_ | fail)
  all_goals exact ⟨_, _, FinMove.refl _ _ _, congrArg (fun b => AV.d (.bool b)) (by ((try clear hd1;          try clear hc1; try clear hc2;        try clear hp;    skip); first | rfl | (subst_vars; rfl) | (simp_all; done) | (simp_all; omega) | (simp_all; grind))), rfl⟩
set_option maxRecDepth 100000 in
theorem has_any (p : Pol) (s : List UInt8) (hp : Fits p) (σ : Store) (h0 : σ.get 0 = boxO p) (hn : Nat.ble 1 σ.n = true) : CallsAbs Tryz.prog 49 [.d (.str s), .ref 0 0 0] σ fun r σ' => r = .d (.bool (decide (s ∈ p.el))) ∧ σ' = ⟨σ.n, (0, boxO p) :: σ.objs⟩ := by
 have hc1 := Contains_ok p.el s (by have := hp.el.1; omega)
 have base : CallsAbs Tryz.prog 49 [.d (.str s), .ref 0 0 0] ⟨1, [(0, boxO p)]⟩ fun r σ' => r = .d (.bool (decide (s ∈ p.el))) ∧ σ' = ⟨1, [(0, boxO p)]⟩ := by
  refine fn_okT Tryz.wf Tryz.tab_ok Tryz.func49 (by decide +kernel) rfl rfl ?_
  refine wR (k := ?_)
  exact ⟨_, _, FinMove.refl _ _ _, rfl, rfl⟩
 have hb := box_pure p
 obtain ⟨n, objs⟩ := σ
 cases n with
 | zero => cases hn
 | succ n =>
 refine CallsAbs.frame base [.old 0] ⟨Nat.zero_le _, rfl, by simp [goodr, idx], ⟨?_, trivial⟩⟩ ⟨rfl, ⟨rfl, rfl, rfl⟩, trivial⟩ ?_
 ·show orel _ (boxO p) (Store.get ⟨n + 1, objs⟩ 0)
  rw [h0]
  exact ⟨rfl, .inl ⟨rfl, hb⟩⟩
 ·rintro _ _ ⟨rfl, rfl⟩
  exact ⟨.d (.bool (decide (s ∈ p.el))), [(0, boxO p)], ⟨⟨rfl, .inl ⟨rfl, hb⟩⟩, trivial⟩, rfl, rfl, rfl, rfl⟩
set_option maxRecDepth 100000 in
theorem Right_ok (p : Pol) (hp : Fits p) : PureC Tryz.prog 22 [polA p] (.d (.bool (rightB p))) := by
 have hc1 := list_ok 52 elemOk p.el (by have := hp.el.1; omega) (fun s hs => right2_ok s (by have := hp.el.2 s hs; omega))
 have hc2 := list_ok 58 schemeOk p.sc (by have := hp.sc.1; omega) (fun s hs => right4_ok s (by have := hp.sc.2 s hs; omega))
 have hc3 := list_ok 53 wordB p.cl (by have := hp.cl.1; omega) (fun s hs => word_ok s (by have := hp.cl.2 s hs; omega))
 have hc4 := list_ok 53 wordB p.pr (by have := hp.pr.1; omega) (fun s hs => word_ok s (by have := hp.pr.2 s hs; omega))
 have hl := list_gen (hasS p) [.ref 1 0 0] 55 (attrOk p.el) p.at' (by have := hp.at'.1; omega) (fun x y h => Mv.of [] rfl rfl rfl ⟨⟨rfl, .inr ⟨⟨⟨rfl, trivial, ⟨rfl, rfl, rfl⟩, trivial⟩, trivial⟩, trivial⟩⟩, ⟨rfl, .inl ⟨rfl, fun row h => by rw [List.mem_singleton.1 h]; rfl⟩⟩, trivial⟩ h) ⟨⟨rfl, rfl, rfl⟩, trivial⟩ (fun s hs => right3_ok p s hp (hp.at'.2 s hs))
 refine pure_okT Tryz.wf Tryz.tab_ok Tryz.func22 (by decide +kernel) rfl rfl rfl rfl ?_
 have he1 := has_any p [108, 105] hp
 have he2 := has_any p [117, 108] hp
 have he3 := has_any p [111, 108] hp
 have no : sizesB p = false → AV.d (.bool false) = AV.d (.bool (rightB p)) := fun h => by unfold rightB; rw [h]; rfl
 unfold sizesB at no
 repeat' (first | refine PureC.use hc1 ?_ | refine PureC.use hc2 ?_ | refine PureC.use hc3 ?_ | refine PureC.use hc4 ?_ | refine CallsAbs.use1 (he1 _ (by rfl) (by rfl)) ?_ | refine CallsAbs.use1 (he2 _ (by rfl) (by rfl)) ?_ | refine CallsAbs.use1 (he3 _ (by rfl) (by rfl)) ?_ | refine wO ?_ | (refine ⟨fun h => ?_, fun h => ?_⟩ <;> (try simp only [wS, List.length_cons, List.length_nil] at h) <;> (try exact wX h)) | refine wP ?_ | fail)
 all_goals first
  | exact ⟨_, _, fin_out rfl, no (by rw [decide_eq_false_iff_not]; omega)⟩
  | skip
 have hsz : sizesB p = true := by unfold sizesB; rw [decide_eq_true_eq]; omega
 refine CallsAbs.frame hl [.old 0, .old 3] ⟨Nat.zero_le _, rfl, rfl, ⟨⟨rfl, .inr ⟨⟨⟨rfl, trivial, ⟨rfl, rfl, rfl⟩, trivial⟩, trivial⟩, trivial⟩⟩, ⟨rfl, .inl ⟨rfl, box_pure p⟩⟩, trivial⟩⟩ ⟨rfl, ⟨rfl, trivial, ⟨⟨rfl, rfl, rfl⟩, trivial⟩⟩, trivial⟩ ?_
 rintro _ _ ⟨rfl, rfl⟩
 refine ⟨.d (.bool (listB (attrOk p.el) p.at')), [(3, hasO), (0, boxO p)], ⟨⟨rfl, .inr ⟨⟨⟨rfl, trivial, ⟨rfl, rfl, rfl⟩, trivial⟩, trivial⟩, trivial⟩⟩, ⟨rfl, .inl ⟨rfl, box_pure p⟩⟩, trivial⟩, rfl, rfl, ?_⟩
 clear no
 have hR : rightB p = (listB elemOk p.el && (listB (attrOk p.el) p.at' && (listB schemeOk p.sc && (listB wordB p.cl && (listB wordB p.pr && (!decide ([108, 105] ∈ p.el) || (decide ([117, 108] ∈ p.el) && decide ([111, 108] ∈ p.el)))))))) := by unfold rightB; rw [hsz]; rfl
 rw [hR]
 clear hR hsz
 generalize listB elemOk p.el = b1 at *
 generalize listB (attrOk p.el) p.at' = b2 at *
 generalize listB schemeOk p.sc = b3 at *
 generalize listB wordB p.cl = b4 at *
 generalize listB wordB p.pr = b5 at *
 generalize decide ([108, 105] ∈ p.el) = b6 at *
 generalize decide ([117, 108] ∈ p.el) = b7 at *
 generalize decide ([111, 108] ∈ p.el) = b8 at *
 repeat' (first | refine PureC.use hc1 ?_ | refine PureC.use hc2 ?_ | refine PureC.use hc3 ?_ | refine PureC.use hc4 ?_ | refine CallsAbs.use1 (he1 _ (by rfl) (by rfl)) ?_ | refine CallsAbs.use1 (he2 _ (by rfl) (by rfl)) ?_ | refine CallsAbs.use1 (he3 _ (by rfl) (by rfl)) ?_ | refine wO ?_ | (refine ⟨fun h => ?_, fun h => ?_⟩ <;> (try simp only [wS, List.length_cons, List.length_nil] at h) <;> (try exact wX h)) | refine wP ?_ | fail)
 all_goals exact ⟨_, _, fin_out rfl, congrArg (fun b => AV.d (.bool b)) (by ((       try clear he1; try clear he2; try clear he3; try clear hc1; try clear hc2; try clear hc3; try clear hc4;     try clear hl; try clear hp;   try clear no; skip); first | rfl | (subst_vars; rfl) | (simp_all; done) | (simp_all; omega) | (simp_all; grind)))⟩
def sp (c : UInt8) : Bool := decide (c.toNat ≤ 32)
def trimL (s : List UInt8) : List UInt8 := s.dropWhile sp
def trimR (s : List UInt8) : List UInt8 := (s.reverse.dropWhile sp).reverse
def kept (c : UInt8) : Bool := !(decide (c.toNat = 9) || decide (c.toNat = 10) || decide (c.toNat = 13))
def bare (s : List UInt8) : List UInt8 := (trimR (trimL s)).filter kept
theorem trimR_snoc (t : List UInt8) (c : UInt8) : trimR (t ++ [c]) = if sp c then trimR t else t ++ [c] := by
 unfold trimR
 rw [List.reverse_append]
 simp only [List.reverse_cons, List.reverse_nil, List.nil_append, List.singleton_append, List.dropWhile_cons]
 split <;> simp
theorem split_last (t : List UInt8) (h : t ≠ []) : t = t.take (t.length - 1) ++ [t.getD (t.length - 1) 0] := by
 have hl : t.length - 1 < t.length := by have := List.length_pos_iff.2 h; omega
 have := List.take_succ_eq_append_getElem hl
 rw [List.getD_eq_getElem?_getD, List.getElem?_eq_getElem hl, Option.getD_some, ← this, List.take_of_length_le (by omega)]
set_option maxRecDepth 10000 in
theorem Bare_ok (s : List UInt8) (hs : s.length ≤ 9223372036854775807) (hs2 : s.length ≤ 140737488355328) : PureC Tryz.prog 187 [.d (.str s)] (.d (.str (bare s))) := by
  refine PureC.of rfl rfl (fn_okTE Tryz.wf Tryz.tab_ok Tryz.func187 (by decide +kernel) rfl rfl ?_)
  refine E.seq (E.of Tryz.wf Tryz.tab_ok ?_)
  refine scopeE ?_
  refine midT Tryz.wf Tryz.tab_ok (fun s' σ => ∃ t : List UInt8, t.length ≤ s.length ∧ t = trimL s ∧ s' = [(0, .d (.str t))] ∧ σ = ⟨0, []⟩) ?_ ?_
  · refine loopT Tryz.wf Tryz.tab_ok (fun n s' σ => ∃ t : List UInt8, n = t.length ∧ t.length ≤ s.length ∧ trimL t = trimL s ∧ s' = [(0, .d (.str t))] ∧ σ = ⟨0, []⟩) ⟨s, rfl, Nat.le_refl _, rfl, rfl, rfl⟩ (Mv.of [] rfl rfl rfl trivial ⟨rfl, trivial⟩) ?_
    rintro _ _ _ ⟨t, rfl, hl, ht, rfl, rfl⟩
    refine ⟨fun h => ?_, fun h => ?_⟩
    · have h' : t ≠ [] := by intro e; subst e; exact absurd h (by decide)
      obtain ⟨c, r, rfl⟩ : ∃ c r, t = c :: r := by cases t with | nil => exact absurd rfl h' | cons c r => exact ⟨c, r, rfl⟩
      refine ⟨⟨by omega, by simp⟩, ⟨fun h2 => ?_, fun h2 => ?_⟩⟩
      · have hsp : sp c = true := by have := of_decide_eq_true h2; simp [sp] at this ⊢; omega
        refine ⟨⟨by omega, by simp; omega, by simp⟩, _, _, _, ⟨r, rfl, by simp at hl; omega, ?_, rfl, rfl⟩, by simp, Mv.of [] rfl rfl rfl trivial ⟨?_, trivial⟩⟩
        · rw [← ht]; simp [trimL, List.dropWhile_cons, hsp]
        · exact congrArg D.str (by simp)
      · have hsp : sp c = false := by have := of_decide_eq_false h2; simp [sp] at this ⊢; omega
        refine ⟨_, _, ⟨c :: r, hl, ?_, rfl, rfl⟩, Mv.of [] rfl rfl rfl trivial ⟨rfl, trivial⟩⟩
        rw [← ht]; simp [trimL, List.dropWhile_cons, hsp]
    · have h' : t = [] := by have : decide (t = []) = true := by simpa using h
                             exact of_decide_eq_true this
      subst h'
      exact ⟨_, _, ⟨[], Nat.zero_le _, ht, rfl, rfl⟩, Mv.of [] rfl rfl rfl trivial ⟨rfl, trivial⟩⟩
  rintro _ _ ⟨t0, hl0, rfl, rfl, rfl⟩
  refine midT Tryz.wf Tryz.tab_ok (fun s' σ => ∃ t : List UInt8, t.length ≤ s.length ∧ t = trimR (trimL s) ∧ s' = [(0, .d (.str t))] ∧ σ = ⟨0, []⟩) ?_ ?_
  · refine loopT Tryz.wf Tryz.tab_ok (fun n s' σ => ∃ t : List UInt8, n = t.length ∧ t.length ≤ s.length ∧ trimR t = trimR (trimL s) ∧ s' = [(0, .d (.str t))] ∧ σ = ⟨0, []⟩) ⟨trimL s, rfl, hl0, rfl, rfl, rfl⟩ (Mv.of [] rfl rfl rfl trivial ⟨rfl, trivial⟩) ?_
    rintro _ _ _ ⟨t, rfl, hl, ht, rfl, rfl⟩
    refine ⟨fun h => ?_, fun h => ?_⟩
    · have h' : t ≠ [] := by intro e; subst e; exact absurd h (by decide)
      have hpos := List.length_pos_iff.2 h'
      have e1 : ((t.length : Int) - 1).toNat = t.length - 1 := by omega
      refine .inl ⟨⟨by omega, by omega⟩, ⟨by omega, by omega⟩, ⟨fun h2 => ?_, fun h2 => ?_⟩⟩
      · have hsp : sp (t.getD (t.length - 1) 0) = true := by have := of_decide_eq_true h2; rw [e1] at this; simp [sp] at this ⊢; omega
        refine .inl ⟨⟨by omega, by omega⟩, ⟨by omega, by omega, by omega⟩, _, _, _, ⟨t.take (t.length - 1), rfl, by simp; omega, ?_, rfl, rfl⟩, by simp; omega, Mv.of [] rfl rfl rfl trivial ⟨?_, trivial⟩⟩
        · have := trimR_snoc (t.take (t.length - 1)) (t.getD (t.length - 1) 0)
          rw [← split_last t h', hsp] at this
          rw [if_pos rfl] at this
          rw [← this]; exact ht
        · exact congrArg D.str (by rw [e1]; rfl)
      · have hsp : sp (t.getD (t.length - 1) 0) = false := by have := of_decide_eq_false h2; rw [e1] at this; simp [sp] at this ⊢; omega
        refine ⟨_, _, ⟨t, hl, ?_, rfl, rfl⟩, Mv.of [] rfl rfl rfl trivial ⟨rfl, trivial⟩⟩
        have := trimR_snoc (t.take (t.length - 1)) (t.getD (t.length - 1) 0)
        rw [← split_last t h', hsp] at this
        rw [← ht, this]; rfl
    · have h' : t = [] := by have : decide (t = []) = true := by simpa using h
                             exact of_decide_eq_true this
      subst h'
      exact ⟨_, _, ⟨[], Nat.zero_le _, ht, rfl, rfl⟩, Mv.of [] rfl rfl rfl trivial ⟨rfl, trivial⟩⟩
  rintro _ _ ⟨t, hl, ht, rfl, rfl⟩
  refine E.of Tryz.wf Tryz.tab_ok ?_
  refine loopT Tryz.wf Tryz.tab_ok (fun n s' σ => ∃ k : Nat, n = t.length - k ∧ k ≤ t.length ∧ s' = [(0, .d (.str t)), (3, .ref 0 0 0), (30, .d (.int .i64 t.length)), (31, .d (.int .i64 k))] ∧ σ = ⟨1, [(0, .bld 75 5 ((t.take k).filter kept))]⟩)
    ⟨0, rfl, Nat.zero_le _, rfl, rfl⟩ (Mv.of [.old 0] rfl rfl rfl ⟨⟨rfl, rfl, rfl⟩, trivial⟩ ⟨rfl, ⟨rfl, rfl, rfl⟩, rfl, rfl, trivial⟩) ?_
  rintro _ _ _ ⟨k, rfl, hk, rfl, rfl⟩
  refine ⟨fun h => ?_, fun h => ?_⟩
  · have hlt : k < t.length := by have := of_decide_eq_true h; omega
    have hg : t.getD ((k : Nat) : Int).toNat 0 = t[k] := by rw [Int.toNat_natCast, List.getD_eq_getElem?_getD, List.getElem?_eq_getElem hlt, Option.getD_some]
    have step : ∀ b, kept t[k] = b → (t.take (k + 1)).filter kept = (t.take k).filter kept ++ (if b then [t[k]] else []) := by
      intro b hb
      rw [List.take_succ_eq_append_getElem hlt, List.filter_append]
      cases b <;> simp [hb]
    have skip : ∀ {s0 : St} {σ0 : Store}, kept t[k] = false → True := fun _ => trivial
    refine ⟨⟨by omega, by omega⟩, ⟨fun h9 => ?_, fun h9 => ?_⟩⟩
    · have hkp : kept t[k] = false := by have := of_decide_eq_true h9; rw [hg] at this; simp [kept]; omega
      refine .inl ⟨⟨by omega, by omega⟩, _, _, _, ⟨k + 1, rfl, hlt, rfl, rfl⟩, by omega, Mv.of [.old 0] rfl rfl rfl ⟨⟨rfl, rfl, ?_⟩, trivial⟩ ⟨rfl, ⟨rfl, rfl, rfl⟩, rfl, rfl, trivial⟩⟩
      rw [step _ hkp]; simp
    · refine ⟨fun h10 => ?_, fun h10 => ?_⟩
      · have hkp : kept t[k] = false := by have := of_decide_eq_true h10; rw [hg] at this; simp [kept]; omega
        refine .inl ⟨⟨by omega, by omega⟩, _, _, _, ⟨k + 1, rfl, hlt, rfl, rfl⟩, by omega, Mv.of [.old 0] rfl rfl rfl ⟨⟨rfl, rfl, ?_⟩, trivial⟩ ⟨rfl, ⟨rfl, rfl, rfl⟩, rfl, rfl, trivial⟩⟩
        rw [step _ hkp]; simp
      · refine ⟨fun h13 => ?_, fun h13 => ?_⟩
        · have hkp : kept t[k] = false := by have := of_decide_eq_true h13; rw [hg] at this; simp [kept]; omega
          refine .inl ⟨⟨by omega, by omega⟩, _, _, _, ⟨k + 1, rfl, hlt, rfl, rfl⟩, by omega, Mv.of [.old 0] rfl rfl rfl ⟨⟨rfl, rfl, ?_⟩, trivial⟩ ⟨rfl, ⟨rfl, rfl, rfl⟩, rfl, rfl, trivial⟩⟩
          rw [step _ hkp]; simp
        · have hkp : kept t[k] = true := by
            have h1 := of_decide_eq_false h9; have h2 := of_decide_eq_false h10; have h3 := of_decide_eq_false h13
            rw [hg] at h1 h2 h3; simp [kept]; omega
          have hlen : ((t.take k).filter kept).length ≤ k := Nat.le_trans (List.length_filter_le _ _) (by simp; omega)
          refine ⟨⟨by omega, by omega⟩, CallsAbs.frame (WriteByte_ok ((t.take k).filter kept) (t.getD ((k : Nat) : Int).toNat 0) (by omega)) [.old 0] ⟨Nat.zero_le _, rfl, rfl, ⟨⟨rfl, rfl, rfl⟩, trivial⟩⟩ ⟨⟨rfl, rfl, rfl⟩, rfl, trivial⟩ ?_⟩
          rintro _ _ ⟨rfl, rfl⟩
          refine ⟨.nili, [(0, .bld 75 5 ((t.take (k + 1)).filter kept))], ⟨⟨rfl, rfl, ?_⟩, trivial⟩, rfl, trivial, ?_⟩
          · rw [step _ hkp, hg]; rfl
          · exact .inl ⟨⟨by omega, by omega⟩, _, _, _, ⟨k + 1, rfl, hlt, rfl, rfl⟩, by omega, Mv.of [.old 0] rfl rfl rfl ⟨⟨rfl, rfl, rfl⟩, trivial⟩ ⟨rfl, ⟨rfl, rfl, rfl⟩, rfl, rfl, trivial⟩⟩
  · have hk' : k = t.length := by have := of_decide_eq_false h; omega
    subst hk'
    rw [List.take_length]
    have hlen : (t.filter kept).length ≤ t.length := List.length_filter_le _ _
    refine CallsAbs.frame (String_ok (t.filter kept) (by omega)) [.old 0] ⟨Nat.zero_le _, rfl, rfl, ⟨⟨rfl, rfl, rfl⟩, trivial⟩⟩ ⟨⟨rfl, rfl, rfl⟩, trivial⟩ ?_
    rintro _ _ ⟨rfl, rfl⟩
    refine ⟨.d (.str (t.filter kept)), [(0, .dead)], ⟨trivial, trivial⟩, rfl, rfl, ?_⟩
    refine ⟨.d (.str (bare s)), ⟨0, []⟩, fin_mv [] rfl rfl rfl trivial ?_, rfl, rfl⟩
    exact congrArg D.str (by rw [bare, ← ht])
def letter (c : UInt8) : Bool := decide (97 ≤ c.toNat) && decide (c.toNat ≤ 122)
def tailc (c : UInt8) : Bool := (decide (48 ≤ c.toNat) && decide (c.toNat ≤ 57)) || decide (c.toNat = 43) || decide (c.toNat = 45) || decide (c.toNat = 46)
def scan (acc : List UInt8) : List UInt8 → Option (List UInt8)
 | [] => none
 | c :: r => if letter c then scan (acc ++ [c]) r else if acc = [] then none else if c.toNat = 58 then some acc else if tailc c then scan (acc ++ [c]) r else none
def schemeO (s : List UInt8) : Option (List UInt8) := scan [] (lower (bare s))
def schemeS (s : List UInt8) : List UInt8 := (schemeO s).getD []
def schemeB (s : List UInt8) : Bool := (schemeO s).isSome
theorem bare_len (s : List UInt8) : (bare s).length ≤ s.length := by
 have h1 : (trimL s).length ≤ s.length := (List.dropWhile_suffix _).length_le
 have h2 : (trimR (trimL s)).length ≤ (trimL s).length := by
  unfold trimR
  rw [List.length_reverse]
  exact Nat.le_trans (List.dropWhile_suffix _).length_le (by simp)
 exact Nat.le_trans (List.length_filter_le _ _) (Nat.le_trans h2 h1)
theorem lower_len (s : List UInt8) : (lower s).length = s.length := by simp [lower]
theorem scan_at (b : List UInt8) (k : Nat) (h : k < b.length) : scan (b.take k) (b.drop k) =
  if letter b[k] then scan (b.take (k + 1)) (b.drop (k + 1)) else if k = 0 then none else if b[k].toNat = 58 then some (b.take k) else if tailc b[k] then scan (b.take (k + 1)) (b.drop (k + 1)) else none := by
 rw [List.drop_eq_getElem_cons h, scan, ← List.take_succ_eq_append_getElem h]
 have : b.take k = [] ↔ k = 0 := by
  rw [List.take_eq_nil_iff]
  constructor
  ·rintro (h | h)
   ·exact h
   ·subst h; simp at h
  ·exact .inl
 simp only [this]
theorem scan_end (b : List UInt8) : scan (b.take b.length) (b.drop b.length) = none := by
 rw [List.drop_length]; rfl
def schemeV (s : List UInt8) : AV := .tup [.d (.str (schemeS s)), .d (.bool (schemeB s))]
theorem schemeV_none {s : List UInt8} (h : schemeO s = none) : schemeV s = .tup [.d (.str []), .d (.bool false)] := by simp [schemeV, schemeS, schemeB, h]
theorem schemeV_some {s x : List UInt8} (h : schemeO s = some x) : schemeV s = .tup [.d (.str x), .d (.bool true)] := by simp [schemeV, schemeS, schemeB, h]
set_option maxRecDepth 10000 in
theorem Scheme_ok (s : List UInt8) (hs : s.length ≤ 140737488355328) : PureC Tryz.prog 186 [.d (.str s)] (schemeV s) := by
 refine pure_okT Tryz.wf Tryz.tab_ok Tryz.func186 (by decide +kernel) rfl rfl rfl rfl ?_
 refine PureC.use (Bare_ok s (by omega) hs) (PureC.use (Lower_ok (bare s) (by have := bare_len s; omega)) ?_)
 generalize hb : lower (bare s) = b
 have hO : schemeO s = scan [] b := by rw [schemeO, hb]
 have hbl : b.length ≤ 140737488355328 := by rw [← hb, lower_len]; have := bare_len s; omega
 refine loopT Tryz.wf Tryz.tab_ok (fun n s' σ => ∃ k : Nat, n = b.length - k ∧ k ≤ b.length ∧ schemeO s = scan (b.take k) (b.drop k) ∧ s' = [(4, .d (.str b)), (11, .d (.int .i64 b.length)), (12, .d (.int .i64 k))] ∧ σ = ⟨0, []⟩)
  ⟨0, rfl, Nat.zero_le _, hO, rfl, rfl⟩ (Mv.of [] rfl rfl rfl trivial ⟨rfl, rfl, rfl, trivial⟩) ?_
 rintro _ _ _ ⟨k, rfl, hk, hI, rfl, rfl⟩
 have no : schemeO s = none → ∃ r2 σ2, FinMove ⟨0, []⟩ (.tup [.d (.str []), .d (.bool false)]) ⟨0, []⟩ r2 σ2 ∧ r2 = schemeV s := fun h => ⟨_, _, FinMove.refl _ _ _, (schemeV_none h).symm⟩
 refine ⟨fun h => ?_, fun h => ?_⟩
 ·have hlt : k < b.length := by have := of_decide_eq_true h; omega
  have hg := getD_at b k hlt
  have hu := b[k].toNat_lt
  rw [scan_at b k hlt] at hI
  have go : schemeO s = scan (b.take (k + 1)) (b.drop (k + 1)) → (∃ k' : Nat, b.length - (k + 1) = b.length - k' ∧ k' ≤ b.length ∧ schemeO s = scan (b.take k') (b.drop k') ∧ [(4, .d (.str b)), (11, .d (.int .i64 b.length)), (12, .d (.int .i64 ((k + 1 : Nat) : Int)))] = [(4, AV.d (.str b)), (11, .d (.int .i64 b.length)), (12, .d (.int .i64 k'))] ∧ (⟨0, []⟩ : Store) = ⟨0, []⟩) :=
   fun h => ⟨k + 1, rfl, hlt, h, rfl, rfl⟩
  have rest : letter b[k] = false → schemeO s = if k = 0 then none else if b[k].toNat = 58 then some (b.take k) else if tailc b[k] then scan (b.take (k + 1)) (b.drop (k + 1)) else none := fun hle => by rw [hI]; simp [hle]
  have hT : ∀ {p : Int → Prop} [DecidablePred p], decide (p ((b.getD ((k : Nat) : Int).toNat 0).toNat : Int)) = true → p (b[k].toNat : Int) := fun {p} _ h => by rw [hg] at h; exact of_decide_eq_true h
  have hF : ∀ {p : Int → Prop} [DecidablePred p], decide (p ((b.getD ((k : Nat) : Int).toNat 0).toNat : Int)) = false → ¬ p (b[k].toNat : Int) := fun {p} _ h => by rw [hg] at h; exact of_decide_eq_false h
  refine ⟨⟨by omega, by omega⟩, ⟨fun h1 => ⟨fun h2 => ?_, fun h2 => ?_⟩, fun h1 => ?_⟩⟩
  ·have h1' := hT (p := fun x => 97 ≤ x) h1
   have h2' := hT (p := fun x => x ≤ 122) h2
   have hle : letter b[k] = true := by simp [letter]; omega
   rw [if_pos hle] at hI
   exact .inl ⟨⟨by omega, by omega⟩, _, _, _, go hI, by omega, Mv.of [] rfl rfl rfl trivial ⟨rfl, rfl, rfl, trivial⟩⟩
  all_goals
   have hr := rest (by first | (have := hT (p := fun x => 97 ≤ x) h1; have := hF (p := fun x => x ≤ 122) h2; simp [letter]; omega) | (have := hF (p := fun x => 97 ≤ x) h1; simp [letter]; omega))
   refine ⟨fun h0 => ?_, fun h0 => ?_⟩
   ·have h0' := of_decide_eq_true h0
    exact no (by rw [hr, if_pos (by omega)])
   ·have h0' := of_decide_eq_false h0
    rw [if_neg (by omega)] at hr
    refine ⟨fun h58 => ?_, fun h58 => ?_⟩
    ·have h58' := hT (p := fun x => x = 58) h58
     rw [if_pos (by omega)] at hr
     exact ⟨⟨by omega, by omega, by omega⟩, _, _, FinMove.refl _ _ _, (schemeV_some hr).symm⟩
    ·have h58' := hF (p := fun x => x = 58) h58
     rw [if_neg (by omega)] at hr
     refine ⟨fun h48 => ⟨fun h57 => ⟨fun h43 => ⟨fun h45 => ⟨fun h46 => ?_, fun h46 => ?_⟩, fun h45 => ?_⟩, fun h43 => ?_⟩, fun h57 => ?_⟩, fun h48 => ⟨fun h43 => ⟨fun h45 => ⟨fun h46 => ?_, fun h46 => ?_⟩, fun h45 => ?_⟩, fun h43 => ?_⟩⟩
     ·have := hT (p := fun x => x = 46) h46
      exact .inl ⟨⟨by omega, by omega⟩, _, _, _, go (by rw [hr, if_pos (by simp [tailc]; omega)]), by omega, Mv.of [] rfl rfl rfl trivial ⟨rfl, rfl, rfl, trivial⟩⟩
     ·have := hF (p := fun x => x = 46) h46; have := hF (p := fun x => x = 45) h45; have := hF (p := fun x => x = 43) h43; have := hF (p := fun x => x ≤ 57) h57
      exact no (by rw [hr, if_neg (by simp [tailc]; omega)])
     ·have := hT (p := fun x => x = 45) h45
      exact .inl ⟨⟨by omega, by omega⟩, _, _, _, go (by rw [hr, if_pos (by simp [tailc]; omega)]), by omega, Mv.of [] rfl rfl rfl trivial ⟨rfl, rfl, rfl, trivial⟩⟩
     ·have := hT (p := fun x => x = 43) h43
      exact .inl ⟨⟨by omega, by omega⟩, _, _, _, go (by rw [hr, if_pos (by simp [tailc]; omega)]), by omega, Mv.of [] rfl rfl rfl trivial ⟨rfl, rfl, rfl, trivial⟩⟩
     ·have := hT (p := fun x => x ≤ 57) h57; have := hT (p := fun x => 48 ≤ x) h48
      exact .inl ⟨⟨by omega, by omega⟩, _, _, _, go (by rw [hr, if_pos (by simp [tailc]; omega)]), by omega, Mv.of [] rfl rfl rfl trivial ⟨rfl, rfl, rfl, trivial⟩⟩
     ·have := hT (p := fun x => x = 46) h46
      exact .inl ⟨⟨by omega, by omega⟩, _, _, _, go (by rw [hr, if_pos (by simp [tailc]; omega)]), by omega, Mv.of [] rfl rfl rfl trivial ⟨rfl, rfl, rfl, trivial⟩⟩
     ·have := hF (p := fun x => x = 46) h46; have := hF (p := fun x => x = 45) h45; have := hF (p := fun x => x = 43) h43; have := hF (p := fun x => 48 ≤ x) h48
      exact no (by rw [hr, if_neg (by simp [tailc]; omega)])
     ·have := hT (p := fun x => x = 45) h45
      exact .inl ⟨⟨by omega, by omega⟩, _, _, _, go (by rw [hr, if_pos (by simp [tailc]; omega)]), by omega, Mv.of [] rfl rfl rfl trivial ⟨rfl, rfl, rfl, trivial⟩⟩
     ·have := hT (p := fun x => x = 43) h43
      exact .inl ⟨⟨by omega, by omega⟩, _, _, _, go (by rw [hr, if_pos (by simp [tailc]; omega)]), by omega, Mv.of [] rfl rfl rfl trivial ⟨rfl, rfl, rfl, trivial⟩⟩
 ·have hk' : k = b.length := by have := of_decide_eq_false h; omega
  subst hk'
  exact no (hI.trans (scan_end b))
def badc (c : UInt8) : Bool := decide (c.toNat < 32) || decide (c.toNat = 92) || decide (c.toNat = 127)
def allowed (s : List UInt8) (l : List (List UInt8)) : Bool := if schemeB s then decide (schemeS s ∈ l) else !hasPre (bare s) [47, 47] && (bare s).all fun c => !badc c
theorem all_split (b : List UInt8) (k : Nat) (h : k < b.length) : (b.drop k).all (fun c => !badc c) = (!badc b[k] && (b.drop (k + 1)).all fun c => !badc c) := by
 rw [List.drop_eq_getElem_cons h, List.all_cons]
set_option maxRecDepth 10000 in
theorem Allowed_ok (s : List UInt8) (l : List (List UInt8)) (hs : s.length ≤ 140737488355328) (hl : l.length ≤ 4611686018427387903) : PureC Tryz.prog 166 [.d (.str s), .d (.sl (strsD l))] (.d (.bool (allowed s l))) := by
 refine pure_okT Tryz.wf Tryz.tab_ok Tryz.func166 (by decide +kernel) rfl rfl rfl rfl ?_
 refine PureC.use (Scheme_ok s hs) ⟨fun h => ?_, fun h => ?_⟩
 ·have hb : schemeB s = true := h
  exact PureC.use (Contains_ok l (schemeS s) hl) ⟨_, _, FinMove.refl _ _ _, congrArg (fun b => AV.d (.bool b)) (by rw [allowed, if_pos hb])⟩
 ·have hb : ¬ schemeB s = true := by rw [show schemeB s = false from h]; simp
  have hal : allowed s l = (!hasPre (bare s) [47, 47] && (bare s).all fun c => !badc c) := by rw [allowed, if_neg hb]
  have hbl := bare_len s
  refine PureC.use (Bare_ok s (by omega) hs) (PureC.use (HasPrefix_ok (bare s) [47, 47]) ⟨fun h2 => ?_, fun h2 => ?_⟩)
  ·exact ⟨_, _, FinMove.refl _ _ _, congrArg (fun b => AV.d (.bool b)) (by rw [hal, h2]; rfl)⟩
  ·rw [h2] at hal
   generalize bare s = b at *
   refine loopT Tryz.wf Tryz.tab_ok (fun n s' σ => ∃ k : Nat, n = b.length - k ∧ k ≤ b.length ∧ allowed s l = ((b.drop k).all fun c => !badc c) ∧ s' = [(7, .d (.str b)), (23, .d (.int .i64 b.length)), (24, .d (.int .i64 k))] ∧ σ = ⟨0, []⟩)
    ⟨0, rfl, Nat.zero_le _, by rw [hal]; simp, rfl, rfl⟩ (Mv.of [] rfl rfl rfl trivial ⟨rfl, rfl, rfl, trivial⟩) ?_
   rintro _ _ _ ⟨k, rfl, hk, hI, rfl, rfl⟩
   have no : allowed s l = false → ∃ r2 σ2, FinMove ⟨0, []⟩ (.d (.bool false)) ⟨0, []⟩ r2 σ2 ∧ r2 = AV.d (.bool (allowed s l)) := fun h => ⟨_, _, FinMove.refl _ _ _, by rw [h]⟩
   refine ⟨fun h3 => ?_, fun h3 => ?_⟩
   ·have hlt : k < b.length := by have := of_decide_eq_true h3; omega
    have hg := getD_at b k hlt
    rw [all_split b k hlt] at hI
    clear h3
    refine ⟨⟨by omega, by omega⟩, ⟨fun a => ⟨⟨by omega, by omega⟩, ⟨fun c => ⟨⟨by omega, by omega⟩, ⟨fun d => ?_, fun d => ?_⟩⟩, fun c => ?_⟩⟩, fun a => ?_⟩⟩
    all_goals
     try simp only [hg, decide_eq_true_eq, decide_eq_false_iff_not] at a
     try simp only [hg, decide_eq_true_eq, decide_eq_false_iff_not] at c
     try simp only [hg, decide_eq_true_eq, decide_eq_false_iff_not] at d
    ·exact no (by rw [hI]; simp [badc]; omega)
    ·refine .inl ⟨⟨by omega, by omega⟩, _, _, _, ⟨k + 1, rfl, hlt, ?_, rfl, rfl⟩, by omega, Mv.of [] rfl rfl rfl trivial ⟨rfl, rfl, rfl, trivial⟩⟩
     have : badc b[k] = false := by simp [badc]; omega
     rw [hI, this]; rfl
    ·exact no (by rw [hI]; simp [badc]; omega)
    ·exact no (by rw [hI]; simp [badc]; omega)
   ·have hk' : k = b.length := by have := of_decide_eq_false h3; omega
    subst hk'
    exact ⟨_, _, FinMove.refl _ _ _, congrArg (fun b => AV.d (.bool b)) (by rw [hI]; simp)⟩
def attrP (p : Pol) (el a : List UInt8) : Bool := decide (el ∈ p.el) && (decide ([42, 46] ++ a ∈ p.at') || decide (el ++ [46] ++ a ∈ p.at'))
set_option maxRecDepth 100000 in
theorem Elem_ok (p : Pol) (nm : List UInt8) (hp : Fits p) : PureC Tryz.prog 91 [polA p, .d (.str nm)] (.d (.bool (decide (nm ∈ p.el)))) := by
 have hc1 := Contains_ok p.el nm (by have := hp.el.1; omega)
 refine pure_okT Tryz.wf Tryz.tab_ok Tryz.func91 (by decide +kernel) rfl rfl rfl rfl ?_
 refine wR (k := ?_)
 exact ⟨_, _, fin_out rfl, rfl⟩
set_option maxRecDepth 100000 in
theorem Attr_ok (p : Pol) (el a : List UInt8) (hp : Fits p) (he : el.length ≤ 1000000) (ha : a.length ≤ 1000000) : PureC Tryz.prog 163 [polA p, .d (.str el), .d (.str a)] (.d (.bool (attrP p el a))) := by
 have hc1 := Elem_ok p el hp
 have hc2 := Contains_ok p.at' ([42, 46] ++ a) (by have := hp.at'.1; omega)
 have hc3 := Contains_ok p.at' (el ++ [46] ++ a) (by have := hp.at'.1; omega)
 unfold attrP
 by_cases h1 : el ∈ p.el
 ·rw [decide_eq_true h1] at hc1 ⊢
  by_cases h2 : [42, 46] ++ a ∈ p.at'
  ·rw [decide_eq_true h2] at hc2 ⊢
   refine pure_okT Tryz.wf Tryz.tab_ok Tryz.func163 (by decide +kernel) rfl rfl rfl rfl ?_
   refine wR (k := ?_)
   exact ⟨_, _, fin_out rfl, rfl⟩
  ·rw [decide_eq_false h2] at hc2 ⊢
   refine pure_okT Tryz.wf Tryz.tab_ok Tryz.func163 (by decide +kernel) rfl rfl rfl rfl ?_
   refine wR (k := ?_)
   exact ⟨_, _, fin_out rfl, congrArg (fun b => AV.d (.bool b)) (by simp)⟩
 ·rw [decide_eq_false h1] at hc1 ⊢
  refine pure_okT Tryz.wf Tryz.tab_ok Tryz.func163 (by decide +kernel) rfl rfl rfl rfl ?_
  refine wR (k := ?_)
  exact ⟨_, _, fin_out rfl, rfl⟩
def clsB (l : List (List UInt8)) : List (List UInt8) → List (List UInt8) → Bool
 | _, [] => true
 | seen, c :: r => (!decide (c ∈ seen) && decide (c ∈ l)) && clsB l (c :: seen) r
def seenR : List (List UInt8) → List (AV × AV)
 | [] => []
 | c :: r => mput c (.d (.bool true)) (seenR r)
theorem seenR_keys : ∀ q, strKeys (seenR q)
 | [] => fun e h => by simp [seenR] at h
 | p :: r => strKeys_mputS _ _ _ (seenR_keys r)
theorem seenR_pure : ∀ q, ∀ e ∈ seenR q, e.1.pure = true ∧ e.2.pure = true
 | [] => fun e h => by simp [seenR] at h
 | p :: r => pure_mputS _ _ rfl _ (seenR_pure r)
theorem seenR_look (x : List UInt8) : ∀ q, (mlook x (seenR q)).getD (.d (.bool false)) = .d (.bool (decide (x ∈ q)))
 | [] => rfl
 | p :: r => by
  rw [seenR, mlook_mputS _ _ _ _ (seenR_keys r)]
  by_cases h : x = p
  ·rw [if_pos h, h]; simp
  ·rw [if_neg h, seenR_look x r]; simp [h]
set_option maxRecDepth 100000 in
set_option maxHeartbeats 1000000 in
theorem classes_ok (v : List UInt8) (l : List (List UInt8)) (hv : v.length ≤ 1000000) (hl : l.length ≤ 1000000) : PureC Tryz.prog 164 [.d (.str v), .d (.sl (strsD l))] (.d (.bool (clsB l [] (splitB 32 v)))) := by
 have hc1 := Split_ok 32 v (by omega)
 have hn := strsD_len (splitB 32 v)
 have hcnt := splitB_len 32 v
 have hcl := List.count_le_length (a := 32) (l := v)
 generalize splitB 32 v = ps at *
 refine pure_okT Tryz.wf Tryz.tab_ok Tryz.func164 (by decide +kernel) rfl rfl rfl rfl ?_
 refine wR (k := ?_)
 refine loopT Tryz.wf Tryz.tab_ok (fun n s' σ => ∃ (k : Nat) (q : List (List UInt8)), n = ps.length - k ∧ k ≤ ps.length ∧ clsB l [] ps = clsB l q (ps.drop k) ∧ s' = [(1, .d (.sl (strsD l))), (5, .mp 0), (10, .d (.sl (strsD ps))), (11, .d (.int .i64 ps.length)), (12, .d (.int .i64 k))] ∧ σ = ⟨1, [(0, .map (seenR q))]⟩)
  ⟨0, [], rfl, Nat.zero_le _, rfl, rfl, rfl⟩ (Mv.of [.old 0] rfl rfl rfl ⟨.inl ⟨rfl, seenR_pure _⟩, trivial⟩ ⟨rfl, rfl, rfl, congrArg (fun n : Nat => D.int .i64 n) hn.symm, rfl, trivial⟩) ?_
 rintro _ _ _ ⟨k, q, rfl, hk, hI, rfl, rfl⟩
 by_cases hlt : k < ps.length
 ·have hg := strsD_get ps k hlt
  rw [List.drop_eq_getElem_cons hlt, clsB] at hI
  have hc2 := Contains_ok l ps[k] (by omega)
  generalize ps[k] = p at *
  refine wR (k := ?_)
  refine ⟨_, _, rfl, seenR_keys q, rfl, rfl, ?_⟩
  rw [seenR_look]
  by_cases hin : p ∈ q
  ·rw [decide_eq_true hin] at hI ⊢
   refine wR (k := ?_)
   exact ⟨_, _, fin_out rfl, congrArg (fun b => AV.d (.bool b)) hI.symm⟩
  ·rw [decide_eq_false hin] at hI ⊢
   by_cases hin2 : p ∈ l
   ·rw [decide_eq_true hin2] at hI hc2
    refine wR (k := ?_)
    refine ⟨seenR_keys _, ?_⟩
    refine wR (k := ?_)
    exact ⟨_, _, _, ⟨k + 1, p :: q, rfl, hlt, hI, rfl, rfl⟩, by omega, Mv.of [.old 0] rfl rfl rfl ⟨.inl ⟨rfl, seenR_pure _⟩, trivial⟩ ⟨rfl, rfl, rfl, rfl, rfl, trivial⟩⟩
   ·rw [decide_eq_false hin2] at hI hc2
    refine wR (k := ?_)
    exact ⟨_, _, fin_out rfl, congrArg (fun b => AV.d (.bool b)) hI.symm⟩
 ·have hk' : k = ps.length := by omega
  subst hk'
  rw [List.drop_length] at hI
  rw [hI]
  refine wR (k := ?_)
  exact ⟨_, _, fin_out rfl, rfl⟩
def nodeA (n : Node) : AV := .agg [.d (.str n.name), .d (.sl (attrsD n.attrs)), .d (.str n.text), .d (.sl (nodesD n.kids))]
theorem mlook_mput (x k : List UInt8) (v : AV) : ∀ es, strKeys es → mlook x (mput k v es) = if x = k then some v else mlook x es := by
 intro es
 induction es with
 | nil => intro _; simp [mput, mlook]
 | cons e r ih =>
  intro hk
  obtain ⟨s, hs⟩ := hk e (by simp)
  obtain ⟨a, u⟩ := e
  simp only at hs
  subst hs
  have ih' := ih (fun y hy => hk y (by simp [hy]))
  simp only [mput]
  by_cases h1 : k = s
  ·subst h1
   rw [if_pos rfl]
   simp only [mlook]
   by_cases h2 : x = k <;> simp [h2]
  ·rw [if_neg h1]
   simp only [mlook]
   by_cases h2 : x = s
   ·subst h2; rw [if_pos rfl, if_pos rfl, if_neg (fun e => h1 e.symm)]
   ·rw [if_neg h2, if_neg h2, ih']
theorem strKeys_mput (k : List UInt8) (v : AV) : ∀ es, strKeys es → strKeys (mput k v es) := by
 intro es
 induction es with
 | nil => intro _ e he; simp [mput] at he; subst he; exact ⟨k, rfl⟩
 | cons e r ih =>
  intro hk
  obtain ⟨s, hs⟩ := hk e (by simp)
  obtain ⟨a, u⟩ := e
  simp only at hs
  subst hs
  have ih' := ih (fun y hy => hk y (by simp [hy]))
  simp only [mput]
  by_cases h1 : k = s
  ·rw [if_pos h1]
   intro y hy
   rcases List.mem_cons.1 hy with rfl | hy
   ·exact ⟨k, rfl⟩
   ·exact hk y (by simp [hy])
  ·rw [if_neg h1]
   intro y hy
   rcases List.mem_cons.1 hy with rfl | hy
   ·exact ⟨s, rfl⟩
   ·exact ih' y hy
theorem pure_mput (k : List UInt8) (v : AV) (hv : v.pure = true) : ∀ es : List (AV × AV), (∀ e ∈ es, e.1.pure = true ∧ e.2.pure = true) → ∀ e ∈ mput k v es, e.1.pure = true ∧ e.2.pure = true := by
 intro es
 induction es with
 | nil => intro _ e he; simp [mput] at he; subst he; exact ⟨rfl, hv⟩
 | cons e r ih =>
  intro hk
  have ih' := ih (fun y hy => hk y (by simp [hy]))
  have h0 := hk e (by simp)
  have h1 : ∀ y ∈ r, y.1.pure = true ∧ y.2.pure = true := fun y hy => hk y (by simp [hy])
  have other : ∀ y ∈ e :: mput k v r, y.1.pure = true ∧ y.2.pure = true := fun y hy => by
   rcases List.mem_cons.1 hy with rfl | hy
   ·exact h0
   ·exact ih' y hy
  unfold mput
  split
  ·rename_i heq; simp at heq
  ·rename_i s u r' heq
   obtain ⟨rfl, rfl⟩ := List.cons.inj heq
   split
   ·intro y hy
    rcases List.mem_cons.1 hy with rfl | hy
    ·exact ⟨rfl, hv⟩
    ·exact h1 y hy
   ·exact other
  ·rename_i x r' hne heq
   obtain ⟨rfl, rfl⟩ := List.cons.inj heq
   exact other
def nodeO (n : Node) : Ob := .rows (4, 58) [[.d (.str n.name), .d (.sl (attrsD n.attrs)), .d (.str n.text), .d (.sl (nodesD n.kids))]]
end Go.Proofs.YthngplknbbcecaaGreatDoor
namespace Go.Proofs.YthngplknbbcecaaGreatDoor
open Go.Aw
set_option maxHeartbeats 1600000
set_option linter.unusedSimpArgs false
set_option linter.unusedVariables false
mutual
def dpN : Node → Nat
 | .mk nm _ _ k => if nm = [] then 0 else dpL k + 1
def dpL : List Node → Nat
 | [] => 0
 | n :: r => max (dpN n) (dpL r)
end
theorem dpN_eq (n : Node) : dpN n = if n.name = [] then 0 else dpL n.kids + 1 := by cases n; unfold dpN; rfl
theorem dpL_cons (n : Node) (r : List Node) : dpL (n :: r) = max (dpN n) (dpL r) := by rw [dpL]
mutual
theorem dp_sz : ∀ n : Node, dpN n ≤ szN n
 | .mk nm a t k => by
  have := dp_szL k
  unfold dpN szN
  split <;> omega
theorem dp_szL : ∀ l : List Node, dpL l ≤ szL l
 | [] => by simp [dpL]
 | n :: r => by
  have h1 := dp_sz n
  have h2 := dp_szL r
  unfold dpL szL
  omega
end
theorem szN_pos (n : Node) : 1 ≤ szN n := by rw [szN_eq]; omega
theorem sz_len : ∀ l : List Node, l.length ≤ szL l
 | [] => by simp
 | n :: r => by have := sz_len r; have := szN_pos n; rw [szL_cons]; simp only [List.length_cons]; omega
def sizeV (l : List Node) : AV := .tup [.d (.int .i64 (szL l)), .d (.int .i64 (dpL l))]
theorem max_is (a b : Nat) : (if ((b : Nat) : Int) > ((a : Nat) : Int) then ((b : Nat) : Int) else ((a : Nat) : Int)) = ((max a b : Nat) : Int) := by
 rw [Nat.max_def]
 by_cases h : b > a
 ·rw [if_pos (by omega), if_pos (by omega)]
 ·rw [if_neg (by omega)]
  by_cases h2 : a ≤ b
  ·rw [if_pos h2]; omega
  ·rw [if_neg h2]
theorem max_is1 (a b : Nat) : ((max a (b + 1) : Nat) : Int) = (if (1 + ((b : Nat) : Int)) > ((a : Nat) : Int) then (1 + ((b : Nat) : Int)) else ((a : Nat) : Int)) := by
 rw [← max_is a (b + 1), show (1 + ((b : Nat) : Int)) = ((b + 1 : Nat) : Int) by omega]
set_option maxRecDepth 100000 in
theorem Size_ok (N : Nat) : ∀ (l : List Node), szL l ≤ N → N ≤ 1000000000 → PureC Tryz.prog 33 [.d (.sl (nodesD l))] (sizeV l) := by
 induction N using Nat.strongRecOn with
 | ind N ih =>
 intro l hN hB
 refine pure_okT Tryz.wf Tryz.tab_ok Tryz.func33 (by decide +kernel) rfl rfl rfl rfl ?_
 have hn := nodesD_len l
 have hdp := dp_szL l
 have hsl := sz_len l
 refine loopT Tryz.wf Tryz.tab_ok (fun m s' σ => ∃ (k a b : Nat), m = l.length - k ∧ k ≤ l.length ∧ a + szL (l.drop k) = szL l ∧ max b (dpL (l.drop k)) = dpL l ∧ s' = [(4, .d (.int .i64 a)), (5, .d (.int .i64 b)), (10, .d (.sl (nodesD l))), (11, .d (.int .i64 l.length)), (12, .d (.int .i64 k))] ∧ σ = ⟨0, []⟩)
  ⟨0, 0, 0, rfl, Nat.zero_le _, by simp, by simp, rfl, rfl⟩ (Mv.of [] rfl rfl rfl trivial ⟨rfl, rfl, rfl, by rw [← hn]; rfl, rfl, trivial⟩) ?_
 rintro _ _ _ ⟨k, a, b, rfl, hk, hA, hB2, rfl, rfl⟩
 refine ⟨fun h => ?_, fun h => ?_⟩
 ·have hlt : k < l.length := by have := of_decide_eq_true h; omega
  clear h
  rw [List.drop_eq_getElem_cons hlt] at hA hB2
  rw [szL_cons, szN_eq] at hA
  rw [dpL_cons, dpN_eq] at hB2
  refine ⟨⟨by omega, by rw [hn]; omega⟩, _, nodesD_get l k hlt, rfl, ?_⟩
  refine ⟨Nat.le_refl _, _, rfl, rfl, Nat.le_refl _, ?_⟩
  refine ⟨_, rfl, _, rfl, ?_⟩
  have hks := kids_lt (List.getElem_mem hlt)
  have c1 := ih (szL l[k].kids) (by omega) l[k].kids (Nat.le_refl _) (by omega)
  have hdk := dp_szL l[k].kids
  refine PureC.use c1 ?_
  repeat refine wD ?_
  refine ⟨_, rfl, _, rfl, ?_⟩
  have hA' : (a + 1 + szL l[k].kids) + szL (l.drop (k + 1)) = szL l := by omega
  refine ⟨fun h => ?_, fun h => ?_⟩
  ·have hne : ¬ l[k].name = [] := of_decide_eq_false (by simpa using h)
   rw [if_neg hne] at hB2
   repeat refine wD ?_
   refine ⟨_, _, _, ⟨k + 1, a + 1 + szL l[k].kids, max b (dpL l[k].kids + 1), rfl, hlt, hA', ?_, rfl, rfl⟩, by omega, Mv.of [] rfl rfl rfl trivial ⟨congrArg (D.int .i64) (show ((a + 1 + szL l[k].kids : Nat) : Int) = _ by omega), congrArg (D.int .i64) (max_is1 _ _), rfl, rfl, rfl, trivial⟩⟩
   rw [Nat.max_assoc]; exact hB2
  ·have hne : l[k].name = [] := of_decide_eq_true (by simpa using h)
   rw [if_pos hne] at hB2
   repeat refine wD ?_
   refine ⟨_, _, _, ⟨k + 1, a + 1 + szL l[k].kids, b, rfl, hlt, hA', ?_, rfl, rfl⟩, by omega, Mv.of [] rfl rfl rfl trivial ⟨congrArg (D.int .i64) (show ((a + 1 + szL l[k].kids : Nat) : Int) = _ by omega), rfl, rfl, rfl, rfl, trivial⟩⟩
   rw [← hB2, Nat.zero_max]
 ·have hk' : k = l.length := by have := of_decide_eq_false h; omega
  subst hk'
  rw [List.drop_length] at hA hB2
  have e1 : a = szL l := by rw [← hA]; rfl
  have e2 : b = dpL l := by rw [← hB2]; simp [dpL]
  subst e1
  subst e2
  exact ⟨_, _, fin_out rfl, rfl⟩
def inLi (li : Bool) (nm : List UInt8) : Bool := if nm = [108, 105] then true else if nm = [117, 108] ∨ nm = [111, 108] then false else li
mutual
def stN (p li : Bool) : Node → Bool
 | .mk nm a t k => ownB (.mk nm a t k) && !(p && decide (nm ∈ blocks)) && !(li && decide (nm = [108, 105])) && stL false (p || decide (nm = [112])) (inLi li nm) k
def stL (tx p li : Bool) : List Node → Bool
 | [] => true
 | n :: r => if n.name = [] then (!tx && !decide (n.text = []) && decide (n.attrs = []) && decide (n.kids = [])) && stL true p li r else stN p li n && stL false p li r
end
theorem stN_eq (p li : Bool) (n : Node) : stN p li n = (ownB n && !(p && decide (n.name ∈ blocks)) && !(li && decide (n.name = [108, 105])) && stL false (p || decide (n.name = [112])) (inLi li n.name) n.kids) := by
 cases n; unfold stN; rfl
theorem stL_cons (tx p li : Bool) (n : Node) (r : List Node) : stL tx p li (n :: r) = if n.name = [] then (!tx && !decide (n.text = []) && decide (n.attrs = []) && decide (n.kids = [])) && stL true p li r else stN p li n && stL false p li r := by rw [stL]
mutual
def ShN : Node → Prop
 | .mk nm a t k => nm.length ≤ 1000000000 ∧ Short a ∧ t.length ≤ 1000000000 ∧ ShL k
def ShL : List Node → Prop
 | [] => True
 | n :: r => ShN n ∧ ShL r
end
theorem ShN_eq (n : Node) : ShN n ↔ (n.name.length ≤ 1000000000 ∧ Short n.attrs ∧ n.text.length ≤ 1000000000 ∧ ShL n.kids) := by cases n; unfold ShN; rfl
theorem ShL_mem : ∀ {l : List Node}, ShL l → ∀ n ∈ l, ShN n
 | [], _, n, h => by simp at h
 | m :: r, hs, n, h => by
  unfold ShL at hs
  rcases List.mem_cons.1 h with rfl | h
  ·exact hs.1
  ·exact ShL_mem hs.2 n h
def stableB (l : List Node) : Bool := decide (szL l ≤ 2000) && decide (dpL l ≤ 64) && stL false false false l
end Go.Proofs.YthngplknbbcecaaGreatDoor

namespace Go.Proofs.YthngplknbbcecaaGreatDoor
open Go.Aw
set_option maxHeartbeats 1600000
set_option linter.unusedSimpArgs false
set_option linter.unusedVariables false
abbrev At := List UInt8 × List UInt8
def relN : List UInt8 := [114, 101, 108]
def hrefN : List UInt8 := [104, 114, 101, 102]
def styN : List UInt8 := [115, 116, 121, 108, 101]
def clsN : List UInt8 := [99, 108, 97, 115, 115]
def aN : List UInt8 := [97]
def forcedB : List UInt8 := [110, 111, 102, 111, 108, 108, 111, 119, 32, 110, 111, 111, 112, 101, 110, 101, 114]
def places : List (List UInt8) := [hrefN, [115, 114, 99], [99, 105, 116, 101], [97, 99, 116, 105, 111, 110], [98, 97, 99, 107, 103, 114, 111, 117, 110, 100], [108, 111, 110, 103, 100, 101, 115, 99], [112, 105, 110, 103], [112, 111, 115, 116, 101, 114], [115, 114, 99, 115, 101, 116], [117, 115, 101, 109, 97, 112]]
def valueP (p : Pol) (el : List UInt8) (a : At) : Bool :=
 decide (el ∈ p.el) && (if a.1 = relN then decide (el = aN) && decide (a.2 = forcedB)
  else if a.1 = styN then !decide (a.2 = []) && decide (filterB p.pr a.2 = a.2)
  else if a.1 = clsN then attrP p el a.1 && (!decide (a.2 = []) && clsB p.cl [] (splitB 32 a.2))
  else attrP p el a.1 && (!decide (a.1 ∈ places) || allowed a.2 p.sc))
def hasA (nm : List UInt8) (l : List At) : Bool := decide (nm ∈ l.map Prod.fst)
def linkB (l : List At) : Bool := if hasA hrefN l = true then decide ((l.map Prod.fst).getLast? = some relN) else !hasA relN l
def elemP (p : Pol) (n : Node) : Bool := n.attrs.all (valueP p n.name) && ((!decide (n.name = aN) || linkB n.attrs) && decide (n.name ∈ p.el))
mutual
def innN (p : Pol) : Node → Bool
 | .mk nm a t k => decide (nm = []) || (elemP p (.mk nm a t k) && innL p k)
def innL (p : Pol) : List Node → Bool
 | [] => true
 | n :: r => innN p n && innL p r
end
theorem innN_eq (p : Pol) (n : Node) : innN p n = (decide (n.name = []) || (elemP p n && innL p n.kids)) := by cases n; unfold innN; rfl
theorem innL_cons (p : Pol) (n : Node) (r : List Node) : innL p (n :: r) = (innN p n && innL p r) := by rw [innL]
def safeB (p : Pol) (l : List Node) : Bool := decide ((szL l : Int) ≤ p.nd) && (decide ((dpL l : Int) ≤ p.dp) && (stableB l && innL p l))
end Go.Proofs.YthngplknbbcecaaGreatDoor

namespace Go.Proofs.YthngplknbbcecaaGreatDoor
open Go.Aw
set_option maxHeartbeats 1600000
set_option linter.unusedSimpArgs false
set_option linter.unusedVariables false
def droppedL : List (List UInt8) := [[101, 109, 98, 101, 100], [102, 111, 114, 109], [109, 97, 116, 104], [111, 98, 106, 101, 99, 116], [115, 101, 108, 101, 99, 116], [115, 118, 103], [116, 101, 109, 112, 108, 97, 116, 101], [110, 111, 115, 99, 114, 105, 112, 116], [102, 114, 97, 109, 101, 115, 101, 116]]
def dropB (s : List UInt8) : Bool := decide (s ∈ droppedL) || rawB s
def clsF (cl : List (List UInt8)) : List (List UInt8) → List (List UInt8) → List (List UInt8)
 | _, [] => []
 | seen, c :: r => if (!decide (c ∈ seen) && decide (c ∈ cl)) = true then c :: clsF cl (c :: seen) r else clsF cl seen r
def clsT (cl : List (List UInt8)) (v : List UInt8) : List UInt8 := joinB [32] (clsF cl [] (splitB 32 v))
def attrV (p : Pol) (a : At) : At := if a.1 = styN then (a.1, filterB p.pr a.2) else if a.1 = clsN then (a.1, clsT p.cl a.2) else a
def staysB (p : Pol) (el : List UInt8) (a : At) : Bool := !decide (a.1 = relN) && valueP p el (attrV p a)
def keepA (p : Pol) (el : List UInt8) : List At → List At
 | [] => []
 | a :: r => if staysB p el a = true then attrV p a :: keepA p el r else keepA p el r
def relA : At := (relN, forcedB)
def attrsP (p : Pol) (el : List UInt8) (l : List At) : List At := keepA p el l ++ (if el = aN ∧ hasA hrefN (keepA p el l) = true then [relA] else [])
def putN (l : List Node) (n : Node) : List Node :=
 if n.name = [] then
  if n.text = [] then l else match l.getLast? with
   | some m => if m.name = [] then l.dropLast ++ [.mk m.name m.attrs (m.text ++ n.text) m.kids] else l ++ [.mk [] [] n.text []]
   | none => l ++ [.mk [] [] n.text []]
 else l ++ [n]
mutual
def clN (p : Pol) : List Node → Node → List Node
 | out, .mk nm a t k => if nm = [] then putN out (.mk nm a t k) else if dropB nm = true then out else if nm ∈ p.el then putN out (.mk nm (attrsP p nm a) [] (clL p [] k)) else clL p out k
def clL (p : Pol) : List Node → List Node → List Node
 | out, [] => out
 | out, n :: r => clL p (clN p out n) r
end
def treeB (p : Pol) (l : List Node) : List Node := clL p [] l
theorem clN_eq (p : Pol) (out : List Node) (n : Node) : clN p out n = if n.name = [] then putN out n else if dropB n.name = true then out else if n.name ∈ p.el then putN out (.mk n.name (attrsP p n.name n.attrs) [] (clL p [] n.kids)) else clL p out n.kids := by cases n; rw [clN]; rfl
theorem clL_cons (p : Pol) (out : List Node) (n : Node) (r : List Node) : clL p out (n :: r) = clL p (clN p out n) r := by rw [clL]
theorem clL_nil (p : Pol) (out : List Node) : clL p out [] = out := by rw [clL]
theorem clL_app (p : Pol) : ∀ (a b out : List Node), clL p out (a ++ b) = clL p (clL p out a) b
 | [], b, out => by rw [List.nil_append, clL_nil]
 | n :: a, b, out => by rw [List.cons_append, clL_cons, clL_cons, clL_app p a b]
theorem putN_el {n : Node} (h : n.name ≠ []) (l : List Node) : putN l n = l ++ [n] := by unfold putN; rw [if_neg h]
theorem putN_nil {n : Node} (h : n.name = []) (ht : n.text = []) (l : List Node) : putN l n = l := by unfold putN; rw [if_pos h, if_pos ht]
theorem putN_text {n : Node} (h : n.name = []) (ht : n.text ≠ []) (ys : List Node) (m : Node) (hm : m.name = []) : putN (ys ++ [m]) n = ys ++ [.mk m.name m.attrs (m.text ++ n.text) m.kids] := by
 unfold putN
 rw [if_pos h, if_neg ht, List.getLast?_concat]
 show (if m.name = [] then _ else _) = _
 rw [if_pos hm, List.dropLast_concat]
def lastT (l : List Node) : Bool := match l.getLast? with
 | some n => decide (n.name = [])
 | none => false
theorem lastT_some {l : List Node} (h : lastT l = true) : ∃ ys m, l = ys ++ [m] ∧ m.name = [] := by
 unfold lastT at h
 cases hg : l.getLast? with
 | none => rw [hg] at h; cases h
 | some m =>
  rw [hg] at h
  obtain ⟨ys, hys⟩ := List.getLast?_eq_some_iff.1 hg
  exact ⟨ys, m, hys, of_decide_eq_true h⟩
theorem putN_new {n : Node} (h : n.name = []) (ht : n.text ≠ []) {l : List Node} (hl : lastT l = false) : putN l n = l ++ [.mk [] [] n.text []] := by
 unfold putN
 rw [if_pos h, if_neg ht]
 unfold lastT at hl
 cases hg : l.getLast? with
 | none => rfl
 | some m =>
  rw [hg] at hl
  show (if m.name = [] then _ else _) = _
  rw [if_neg (of_decide_eq_false hl)]
theorem lastT_snoc (l : List Node) (n : Node) : lastT (l ++ [n]) = decide (n.name = []) := by
 unfold lastT; rw [List.getLast?_concat]
theorem putN_same {n m : Node} (h1 : n.name = []) (h2 : m.name = []) (h3 : n.text = m.text) (l : List Node) : putN l n = putN l m := by
 unfold putN; rw [if_pos h1, if_pos h2, h3]
theorem putN_two (A : List Node) (m n : Node) (hm : m.name = []) (hn : n.name = []) (ht : n.text ≠ []) : putN A (.mk m.name m.attrs (m.text ++ n.text) m.kids) = putN (putN A m) n := by
 have hx : (Node.mk m.name m.attrs (m.text ++ n.text) m.kids).name = [] := hm
 by_cases hmt : m.text = []
 ·rw [putN_nil hm hmt]
  exact putN_same hx hn (by show m.text ++ n.text = n.text; rw [hmt]; rfl) A
 ·have hxt : (Node.mk m.name m.attrs (m.text ++ n.text) m.kids).text ≠ [] := fun e => hmt (List.append_eq_nil_iff.1 e).1
  cases hl : lastT A with
  | true =>
   obtain ⟨ys, w, rfl, hw⟩ := lastT_some hl
   rw [putN_text hx hxt ys w hw, putN_text hm hmt ys w hw, putN_text hn ht ys (.mk w.name w.attrs (w.text ++ m.text) w.kids) hw]
   show ys ++ [Node.mk w.name w.attrs (w.text ++ (m.text ++ n.text)) w.kids] = ys ++ [Node.mk w.name w.attrs ((w.text ++ m.text) ++ n.text) w.kids]
   rw [List.append_assoc]
  | false =>
   rw [putN_new hx hxt hl, putN_new hm hmt hl, putN_text hn ht A _ rfl]; rfl
theorem fold_put (out y : List Node) (n : Node) : (putN y n).foldl putN out = putN (y.foldl putN out) n := by
 by_cases hn : n.name = []
 ·by_cases ht : n.text = []
  ·rw [putN_nil hn ht, putN_nil hn ht]
  ·cases hl : lastT y with
   | true =>
    obtain ⟨ys, m, rfl, hm⟩ := lastT_some hl
    rw [putN_text hn ht ys m hm, List.foldl_append, List.foldl_append]
    exact putN_two _ m n hm hn ht
   | false =>
    rw [putN_new hn ht hl, List.foldl_append]
    exact putN_same (n := .mk [] [] n.text []) rfl hn rfl _
 ·rw [putN_el hn, List.foldl_append]; rfl
end Go.Proofs.YthngplknbbcecaaGreatDoor

namespace Go.Proofs.YthngplknbbcecaaGreatDoor
open Go.Aw
set_option maxHeartbeats 1600000
set_option linter.unusedSimpArgs false
set_option linter.unusedVariables false
set_option maxRecDepth 100000 in
theorem Place_ok (s : List UInt8) : PureC Tryz.prog 165 [.d (.str s)] (.d (.bool (decide (s ∈ places)))) := by
 have hc1 := Contains_ok places s (by decide)
 refine pure_okT Tryz.wf Tryz.tab_ok Tryz.func165 (by decide +kernel) rfl rfl rfl rfl ?_
 refine wR (k := ?_)
 refine ⟨_, _, _, rfl, rfl, by decide, rfl, ?_⟩
 refine wR (k := ?_)
 exact ⟨_, _, fin_out rfl, rfl⟩
set_option maxRecDepth 100000 in
set_option maxHeartbeats 1000000 in
theorem Value2_ok (p : Pol) (el nm v : List UInt8) (hp : Fits p) (he : el.length ≤ 1000000) (h1 : nm.length ≤ 1000000) (h2 : v.length ≤ 400000) : PureC Tryz.prog 121 [polA p, .d (.str el), .agg [.d (.str nm), .d (.str v)]] (.d (.bool (valueP p el (nm, v)))) := by
 have hc1 := Elem_ok p el hp
 unfold valueP
 dsimp only
 by_cases hE : el ∈ p.el
 ·rw [decide_eq_true hE, Bool.true_and]
  rw [decide_eq_true hE] at hc1
  by_cases hr : nm = relN
  ·subst hr
   rw [if_pos rfl]
   refine pure_okT Tryz.wf Tryz.tab_ok Tryz.func121 (by decide +kernel) rfl rfl rfl rfl ?_
   repeat' (first | refine PureC.use hc1 ?_ | refine PureC.use hc2 ?_ | refine PureC.use hc3 ?_ | refine PureC.use hc4 ?_ | refine wO ?_ | (refine ⟨fun h => ?_, fun h => ?_⟩ <;> (try simp only [wS, List.length_cons, List.length_nil] at h) <;> (try exact wX h)) | refine wP ?_ | fail)
   all_goals first | exact ⟨_, _, fin_out rfl, rfl⟩ | exact ⟨_, _, fin_out rfl, congrArg (fun b => AV.d (.bool b)) (by first | (simp_all [aN, forcedB]; done) | (simp_all [aN, forcedB]; exact decide_eq_decide.2 Iff.rfl))⟩
  ·rw [if_neg hr]
   have hr' : ¬ nm = [114, 101, 108] := hr
   clear hr
   by_cases hs : nm = styN
   ·subst hs
    rw [if_pos rfl]
    have hc2 := Filter_ok p.pr v (by have := hp.pr.1; omega) (by omega)
    by_cases hv : v = []
    ·subst hv
     refine pure_okT Tryz.wf Tryz.tab_ok Tryz.func121 (by decide +kernel) rfl rfl rfl rfl ?_
     refine wR (k := ?_)
     refine drawnT Tryz.wf Tryz.tab_ok Tryz.mixed (by decide +kernel) ?_; repeat' (first | refine qstep rfl rfl (fin_eq (congrArg (fun b => AV.d (.bool b)) hq1)) ?_ | refine qO ?_ | refine qP ?_ | fail)
     repeat' (first | refine PureC.use hc1 ?_ | refine PureC.use hc2 ?_ | refine PureC.use hc3 ?_ | refine PureC.use hc4 ?_ | refine wO ?_ | (refine ⟨fun h => ?_, fun h => ?_⟩ <;> (try simp only [wS, List.length_cons, List.length_nil] at h) <;> (try exact wX h)) | refine wP ?_ | fail)
     all_goals first | exact ⟨_, _, fin_out rfl, rfl⟩ | exact ⟨_, _, fin_out rfl, congrArg (fun b => AV.d (.bool b)) (by first | (simp_all [aN, forcedB]; done) | (simp_all [aN, forcedB]; exact decide_eq_decide.2 Iff.rfl))⟩
    ·have hq1 : (!decide (v = [])) = true := by rw [decide_eq_false hv]; rfl
     refine pure_okT Tryz.wf Tryz.tab_ok Tryz.func121 (by decide +kernel) rfl rfl rfl rfl ?_
     refine wR (k := ?_)
     refine drawnT Tryz.wf Tryz.tab_ok Tryz.mixed (by decide +kernel) ?_; repeat' (first | refine qstep rfl rfl (fin_eq (congrArg (fun b => AV.d (.bool b)) hq1)) ?_ | refine qO ?_ | refine qP ?_ | fail)
     repeat' (first | refine PureC.use hc1 ?_ | refine PureC.use hc2 ?_ | refine PureC.use hc3 ?_ | refine PureC.use hc4 ?_ | refine wO ?_ | (refine ⟨fun h => ?_, fun h => ?_⟩ <;> (try simp only [wS, List.length_cons, List.length_nil] at h) <;> (try exact wX h)) | refine wP ?_ | fail)
     all_goals first | exact ⟨_, _, fin_out rfl, rfl⟩ | exact ⟨_, _, fin_out rfl, congrArg (fun b => AV.d (.bool b)) (by first | (simp_all [aN, forcedB]; done) | (simp_all [aN, forcedB]; exact decide_eq_decide.2 Iff.rfl))⟩
   ·rw [if_neg hs]
    have hs' : ¬ nm = [115, 116, 121, 108, 101] := hs
    clear hs
    have hc2 := Attr_ok p el nm hp he h1
    by_cases hk : nm = clsN
    ·subst hk
     rw [if_pos rfl]
     have hc3 := classes_ok v p.cl (by omega) (by have := hp.cl.1; omega)
     refine pure_okT Tryz.wf Tryz.tab_ok Tryz.func121 (by decide +kernel) rfl rfl rfl rfl ?_
     cases hA : attrP p el clsN with
     | false =>
      rw [hA] at hc2
      repeat' (first | refine PureC.use hc1 ?_ | refine PureC.use hc2 ?_ | refine PureC.use hc3 ?_ | refine PureC.use hc4 ?_ | refine wO ?_ | (refine ⟨fun h => ?_, fun h => ?_⟩ <;> (try simp only [wS, List.length_cons, List.length_nil] at h) <;> (try exact wX h)) | refine wP ?_ | fail)
      all_goals first | exact ⟨_, _, fin_out rfl, rfl⟩ | exact ⟨_, _, fin_out rfl, congrArg (fun b => AV.d (.bool b)) (by first | (simp_all [aN, forcedB]; done) | (simp_all [aN, forcedB]; exact decide_eq_decide.2 Iff.rfl))⟩
     | true =>
      rw [hA] at hc2
      repeat' (first | refine PureC.use hc1 ?_ | refine PureC.use hc2 ?_ | refine PureC.use hc3 ?_ | refine PureC.use hc4 ?_ | refine wO ?_ | (refine ⟨fun h => ?_, fun h => ?_⟩ <;> (try simp only [wS, List.length_cons, List.length_nil] at h) <;> (try exact wX h)) | refine wP ?_ | fail)
      all_goals first | exact ⟨_, _, fin_out rfl, rfl⟩ | exact ⟨_, _, fin_out rfl, congrArg (fun b => AV.d (.bool b)) (by first | (simp_all [aN, forcedB]; done) | (simp_all [aN, forcedB]; exact decide_eq_decide.2 Iff.rfl))⟩
    ·rw [if_neg hk]
     have hk' : ¬ nm = [99, 108, 97, 115, 115] := hk
     clear hk
     have hc3 := Place_ok nm
     have hc4 := Allowed_ok v p.sc (by omega) (by have := hp.sc.1; omega)
     refine pure_okT Tryz.wf Tryz.tab_ok Tryz.func121 (by decide +kernel) rfl rfl rfl rfl ?_
     cases hA : attrP p el nm with
     | false =>
      rw [hA] at hc2
      repeat' (first | refine PureC.use hc1 ?_ | refine PureC.use hc2 ?_ | refine PureC.use hc3 ?_ | refine PureC.use hc4 ?_ | refine wO ?_ | (refine ⟨fun h => ?_, fun h => ?_⟩ <;> (try simp only [wS, List.length_cons, List.length_nil] at h) <;> (try exact wX h)) | refine wP ?_ | fail)
      all_goals first | exact ⟨_, _, fin_out rfl, rfl⟩ | exact ⟨_, _, fin_out rfl, congrArg (fun b => AV.d (.bool b)) (by first | (simp_all [aN, forcedB]; done) | (simp_all [aN, forcedB]; exact decide_eq_decide.2 Iff.rfl))⟩
     | true =>
      rw [hA] at hc2
      by_cases hpl : nm ∈ places
      ·rw [decide_eq_true hpl] at hc3 ⊢
       repeat' (first | refine PureC.use hc1 ?_ | refine PureC.use hc2 ?_ | refine PureC.use hc3 ?_ | refine PureC.use hc4 ?_ | refine wO ?_ | (refine ⟨fun h => ?_, fun h => ?_⟩ <;> (try simp only [wS, List.length_cons, List.length_nil] at h) <;> (try exact wX h)) | refine wP ?_ | fail)
       all_goals first | exact ⟨_, _, fin_out rfl, rfl⟩ | exact ⟨_, _, fin_out rfl, congrArg (fun b => AV.d (.bool b)) (by first | (simp_all [aN, forcedB]; done) | (simp_all [aN, forcedB]; exact decide_eq_decide.2 Iff.rfl))⟩
      ·rw [decide_eq_false hpl] at hc3 ⊢
       repeat' (first | refine PureC.use hc1 ?_ | refine PureC.use hc2 ?_ | refine PureC.use hc3 ?_ | refine PureC.use hc4 ?_ | refine wO ?_ | (refine ⟨fun h => ?_, fun h => ?_⟩ <;> (try simp only [wS, List.length_cons, List.length_nil] at h) <;> (try exact wX h)) | refine wP ?_ | fail)
       all_goals first | exact ⟨_, _, fin_out rfl, rfl⟩ | exact ⟨_, _, fin_out rfl, congrArg (fun b => AV.d (.bool b)) (by first | (simp_all [aN, forcedB]; done) | (simp_all [aN, forcedB]; exact decide_eq_decide.2 Iff.rfl))⟩
 ·rw [decide_eq_false hE] at hc1 ⊢
  refine pure_okT Tryz.wf Tryz.tab_ok Tryz.func121 (by decide +kernel) rfl rfl rfl rfl ?_
  refine wR (k := ?_)
  exact ⟨_, _, fin_out rfl, rfl⟩
set_option maxRecDepth 100000 in
set_option maxHeartbeats 1000000 in
theorem Dropped_ok (s : List UInt8) : PureC Tryz.prog 20 [.d (.str s)] (.d (.bool (dropB s))) := by
 have hc1 := tRaw_ok s
 rw [rawV_fst] at hc1
 by_cases hs : s ∈ droppedL
 ·have hr : dropB s = true := by unfold dropB; rw [decide_eq_true hs]; rfl
  rw [hr]
  clear hr hc1
  simp only [droppedL, List.mem_cons, List.not_mem_nil, or_false] at hs
  refine pure_okT Tryz.wf Tryz.tab_ok Tryz.func20 (by decide +kernel) rfl rfl rfl rfl ?_
  rcases hs with rfl | rfl | rfl | rfl | rfl | rfl | rfl | rfl | rfl
  all_goals
   refine wR (k := ?_)
   exact ⟨_, _, fin_out rfl, rfl⟩
 ·have hr : dropB s = rawB s := by unfold dropB; rw [decide_eq_false hs]; rfl
  rw [hr]
  simp only [droppedL, List.mem_cons, List.not_mem_nil, or_false, not_or] at hs
  obtain ⟨n1, n2, n3, n4, n5, n6, n7, n8, n9⟩ := hs
  refine pure_okT Tryz.wf Tryz.tab_ok Tryz.func20 (by decide +kernel) rfl rfl rfl rfl ?_
  refine wR (k := ?_)
  exact ⟨_, _, fin_out rfl, rfl⟩
theorem lensB_two : ∀ (l : List (List UInt8)), l.Nodup → 2 ≤ l.length → lensB l ≠ 0
 | [], _, h => by simp at h
 | [_], _, h => by simp at h
 | a :: b :: r, hn, _ => fun e => by
  have e1 : lensB (a :: b :: r) = a.length + (b.length + lensB r) := by simp [lensB]
  rw [e1] at e
  have ha : a = [] := List.length_eq_zero_iff.1 (by omega)
  have hb : b = [] := List.length_eq_zero_iff.1 (by omega)
  rw [ha, hb] at hn
  simp at hn
set_option maxRecDepth 100000 in
set_option maxHeartbeats 1000000 in
theorem sclasses_ok (v : List UInt8) (l : List (List UInt8)) (hv : v.length ≤ 100000) (hl : l.length ≤ 1000000) : PureC Tryz.prog 171 [.d (.str v), .d (.sl (strsD l))] (.d (.str (clsT l v))) := by
 have hc1 := Split_ok 32 v (by omega)
 have hn := strsD_len (splitB 32 v)
 have hcnt := splitB_len 32 v
 have hcl := List.count_le_length (a := 32) (l := v)
 have hbd := splitB_bound 32 v
 unfold clsT
 generalize splitB 32 v = ps at *
 refine pure_okT Tryz.wf Tryz.tab_ok Tryz.func171 (by decide +kernel) rfl rfl rfl rfl ?_
 refine wR (k := ?_)
 refine loopT Tryz.wf Tryz.tab_ok (fun n s' σ => ∃ (k : Nat) (q : List (List UInt8)), n = ps.length - k ∧ k ≤ ps.length ∧ q.length ≤ k ∧ q.Nodup ∧ (∀ x ∈ q, x.length ≤ 100000) ∧ clsF l [] ps = q ++ clsF l q.reverse (ps.drop k) ∧ s' = [(1, .d (.sl (strsD l))), (5, .mp 0), (6, .own 1 0 q.length), (11, .d (.sl (strsD ps))), (12, .d (.int .i64 ps.length)), (13, .d (.int .i64 k))] ∧ σ = ⟨2, [(1, .rows (1, 9) (strsA q)), (0, .map (seenR q.reverse))]⟩)
  ⟨0, [], rfl, Nat.zero_le _, Nat.le_refl _, List.nodup_nil, fun _ h => (by cases h), rfl, rfl, rfl⟩ (Mv.of [.old 0, .phan 1] rfl rfl rfl ⟨rfl, .inl ⟨rfl, seenR_pure _⟩, trivial⟩ ⟨rfl, rfl, ⟨rfl, rfl, rfl⟩, rfl, congrArg (fun n : Nat => D.int .i64 n) hn.symm, rfl, trivial⟩) ?_
 rintro _ _ _ ⟨k, q, rfl, hk, hqk, hnd, hql, hI, rfl, rfl⟩
 have hlq := strsA_len q
 by_cases hlt : k < ps.length
 ·have hg := strsD_get ps k hlt
  have hpl := hbd _ (List.getElem_mem hlt)
  rw [List.drop_eq_getElem_cons hlt, clsF] at hI
  have hc2 := Contains_ok l ps[k] (by omega)
  have hst := strsA_snoc q ps[k]
  have hnd2 : ps[k] ∉ q → (q ++ [ps[k]]).Nodup := fun h => by
   rw [List.nodup_append]
   exact ⟨hnd, by simp, fun a ha b hb e => h (by rw [List.mem_singleton] at hb; rw [← hb, ← e]; exact ha)⟩
  have hql2 : ∀ x ∈ q ++ [ps[k]], x.length ≤ 100000 := fun x hx => by
   rcases List.mem_append.1 hx with hx | hx
   ·exact hql x hx
   ·rw [List.mem_singleton] at hx; rw [hx]; omega
  have hrev : (q ++ [ps[k]]).reverse = ps[k] :: q.reverse := by simp
  generalize ps[k] = w at *
  refine wR (k := ?_)
  refine ⟨_, _, rfl, seenR_keys q.reverse, rfl, rfl, ?_⟩
  rw [seenR_look]
  by_cases hin : w ∈ q
  ·have hin2 : w ∈ q.reverse := by simpa using hin
   rw [decide_eq_true hin2] at hI ⊢
   rw [if_neg (by simp)] at hI
   clear hc2
   refine wR (k := ?_)
   exact ⟨_, _, _, ⟨k + 1, q, rfl, hlt, by omega, hnd, hql, hI, rfl, rfl⟩, by omega, Mv.of [.old 0, .old 1] rfl rfl rfl ⟨⟨rfl, .inl ⟨rfl, strsA_pure _⟩⟩, .inl ⟨rfl, seenR_pure _⟩, trivial⟩ ⟨rfl, rfl, ⟨rfl, rfl, rfl⟩, rfl, rfl, rfl, trivial⟩⟩
  ·have hin2 : w ∉ q.reverse := by simpa using hin
   rw [decide_eq_false hin2] at hI ⊢
   by_cases hin3 : w ∈ l
   ·rw [decide_eq_true hin3] at hI hc2
    rw [if_pos (by rfl), ← hrev] at hI
    have hnd3 := hnd2 hin
    refine wR (k := ?_)
    refine ⟨seenR_keys _, ?_⟩
    refine wR (k := ?_)
    refine ⟨strsA q, [_], congrArg some (takeAll hlq), rfl, (show srcLen (.own 1 0 q.length) _ from hlq), rfl, (by rw [hlq]; show (q.length + 1) * 16 ≤ 140737488355328; omega), Nat.le_of_ble_eq_true rfl, Nat.le_of_ble_eq_true rfl, rfl, rfl, strsA_rows q, rowsOne rfl rfl, ?_⟩
    refine wR (k := ?_)
    exact ⟨_, _, _, ⟨k + 1, q ++ [w], rfl, hlt, by simp; omega, hnd3, hql2, by rw [hI]; simp, rfl, rfl⟩, by omega, Mv.of [.old 0, .old 3] rfl rfl rfl ⟨⟨rfl, .inl ⟨hst, strsA_pure _⟩⟩, .inl ⟨(by rw [hrev]; rfl), seenR_pure _⟩, trivial⟩ ⟨rfl, rfl, ⟨rfl, rfl, by simp [strsA_len]⟩, rfl, rfl, rfl, trivial⟩⟩
   ·rw [decide_eq_false hin3] at hI hc2
    rw [if_neg (by simp)] at hI
    refine wR (k := ?_)
    exact ⟨_, _, _, ⟨k + 1, q, rfl, hlt, by omega, hnd, hql, hI, rfl, rfl⟩, by omega, Mv.of [.old 0, .old 1] rfl rfl rfl ⟨⟨rfl, .inl ⟨rfl, strsA_pure _⟩⟩, .inl ⟨rfl, seenR_pure _⟩, trivial⟩ ⟨rfl, rfl, ⟨rfl, rfl, rfl⟩, rfl, rfl, rfl, trivial⟩⟩
 ·have hk' : k = ps.length := by omega
  subst hk'
  rw [List.drop_length, clsF, List.append_nil] at hI
  have hmx : lensB q ≤ q.length * 100000 := lensB_max hql
  have hj := Join_ok [32] q (by decide) (by decide) (by omega) (by omega) (lensB_two q hnd)
  rw [hI]
  refine wR (k := ?_)
  refine CallsAbs.use1 (PureC.borrow 1 hj rfl ?_) ?_
  ·have e := see_own (σ := ⟨2, [(1, .rows (1, 9) (strsA q)), (0, .map (seenR q.reverse))]⟩) (n := 0) (i := 1) (len := q.length) (sz := (1, 9)) (ds := strsD q) rfl (strsD_len q).symm
   show optL (seeV ⟨2, [(1, .rows (1, 9) (strsA q)), (0, .map (seenR q.reverse))]⟩ 1) [.own 1 0 q.length, .d (.str [32])] = _
   simp only [optL, seeV, e, seeD_d, Option.map_some]
  refine wR (k := ?_)
  exact ⟨_, _, fin_out rfl, rfl⟩
theorem inLi_mono (nm : List UInt8) {li li' : Bool} (h : li' = true → li = true) : inLi li' nm = true → inLi li nm = true := by
 unfold inLi
 split
 ·exact fun _ => rfl
 ·split
  ·exact id
  ·exact h
theorem safe_parts {p : Pol} {l : List Node} : safeB p l = true ↔ (szL l : Int) ≤ p.nd ∧ (dpL l : Int) ≤ p.dp ∧ (szL l ≤ 2000 ∧ dpL l ≤ 64 ∧ stL false false false l = true) ∧ innL p l = true := by
 unfold safeB stableB
 simp only [Bool.and_eq_true, decide_eq_true_eq]
 exact ⟨fun ⟨a, b, ⟨⟨c, d⟩, e⟩, f⟩ => ⟨a, b, ⟨c, d, e⟩, f⟩, fun ⟨a, b, ⟨c, d, e⟩, f⟩ => ⟨a, b, ⟨⟨c, d⟩, e⟩, f⟩⟩
theorem right_sizes {p : Pol} (h : rightB p = true) : 1 ≤ p.dp ∧ 1 ≤ p.nd := by
 unfold rightB sizesB at h
 rw [Bool.and_eq_true, decide_eq_true_eq] at h
 omega
theorem safe_text {p : Pol} (h : rightB p = true) (s : List UInt8) : safeB p [.mk [] [] s []] = !decide (s = []) := by
 have := right_sizes h
 have hnm : (Node.mk [] [] s []).name = [] := rfl
 by_cases hs : s = []
 ·rw [decide_eq_true hs]
  cases hc : safeB p [.mk [] [] s []] with
  | false => rfl
  | true =>
   rw [safe_parts] at hc
   have h5 := hc.2.2.1.2.2
   rw [stL_cons, if_pos hnm] at h5
   simp only [Bool.and_eq_true, Bool.not_eq_true', decide_eq_false_iff_not] at h5
   exact absurd hs h5.1.1.1.2
 ·rw [decide_eq_false hs]
  refine safe_parts.2 ⟨?_, ?_, ⟨?_, ?_, ?_⟩, ?_⟩
  ·rw [szL_cons, szN_eq]; show ((1 + szL [] + szL [] : Nat) : Int) ≤ _; rw [szL]; omega
  ·rw [dpL_cons, dpN_eq, if_pos hnm, dpL]; show ((0 : Nat) : Int) ≤ _; omega
  ·rw [szL_cons, szN_eq]; show 1 + szL [] + szL [] ≤ _; rw [szL]; omega
  ·rw [dpL_cons, dpN_eq, if_pos hnm, dpL]; show 0 ≤ 64; omega
  ·rw [stL_cons, if_pos hnm, stL]
   simp only [Bool.and_true, Bool.and_eq_true, decide_eq_true_eq, Bool.not_eq_true', decide_eq_false_iff_not]
   refine ⟨⟨⟨?_, hs⟩, ?_⟩, ?_⟩ <;> first | rfl | trivial
  ·rw [innL_cons, innN_eq, innL]; rfl
def keptP (props : List (List UInt8)) (s : List UInt8) : List Pair := (pairsB s).filter (keepB props)
theorem filter_join (props : List (List UInt8)) (s : List UInt8) : filterB props s = joinB [59, 32] ((lastsL (keptP props s)).map txtB) := filterB_eq props s
theorem list_all {f : List UInt8 → Bool} {l : List (List UInt8)} (h : listB f l = true) : ∀ s ∈ l, f s = true := by
 unfold listB at h
 rw [Bool.and_eq_true, Bool.and_eq_true, List.all_eq_true] at h
 exact h.1.2
theorem right_all {p : Pol} (h : rightB p = true) : sizesB p = true ∧ listB elemOk p.el = true ∧ listB (attrOk p.el) p.at' = true ∧ listB schemeOk p.sc = true ∧ listB wordB p.cl = true ∧ listB wordB p.pr = true ∧ pliB p.el = true := by
 unfold rightB at h
 simp only [Bool.and_eq_true] at h
 exact h
theorem u8n (m : Nat) (h : m ≤ 255) : (((UInt8.ofNat m).toNat : Nat) : Int) = m := by simp; omega
theorem row1 (m : Nat) (h : m ≤ 255) : ([[.d (.int .u8 (m : Int))]] : List (List AV)) = bytesA [UInt8.ofNat m] := by
 unfold bytesA; simp only [List.map_cons, List.map_nil, u8n m h]
def tabA : List AV := nameTab.flatMap fun e => [.d (.str e.1), .d (.int .i32 e.2)]
theorem pairs_at : ∀ (l : List (List UInt8 × Int)) (k : Nat) (h : k < l.length), ((l.flatMap fun e => [AV.d (.str e.1), .d (.int .i32 e.2)]).drop (k * 2)).take 2 = [.d (.str l[k].1), .d (.int .i32 l[k].2)]
 | e :: l, 0, _ => rfl
 | e :: l, k + 1, h => by
  have := pairs_at l k (by simpa using h)
  rw [List.flatMap_cons, Nat.add_mul, List.drop_append]
  simpa using this
set_option maxRecDepth 100000 in
theorem Named_ok (s : List UInt8) : PureC Tryz.prog 102 [.d (.str s)] (optV (named s)) := by
 refine pure_okT Tryz.wf Tryz.tab_ok Tryz.func102 (by decide +kernel) rfl rfl rfl (optV_pure _) ?_
 refine ⟨_, rfl, rfl, by decide, _, rfl, by decide, ?_⟩
 refine loopT Tryz.wf Tryz.tab_ok (fun n s' σ => ∃ k : Nat, n = 22 - k ∧ k ≤ 22 ∧ (∀ j (hj : j < nameTab.length), j < k → nameTab[j].1 ≠ s) ∧ s' = [(0, .d (.str s)), (30, .agg tabA), (31, .d (.int .i64 k))] ∧ σ = ⟨0, []⟩)
  ⟨0, rfl, Nat.zero_le _, fun j _ h => absurd h (by omega), rfl, rfl⟩ (Mv.of [] rfl rfl rfl trivial ⟨rfl, vrel_self (.agg tabA) rfl, rfl, trivial⟩) ?_
 rintro _ _ _ ⟨k, rfl, hk, hI, rfl, rfl⟩
 refine ⟨fun h => ?_, fun h => ?_⟩
 ·have hlt : k < 22 := by have := of_decide_eq_true h; omega
  have hlt' : k < nameTab.length := hlt
  have e := pairs_at nameTab k hlt'
  refine ⟨⟨by omega, by omega⟩, rfl, ?_⟩
  have e' : List.take (nth Tryz.tab 158).size (List.drop (((k : Nat) : Int).toNat * (nth Tryz.tab 158).size) tabA) = [.d (.str nameTab[k].1), .d (.int .i32 nameTab[k].2)] := by
   rw [Int.toNat_natCast]; exact e
  rw [e']
  refine ⟨_, rfl, rfl, Nat.le_refl _, _, rfl, _, rfl, fun h1 => ?_, fun h1 => ?_⟩
  ·have h1' : nameTab[k].1 = s := of_decide_eq_true h1
   refine ⟨_, rfl, _, rfl, ?_⟩
   exact ⟨_, _, fin_out rfl, by rw [named_hit hlt' hI h1']; rfl⟩
  ·have h1' : ¬ nameTab[k].1 = s := of_decide_eq_false h1
   refine .inl ⟨⟨by omega, by omega⟩, _, _, _, ⟨k + 1, rfl, hlt, fun j hj hjk => ?_, rfl, rfl⟩, by omega, Mv.of [] rfl rfl rfl trivial ⟨rfl, vrel_self (.agg tabA) rfl, rfl, trivial⟩⟩
   by_cases hj2 : j = k
   ·subst hj2; exact h1'
   ·exact hI j hj (by omega)
 ·have hk' : k = 22 := by have := of_decide_eq_false h; omega
  subst hk'
  exact ⟨_, _, FinMove.refl _ _ _, by rw [named_miss (fun j hj => hI j hj hj)]; rfl⟩
def numV : Option Nat → AV
 | some n => .tup [.d (.int .i64 n), .d (.bool true)]
 | none => .tup [.d (.int .i64 0), .d (.bool false)]
theorem numV_pure (o : Option Nat) : (numV o).pure = true := by cases o <;> rfl
def hexs : List UInt8 := [48, 49, 50, 51, 52, 53, 54, 55, 56, 57, 97, 98, 99, 100, 101, 102]
theorem hexs_all : ∀ n < 256, ¬ (65 ≤ n ∧ n ≤ 90) → idxB (UInt8.ofNat n) hexs = match hexv (UInt8.ofNat n) with | some d => (d : Int) | none => -1 := by decide +kernel
theorem hexs_at (c : UInt8) (h : ¬ (65 ≤ c.toNat ∧ c.toNat ≤ 90)) : idxB c hexs = match hexv c with | some d => (d : Int) | none => -1 := by
 have := hexs_all c.toNat c.toNat_lt h
 simpa using this
theorem hex_hi (c : UInt8) (h : 128 ≤ c.toNat) : hexv c = none := by
 unfold hexv
 rw [if_neg (by omega), if_neg (by omega), if_neg (by omega)]
theorem hex_low (c : UInt8) : hexv (lowB c) = hexv c := by
 by_cases h : 65 ≤ c.toNat ∧ c.toNat ≤ 90
 ·have := lowB_hi c h
  unfold hexv
  by_cases h2 : c.toNat ≤ 70
  ·rw [if_neg (by omega), if_pos (by omega), if_neg (by omega), if_neg (by omega), if_pos (by omega)]
   congr 1; omega
  ·rw [if_neg (by omega), if_neg (by omega), if_neg (by omega), if_neg (by omega), if_neg (by omega), if_neg (by omega)]
 ·rw [lowB_lo c h]
theorem digs_cons (base : Nat) (c : UInt8) (r : List UInt8) (n : Nat) : digs base (c :: r) n = match hexv c with
  | some d => if d < base then digs base r (n * base + d) else none
  | none => none := rfl
theorem digs_lower (base : Nat) : ∀ (s : List UInt8) (n : Nat), digs base (lower s) n = digs base s n
 | [], _ => rfl
 | c :: r, n => by
  show digs base (lowB c :: lower r) n = _
  unfold digs
  rw [hex_low]
  split
  ·rw [digs_lower base r]
  ·rfl
theorem low_not (s : List UInt8) : ∀ c ∈ lower s, ¬ (65 ≤ c.toNat ∧ c.toNat ≤ 90) := by
 intro c hc
 obtain ⟨d, _, rfl⟩ := List.mem_map.1 hc
 by_cases h : 65 ≤ d.toNat ∧ d.toNat ≤ 90
 ·have := lowB_hi d h; omega
 ·rw [lowB_lo d h]; exact h
theorem pow16 {k : Nat} (h : k ≤ 7) : 16 ^ k ≤ 268435456 := Nat.pow_le_pow_right (by decide) h
set_option maxRecDepth 100000 in
theorem number_ok (s : List UInt8) (base most : Nat) (hs : s.length ≤ 9223372036854775807) (hb : base ≤ 16) (hm : most ≤ 7) : PureC Tryz.prog 103 [.d (.str s), .d (.int .i64 base), .d (.int .i64 most)] (numV (number s base most)) := by
 refine pure_okT Tryz.wf Tryz.tab_ok Tryz.func103 (by decide +kernel) rfl rfl rfl (numV_pure _) ?_
 have no : number s base most = none → ∃ r2 σ2, FinMove ⟨0, []⟩ (.tup [.d (.int .i64 0), .d (.bool false)]) ⟨0, []⟩ r2 σ2 ∧ r2 = numV (number s base most) := fun h => ⟨_, _, fin_out rfl, by rw [h]; rfl⟩
 refine ⟨fun h1 => ⟨fun h2 => ?_, fun h2 => ?_⟩, fun h1 => ?_⟩
 ·exact no (if_pos (.inr (by have := of_decide_eq_true h2; omega)))
 ·have h1' : s ≠ [] := of_decide_eq_false h1
  have h2' : s.length ≤ most := by have := of_decide_eq_false h2; omega
  have hN : number s base most = digs base (lower s) 0 := by rw [digs_lower]; exact if_neg (by rintro (h | h); exact h1' h; omega)
  clear h1 h2
  refine PureC.use (Lower_ok s hs) ?_
  have hbl : (lower s).length ≤ 7 := by rw [show (lower s).length = s.length by simp [lower]]; omega
  have hnot := low_not s
  generalize lower s = b at *
  refine loopT Tryz.wf Tryz.tab_ok (fun m s' σ => ∃ k n : Nat, m = b.length - k ∧ k ≤ b.length ∧ n + 1 ≤ 16 ^ k ∧ digs base b 0 = digs base (b.drop k) n ∧ s' = [(1, .d (.int .i64 base)), (8, .d (.int .i64 n)), (22, .ref 0 0 0)] ∧ σ = ⟨1, [(0, .iter b k)]⟩)
   ⟨0, 0, rfl, Nat.zero_le _, by simp, rfl, rfl, rfl⟩ (Mv.of [.old 0] rfl rfl rfl ⟨⟨rfl, rfl⟩, trivial⟩ ⟨rfl, rfl, ⟨rfl, rfl, rfl⟩, trivial⟩) ?_
  rintro _ _ _ ⟨k, n, rfl, hk, hn, hI, rfl, rfl⟩
  have h16 := pow16 (k := k) (by omega)
  refine ⟨fun hlt => ?_, fun hge => ?_⟩
  ·have hd : b.drop k = b[k] :: b.drop (k + 1) := List.drop_eq_getElem_cons hlt
   have no' : digs base b 0 = none → ∃ r2 σ2, FinMove ⟨0, []⟩ (.tup [.d (.int .i64 0), .d (.bool false)]) ⟨1, [(0, .iter b (k + (Utf8.decode ⟨b.toArray⟩ k).2)), (0, .iter b k)]⟩ r2 σ2 ∧ r2 = numV (number s base most) := fun h => ⟨_, _, fin_out rfl, by rw [hN, h]; rfl⟩
   refine ⟨fun _ => ?_, fun h => absurd h (by decide)⟩
   by_cases hlo : b[k].toNat < 128
   ·have e := decode_lo b k hlt hlo
    rw [e] at no' ⊢
    have c1 := IndexByte_ok hexs b[k]
    rw [hexs_at b[k] (hnot _ (List.getElem_mem hlt))] at c1
    rw [hd, digs_cons] at hI
    cases hv : hexv b[k] with
    | none =>
     rw [hv] at hI c1
     refine .inl ⟨⟨by show 0 ≤ ((b[k].toNat : Nat) : Int); omega, by show ((b[k].toNat : Nat) : Int) ≤ 255; omega⟩, PureC.use c1 ?_⟩
     refine ⟨fun h1 => ⟨fun h2 => absurd h2 (by simp), fun h2 => no' hI⟩, fun h1 => no' hI⟩
    | some d =>
     rw [hv] at hI c1
     dsimp only at hI c1
     refine .inl ⟨⟨by show 0 ≤ ((b[k].toNat : Nat) : Int); omega, by show ((b[k].toNat : Nat) : Int) ≤ 255; omega⟩, PureC.use c1 ?_⟩
     refine ⟨fun h1 => ⟨fun h2 => ⟨fun h3 => ?_, fun h3 => ?_⟩, fun h2 => absurd h2 (by simp)⟩, fun h1 => absurd h1 (by simp; omega)⟩
     ·have h3' := of_decide_eq_true h3
      rw [if_neg (by omega)] at hI
      exact no' hI
     ·have h3' := of_decide_eq_false h3
      rw [if_pos (by omega)] at hI
      have hd16 := hexv_lt hv
      have hmul : n * base ≤ n * 16 := Nat.mul_le_mul_left _ hb
      have hcast : (n : Int) * (base : Int) = ((n * base : Nat) : Int) := by simp
      have hd0 : (0 : Int) ≤ (d : Int) := Int.natCast_nonneg d
      have hpos : (0 : Int) ≤ (n : Int) * (base : Int) := Int.mul_nonneg (by omega) (by omega)
      refine .inl ⟨⟨by omega, by omega⟩, .inl ⟨⟨by omega, by omega⟩, ?_⟩⟩
      ·refine ⟨_, _, _, ⟨k + 1, n * base + d, rfl, hlt, ?_, hI, rfl, rfl⟩, by omega, Mv.of [.old 0] rfl rfl rfl ⟨⟨rfl, rfl⟩, trivial⟩ ⟨rfl, ?_, ⟨rfl, rfl, rfl⟩, trivial⟩⟩
       ·rw [Nat.pow_succ]; omega
       ·exact congrArg (D.int .i64) (by simp)
   ·have hhi := decode_hi b k hlt (by omega)
    have hx : digs base b 0 = none := by rw [hI, hd, digs_cons, hex_hi _ (by omega)]
    generalize (Utf8.decode ⟨b.toArray⟩ k) = p at *
    obtain ⟨p1, p2⟩ := p
    have hw : IntKind.u8.wrap (p1 : Int) = (((UInt8.ofNat p1).toNat : Nat) : Int) := by
     simp [IntKind.wrap, IntKind.signed, IntKind.bits]
    refine .inr ?_
    rw [hw]
    refine PureC.use (IndexByte_ok hexs (UInt8.ofNat p1)) ?_
    refine ⟨fun h1 => ?_, fun h1 => no' hx⟩
    have h1' := of_decide_eq_false h1
    have := hhi.1
    dsimp only at this
    omega
  ·have hk' : k = b.length := by omega
   subst hk'
   rw [List.drop_length] at hI
   refine ⟨fun h => absurd h (by decide), fun _ => ?_⟩
   exact ⟨_, _, fin_out rfl, by rw [hN, hI]; rfl⟩
 ·exact no (if_pos (.inl (of_decide_eq_true h1)))
theorem cutPre_cons (c : UInt8) (d : List UInt8) : cutPre (c :: d) [c] = .tup [.d (.str d), .d (.bool true)] := by simp [cutPre, hasPre]
theorem cutPre_no (s : List UInt8) (c : UInt8) (h : ∀ d, s ≠ c :: d) : cutPre s [c] = .tup [.d (.str s), .d (.bool false)] := by
 have : hasPre s [c] = false := by
  cases s with
  | nil => rfl
  | cons x r =>
   have : x ≠ c := fun e => h r (by rw [e])
   simp [hasPre, this]
 rw [cutPre, this]; rfl
theorem hasPre_one (s : List UInt8) (c : UInt8) : hasPre s [c] = true ∨ (hasPre s [c] = false ∧ ∀ d, s ≠ c :: d) := by
 cases s with
 | nil => exact .inr ⟨rfl, by simp⟩
 | cons x r =>
  by_cases h : x = c
  ·subst h; exact .inl (by simp [hasPre])
  ·exact .inr ⟨by simp [hasPre, h], fun d e => h (by injection e)⟩
theorem hasPre_hit {s : List UInt8} {c : UInt8} (h : hasPre s [c] = true) : ∃ d, s = c :: d := by
 cases s with
 | nil => simp [hasPre] at h
 | cons x r => simp [hasPre] at h; exact ⟨r, by rw [h]⟩
set_option maxRecDepth 100000 in
theorem stands_ok (s : List UInt8) (hs : s.length ≤ 9223372036854775807) : PureC Tryz.prog 63 [.d (.str s)] (optV (stands s)) := by
 refine pure_okT Tryz.wf Tryz.tab_ok Tryz.func63 (by decide +kernel) rfl rfl rfl (optV_pure _) ?_
 by_cases hh : ∃ d, s = 35 :: d
 ·obtain ⟨d, rfl⟩ := hh
  simp only [List.length_cons] at hs
  have c0 := CutPrefix_ok (35 :: d) [35]
  rw [cutPre_cons] at c0
  refine PureC.use c0 ⟨fun h => absurd h (by decide), fun _ => ?_⟩
  rw [stands_hash]
  have small : ∀ (e : List UInt8) (b m n : Nat), b ≤ 16 → m ≤ 7 → number e b m = some n → n < 268435456 := fun e b m n hb hm h => by
   have h1 := number_pos h
   have h2 := digs_lt hb h1.2.2
   have h3 := pow16 (k := e.length) (by omega)
   omega
  have c1 := HasPrefix_ok d [120]
  have c2 := HasPrefix_ok d [88]
  refine PureC.use c1 ?_
  have key : ∃ (e : List UInt8) (b m : Nat), b ≤ 16 ∧ m ≤ 7 ∧ e.length ≤ d.length ∧ hashN d = number e b m ∧
    ((hasPre d [120] = true ∧ d = 120 :: e ∧ b = 16 ∧ m = 6) ∨ (hasPre d [120] = false ∧ hasPre d [88] = true ∧ d = 88 :: e ∧ b = 16 ∧ m = 6) ∨ (hasPre d [120] = false ∧ hasPre d [88] = false ∧ d = e ∧ b = 10 ∧ m = 7)) := by
   rcases hasPre_one d 120 with h1 | ⟨h1, n1⟩
   ·obtain ⟨e, rfl⟩ := hasPre_hit h1
    exact ⟨e, 16, 6, by decide, by decide, by simp, hash_x e, .inl ⟨h1, rfl, rfl, rfl⟩⟩
   ·rcases hasPre_one d 88 with h2 | ⟨h2, n2⟩
    ·obtain ⟨e, rfl⟩ := hasPre_hit h2
     exact ⟨e, 16, 6, by decide, by decide, by simp, hash_X e, .inr (.inl ⟨h1, h2, rfl, rfl, rfl⟩)⟩
    ·exact ⟨d, 10, 7, by decide, by decide, Nat.le_refl _, hash_d d n1 n2, .inr (.inr ⟨h1, h2, rfl, rfl, rfl⟩)⟩
  obtain ⟨e, b, m, hb, hm, hel, hN, hcase⟩ := key
  have c3 := number_ok e b m (by omega) hb hm
  have hsm := fun n h => small e b m n hb hm h
  rw [hN]
  rcases hcase with ⟨h1, rfl, rfl, rfl⟩ | ⟨h1, h2, rfl, rfl, rfl⟩ | ⟨h1, h2, rfl, rfl, rfl⟩
  ·rw [h1]
   refine ⟨fun h => absurd h (by decide), fun _ => ?_⟩
   refine drawnT Tryz.wf Tryz.tab_ok Tryz.mixed (by decide +kernel) ?_
   refine qstep rfl rfl (FinMove.refl _ _ _) ?_
   refine qstep rfl rfl ⟨⟨by omega, by simp; omega, by simp⟩, FinMove.refl _ _ _⟩ ?_
   refine qstep rfl rfl (FinMove.refl _ _ _) ?_
   refine qstep rfl rfl (FinMove.refl _ _ _) ?_
   refine qstep rfl rfl (FinMove.refl _ _ _) ?_
   have e1 : List.drop (Int.toNat 1) (List.take (Int.toNat ((120 :: e).length : Nat)) (120 :: e)) = e := by simp
   generalize number e 16 6 = n at *
   rw [← e1] at c3
   cases n with
   | none => exact PureC.use c3 ⟨fun _ => by exact ⟨_, _, fin_out rfl, rfl⟩, fun h => absurd h (by decide)⟩
   | some n =>
    have hn := hsm n rfl
    refine PureC.use c3 ⟨fun h => absurd h (by decide), fun _ => ?_⟩
    (repeat' first | refine ⟨fun _ => ?_, fun _ => ?_⟩ | fail)
    all_goals
     refine .inl ⟨⟨by omega, by omega⟩, ?_⟩
     refine ⟨_, _, fin_out rfl, ?_⟩
     simp only [decide_eq_true_eq, decide_eq_false_iff_not] at *
     refine congrArg (fun x => AV.tup [.d (.str (enc x)), .d (.bool true)]) ?_
     unfold fixN
     first | rw [if_pos (by omega)] | rw [if_neg (by omega)]
  ·rw [h1]
   refine ⟨fun _ => ?_, fun h => absurd h (by decide)⟩
   refine PureC.use c2 ?_
   rw [h2]
   refine ⟨fun _ => ?_, fun h => absurd h (by decide)⟩
   refine drawnT Tryz.wf Tryz.tab_ok Tryz.mixed (by decide +kernel) ?_
   refine qstep rfl rfl (FinMove.refl _ _ _) ?_
   refine qstep rfl rfl ⟨⟨by omega, by simp; omega, by simp⟩, FinMove.refl _ _ _⟩ ?_
   refine qstep rfl rfl (FinMove.refl _ _ _) ?_
   refine qstep rfl rfl (FinMove.refl _ _ _) ?_
   refine qstep rfl rfl (FinMove.refl _ _ _) ?_
   have e1 : List.drop (Int.toNat 1) (List.take (Int.toNat ((88 :: e).length : Nat)) (88 :: e)) = e := by simp
   generalize number e 16 6 = n at *
   rw [← e1] at c3
   cases n with
   | none => exact PureC.use c3 ⟨fun _ => by exact ⟨_, _, fin_out rfl, rfl⟩, fun h => absurd h (by decide)⟩
   | some n =>
    have hn := hsm n rfl
    refine PureC.use c3 ⟨fun h => absurd h (by decide), fun _ => ?_⟩
    (repeat' first | refine ⟨fun _ => ?_, fun _ => ?_⟩ | fail)
    all_goals
     refine .inl ⟨⟨by omega, by omega⟩, ?_⟩
     refine ⟨_, _, fin_out rfl, ?_⟩
     simp only [decide_eq_true_eq, decide_eq_false_iff_not] at *
     refine congrArg (fun x => AV.tup [.d (.str (enc x)), .d (.bool true)]) ?_
     unfold fixN
     first | rw [if_pos (by omega)] | rw [if_neg (by omega)]
  ·rw [h1]
   refine ⟨fun _ => ?_, fun h => absurd h (by decide)⟩
   refine PureC.use c2 ?_
   rw [h2]
   refine ⟨fun h => absurd h (by decide), fun _ => ?_⟩
   generalize number d 10 7 = n at *
   cases n with
   | none => exact PureC.use c3 ⟨fun _ => by exact ⟨_, _, fin_out rfl, rfl⟩, fun h => absurd h (by decide)⟩
   | some n =>
    have hn := hsm n rfl
    refine PureC.use c3 ⟨fun h => absurd h (by decide), fun _ => ?_⟩
    (repeat' first | refine ⟨fun _ => ?_, fun _ => ?_⟩ | fail)
    all_goals
     refine .inl ⟨⟨by omega, by omega⟩, ?_⟩
     refine ⟨_, _, fin_out rfl, ?_⟩
     simp only [decide_eq_true_eq, decide_eq_false_iff_not] at *
     refine congrArg (fun x => AV.tup [.d (.str (enc x)), .d (.bool true)]) ?_
     unfold fixN
     first | rw [if_pos (by omega)] | rw [if_neg (by omega)]
 ·have c0 := CutPrefix_ok s [35]
  rw [cutPre_no s 35 (fun d e => hh ⟨d, e⟩)] at c0
  refine PureC.use c0 ⟨fun _ => ?_, fun h => absurd h (by decide)⟩
  have c1 := Named_ok s
  rw [stands_named s (fun d e => hh ⟨d, e⟩)]
  cases hn : named s with
  | none => rw [hn] at c1; exact PureC.use c1 (by exact ⟨_, _, fin_out rfl, rfl⟩)
  | some t => rw [hn] at c1; exact PureC.use c1 (by exact ⟨_, _, fin_out rfl, rfl⟩)
theorem head_of {c : UInt8} {a r s out : List UInt8} (hI : out ++ resolve (a ++ 38 :: r) = resolve s) (ha : (38 : UInt8) ∉ a) : (out ++ a) ++ resolve (38 :: r) = resolve s := by
 rw [resolve_plain a _ ha] at hI; rw [List.append_assoc]; exact hI
set_option maxRecDepth 100000 in
theorem Resolve_ok (s : List UInt8) (hs : s.length ≤ 140737488355000) : PureC Tryz.prog 24 [.d (.str s)] (.d (.str (resolve s))) := by
 refine PureC.of rfl rfl (fn_okTE Tryz.wf Tryz.tab_ok Tryz.func24 (by decide +kernel) rfl rfl ?_)
 refine E.seq (E.of Tryz.wf Tryz.tab_ok ?_)
 refine scopeE ?_
 refine E.of Tryz.wf Tryz.tab_ok ?_
 have hsl := resolve_len s.length s (Nat.le_refl _)
 refine loopE (fun n s' σ => ∃ t out : List UInt8, n = t.length ∧ t.length ≤ s.length ∧ out ++ resolve t = resolve s ∧ s' = [(0, .d (.str t)), (3, .ref 0 0 0)] ∧ σ = ⟨1, [(0, .bld 75 5 out)]⟩)
  ⟨s, [], rfl, Nat.le_refl _, rfl, rfl, rfl⟩ (Mv.of [.old 0] rfl rfl rfl ⟨⟨rfl, rfl, rfl⟩, trivial⟩ ⟨rfl, ⟨rfl, rfl, rfl⟩, trivial⟩) ?_
 rintro _ _ _ ⟨t, out, rfl, htl, hI, rfl, rfl⟩
 have hol : out.length ≤ s.length := by have := congrArg List.length hI; simp at this; omega
 refine blockE ?_
 refine E.seq (E.of Tryz.wf Tryz.tab_ok ?_)
 by_cases hm : (38 : UInt8) ∈ t
 ·obtain ⟨a, r, rfl, ha⟩ := split_first hm
  have c1 := IndexByte_ok (a ++ 38 :: r) 38
  rw [idxB_some ha] at c1
  have hI2 := head_of (c := 38) hI ha
  simp only [List.length_append, List.length_cons] at htl
  have hoa : out.length + a.length ≤ s.length := by have := congrArg List.length hI2; simp at this; omega
  refine PureC.use c1 ?_
  refine E.seq (E.of Tryz.wf Tryz.tab_ok ?_)
  refine ⟨fun h => absurd (of_decide_eq_true h) (by omega), fun _ => ?_⟩
  refine E.seq (E.of Tryz.wf Tryz.tab_ok ?_)
  refine ⟨⟨by omega, by omega, by simp; omega⟩, ?_⟩
  refine CallsAbs.to [.ref 0 0 0, .d (.str a)] (congrArg (fun x => [AV.ref 0 0 0, .d (.str x)]) (by simp)) ?_
  refine CallsAbs.frame (WriteString_ok out a (by omega)) [.old 0] ⟨Nat.zero_le _, rfl, rfl, ⟨⟨rfl, rfl, rfl⟩, trivial⟩⟩ ⟨⟨rfl, rfl, rfl⟩, rfl, trivial⟩ ?_
  rintro _ _ ⟨rfl, rfl⟩
  refine ⟨.tup [.d (.int .i64 a.length), .nili], [(0, .bld 75 5 (out ++ a))], ⟨⟨rfl, rfl, rfl⟩, trivial⟩, rfl, ⟨rfl, trivial, trivial⟩, ?_⟩
  refine midT Tryz.wf Tryz.tab_ok (fun s' σ => s' = [(0, .d (.str (38 :: r))), (3, .ref 0 0 0)] ∧ σ = ⟨1, [(0, .bld 75 5 (out ++ a))]⟩) ?_ ?_
  ·refine ⟨⟨by omega, by simp; omega, by simp⟩, _, _, ⟨rfl, rfl⟩, Mv.of [.old 0] rfl rfl rfl ⟨⟨rfl, rfl, rfl⟩, trivial⟩ ⟨congrArg D.str (tail_at a _).symm, ⟨rfl, rfl, rfl⟩, trivial⟩⟩
  rintro _ _ ⟨rfl, rfl⟩
  generalize out ++ a = out2 at *
  have hol2 : out2.length ≤ s.length := by have := congrArg List.length hI2; simp at this; omega
  have hol3 : oneR r = none → out2.length + 1 ≤ s.length := fun h => by
   rw [resolve_amp, h] at hI2
   have := congrArg List.length hI2; simp at this; omega
  have pass : oneR r = none → (out2 ++ [38]) ++ resolve r = resolve s := fun h => by
   rw [resolve_amp, h] at hI2; simpa using hI2
  refine E.of Tryz.wf Tryz.tab_ok ?_
  have hmin : (if (12 : Int) < (((38 :: r : List UInt8).length : Nat) : Int) then (12 : Int) else (((38 :: r : List UInt8).length : Nat) : Int)) = ((min 12 (r.length + 1) : Nat) : Int) := by
   simp only [List.length_cons]
   split <;> omega
  refine ⟨⟨by omega, by rw [hmin]; omega, by rw [hmin]; simp; omega⟩, ?_⟩
  refine CallsAbs.to [.d (.str (38 :: r.take 11)), .d (.int .u8 59)] (congrArg (fun x => [AV.d (.str x), .d (.int .u8 59)]) ?_) ?_
  ·rw [hmin, Int.toNat_natCast, Int.toNat_zero, List.drop_zero]
   by_cases h : 11 ≤ r.length
   ·rw [Nat.min_eq_left (by omega)]; rfl
   ·rw [Nat.min_eq_right (by omega), List.take_of_length_le (by simp), List.take_of_length_le (by omega)]
  have c2 := IndexByte_ok (38 :: r.take 11) 59
  by_cases h59 : (59 : UInt8) ∈ r.take 11
  ·obtain ⟨x, y, rfl, hx, hxl⟩ := split_take r h59
   have ht : (x ++ 59 :: y).take 11 = x ++ 59 :: y.take (10 - x.length) := by
    rw [List.take_append, List.take_of_length_le (by omega)]
    congr 1
    rw [show 11 - x.length = (10 - x.length) + 1 by omega]; rfl
   have hidx : idxB 59 (38 :: (x ++ 59 :: y).take 11) = ((x.length + 1 : Nat) : Int) := by
    rw [ht]
    have := idxB_some (c := 59) (a := 38 :: x) (b := y.take (10 - x.length)) (by simp [hx])
    simpa using this
   rw [hidx] at c2
   refine PureC.use c2 ⟨fun _ => ?_, fun h => absurd (of_decide_eq_false h) (by omega)⟩
   refine ⟨⟨by omega, by omega, by simp; omega⟩, ?_⟩
   refine CallsAbs.to [.d (.str x)] (congrArg (fun x => [AV.d (.str x)]) ?_) ?_
   ·rw [Int.toNat_natCast]
    show (List.take x.length (x ++ 59 :: y)).drop 0 = x
    simp
   have c3 := stands_ok x (by simp at htl; omega)
   have ho := oneR_some x y hx hxl
   cases hst : stands x with
   | none =>
    rw [hst] at c3 ho
    refine PureC.use c3 ⟨fun h => absurd h (by decide), fun _ => ?_⟩
    refine CallsAbs.frame (WriteByte_ok out2 38 (by have := hol3 ho; omega)) [.old 0] ⟨Nat.zero_le _, rfl, rfl, ⟨⟨rfl, rfl, rfl⟩, trivial⟩⟩ ⟨⟨rfl, rfl, rfl⟩, rfl, trivial⟩ ?_
    rintro _ _ ⟨rfl, rfl⟩
    refine ⟨.nili, [(0, .bld 75 5 (out2 ++ [38]))], ⟨⟨rfl, rfl, rfl⟩, trivial⟩, rfl, trivial, ?_⟩
    exact ⟨⟨by omega, by simp; omega, by simp⟩, _, _, _, ⟨x ++ 59 :: y, _, rfl, by simp at htl ⊢; omega, pass ho, rfl, rfl⟩, by simp; omega, Mv.of [.old 0] rfl rfl rfl ⟨⟨rfl, rfl, rfl⟩, trivial⟩ ⟨congrArg D.str (tail_at [38] _).symm, ⟨rfl, rfl, rfl⟩, trivial⟩⟩
   | some u =>
    rw [hst] at c3 ho
    rw [resolve_amp, ho] at hI2
    dsimp only [Option.map_some] at hI2
    have hul := stands_len hst
    refine PureC.use c3 ⟨fun _ => ?_, fun h => absurd h (by decide)⟩
    refine CallsAbs.frame (WriteString_ok out2 u (by omega)) [.old 0] ⟨Nat.zero_le _, rfl, rfl, ⟨⟨rfl, rfl, rfl⟩, trivial⟩⟩ ⟨⟨rfl, rfl, rfl⟩, rfl, trivial⟩ ?_
    rintro _ _ ⟨rfl, rfl⟩
    refine ⟨.tup [.d (.int .i64 u.length), .nili], [(0, .bld 75 5 (out2 ++ u))], ⟨⟨rfl, rfl, rfl⟩, trivial⟩, rfl, ⟨rfl, trivial, trivial⟩, ?_⟩
    refine .inl ⟨⟨by omega, by omega⟩, ⟨by omega, by simp; omega, by simp⟩, _, _, _, ⟨y, out2 ++ u, rfl, by simp at htl ⊢; omega, by rw [List.append_assoc]; exact hI2, rfl, rfl⟩, by simp; omega, Mv.of [.old 0] rfl rfl rfl ⟨⟨rfl, rfl, rfl⟩, trivial⟩ ⟨congrArg D.str ?_, ⟨rfl, rfl, rfl⟩, trivial⟩⟩
    exact tail_of (38 :: x ++ [59]) y _ _ _ (by simp) (by simp) rfl
  ·have hno : idxB 59 (38 :: r.take 11) = -1 := idxB_none (by simp [h59])
   rw [hno] at c2
   have ho := oneR_none r h59
   refine PureC.use c2 ⟨fun h => absurd h (by decide), fun _ => ?_⟩
   refine CallsAbs.frame (WriteByte_ok out2 38 (by have := hol3 ho; omega)) [.old 0] ⟨Nat.zero_le _, rfl, rfl, ⟨⟨rfl, rfl, rfl⟩, trivial⟩⟩ ⟨⟨rfl, rfl, rfl⟩, rfl, trivial⟩ ?_
   rintro _ _ ⟨rfl, rfl⟩
   refine ⟨.nili, [(0, .bld 75 5 (out2 ++ [38]))], ⟨⟨rfl, rfl, rfl⟩, trivial⟩, rfl, trivial, ?_⟩
   exact ⟨⟨by omega, by simp; omega, by simp⟩, _, _, _, ⟨r, _, rfl, by omega, pass ho, rfl, rfl⟩, by simp; omega, Mv.of [.old 0] rfl rfl rfl ⟨⟨rfl, rfl, rfl⟩, trivial⟩ ⟨congrArg D.str (tail_at [38] _).symm, ⟨rfl, rfl, rfl⟩, trivial⟩⟩
 ·have c1 := IndexByte_ok t 38
  rw [idxB_none hm] at c1
  refine PureC.use c1 ?_
  refine E.of Tryz.wf Tryz.tab_ok ⟨fun _ => ?_, fun h => absurd h (by decide)⟩
  rw [resolve_same t hm] at hI
  have hlen : out.length + t.length ≤ s.length := by have := congrArg List.length hI; simp at this; omega
  refine CallsAbs.frame (WriteString_ok out t (by omega)) [.old 0] ⟨Nat.zero_le _, rfl, rfl, ⟨⟨rfl, rfl, rfl⟩, trivial⟩⟩ ⟨⟨rfl, rfl, rfl⟩, rfl, trivial⟩ ?_
  rintro _ _ ⟨rfl, rfl⟩
  refine ⟨.tup [.d (.int .i64 t.length), .nili], [(0, .bld 75 5 (out ++ t))], ⟨⟨rfl, rfl, rfl⟩, trivial⟩, rfl, ⟨rfl, trivial, trivial⟩, ?_⟩
  refine CallsAbs.frame (String_ok (out ++ t) (by simp; omega)) [.old 0] ⟨Nat.zero_le _, rfl, rfl, ⟨⟨rfl, rfl, rfl⟩, trivial⟩⟩ ⟨⟨rfl, rfl, rfl⟩, trivial⟩ ?_
  rintro _ _ ⟨rfl, rfl⟩
  refine ⟨.d (.str (out ++ t)), [(0, .dead)], ⟨trivial, trivial⟩, rfl, rfl, ?_⟩
  exact ⟨_, _, fin_out rfl, congrArg (fun x => AV.d (.str x)) hI, rfl⟩
theorem esc_other (q : Bool) (c : UInt8) (h1 : c ≠ 38) (h2 : c ≠ 60) (h3 : c ≠ 62) (h4 : c = 34 → q = false) : esc1 q c = [c] := by
 unfold esc1
 rw [if_neg h1, if_neg h2, if_neg h3, if_neg (fun h => by rw [h4 h.1] at h; exact absurd h.2 (by decide))]
theorem u8_is {c d : UInt8} {n : Int} (h : (c.toNat : Int) = n) (hd : (d.toNat : Int) = n) : c = d := UInt8.toNat_inj.1 (by omega)
set_option maxRecDepth 100000 in
set_option maxHeartbeats 1000000 in
theorem Escape_ok (s : List UInt8) (q : Bool) (hs : s.length ≤ 17592186044416) : PureC Tryz.prog 23 [.d (.str s), .d (.bool q)] (.d (.str (escape q s))) := by
 refine pure_okT Tryz.wf Tryz.tab_ok Tryz.func23 (by decide +kernel) rfl rfl rfl rfl ?_
 have hel := (escape_len s.length q s (Nat.le_refl _)).2
 refine loopT Tryz.wf Tryz.tab_ok (fun n s' σ => ∃ (k : Nat) (out : List UInt8), n = s.length - k ∧ k ≤ s.length ∧ out ++ escape q (s.drop k) = escape q s ∧ s' = [(0, .d (.str s)), (1, .d (.bool q)), (5, .ref 0 0 0), (6, .d (.int .i64 k))] ∧ σ = ⟨1, [(0, .bld 75 5 out)]⟩)
  ⟨0, [], rfl, Nat.zero_le _, rfl, rfl, rfl⟩ (Mv.of [.old 0] rfl rfl rfl ⟨⟨rfl, rfl, rfl⟩, trivial⟩ ⟨rfl, rfl, ⟨rfl, rfl, rfl⟩, rfl, trivial⟩) ?_
 rintro _ _ _ ⟨k, out, rfl, hk, hI, rfl, rfl⟩
 have hol : out.length + (escape q (s.drop k)).length ≤ 6 * s.length := by have := congrArg List.length hI; simp at this; omega
 refine ⟨fun h => ?_, fun h => ?_⟩
 ·have hlt : k < s.length := by have := of_decide_eq_true h; omega
  clear h
  have hg := getD_at s k hlt
  have hd : s.drop k = s[k] :: s.drop (k + 1) := List.drop_eq_getElem_cons hlt
  rw [hd] at hI hol
  have hu := s[k].toNat_lt
  refine ⟨⟨by omega, by omega⟩, ?_⟩
  rw [hg]
  generalize s[k] = c at *
  have one : ¬ (c = 194 ∧ ∃ t, s.drop (k + 1) = 160 :: t) → (out ++ esc1 q c) ++ escape q (s.drop (k + 1)) = escape q s ∧ out.length + (esc1 q c).length ≤ 6 * s.length := fun h => by
   rw [escape_cons q c _ h] at hI hol
   simp only [List.length_append] at hol
   exact ⟨by rw [List.append_assoc]; exact hI, by omega⟩
  refine ⟨fun h1 => ?_, fun h1 => ⟨fun h2 => ?_, fun h2 => ⟨fun h3 => ?_, fun h3 => ?_⟩⟩⟩
  ·have hc : c = 38 := u8_is (of_decide_eq_true h1) rfl
   subst hc
   obtain ⟨o1, o2⟩ := one (by simp)
   refine CallsAbs.frame (WriteString_ok (out) ([38, 97, 109, 112, 59]) (by simp [esc1] at o2; simp; omega)) [.old 0] ⟨Nat.zero_le _, rfl, rfl, ⟨⟨rfl, rfl, rfl⟩, trivial⟩⟩ ⟨⟨rfl, rfl, rfl⟩, rfl, trivial⟩ ?_
   rintro _ _ ⟨rfl, rfl⟩
   refine ⟨.tup [.d (.int .i64 (([38, 97, 109, 112, 59] : List UInt8).length : Nat)), .nili], [(0, .bld 75 5 (out ++ [38, 97, 109, 112, 59]))], ⟨⟨rfl, rfl, rfl⟩, trivial⟩, rfl, ⟨rfl, trivial, trivial⟩, ?_⟩
   exact .inl ⟨⟨by omega, by omega⟩, _, _, _, ⟨k + 1, _, rfl, hlt, o1, rfl, rfl⟩, by omega, Mv.of [.old 0] rfl rfl rfl ⟨⟨rfl, rfl, rfl⟩, trivial⟩ ⟨rfl, rfl, ⟨rfl, rfl, rfl⟩, rfl, trivial⟩⟩
  ·have hc : c = 60 := u8_is (of_decide_eq_true h2) rfl
   subst hc
   obtain ⟨o1, o2⟩ := one (by simp)
   refine CallsAbs.frame (WriteString_ok (out) ([38, 108, 116, 59]) (by simp [esc1] at o2; simp; omega)) [.old 0] ⟨Nat.zero_le _, rfl, rfl, ⟨⟨rfl, rfl, rfl⟩, trivial⟩⟩ ⟨⟨rfl, rfl, rfl⟩, rfl, trivial⟩ ?_
   rintro _ _ ⟨rfl, rfl⟩
   refine ⟨.tup [.d (.int .i64 (([38, 108, 116, 59] : List UInt8).length : Nat)), .nili], [(0, .bld 75 5 (out ++ [38, 108, 116, 59]))], ⟨⟨rfl, rfl, rfl⟩, trivial⟩, rfl, ⟨rfl, trivial, trivial⟩, ?_⟩
   exact .inl ⟨⟨by omega, by omega⟩, _, _, _, ⟨k + 1, _, rfl, hlt, o1, rfl, rfl⟩, by omega, Mv.of [.old 0] rfl rfl rfl ⟨⟨rfl, rfl, rfl⟩, trivial⟩ ⟨rfl, rfl, ⟨rfl, rfl, rfl⟩, rfl, trivial⟩⟩
  ·have hc : c = 62 := u8_is (of_decide_eq_true h3) rfl
   subst hc
   obtain ⟨o1, o2⟩ := one (by simp)
   refine CallsAbs.frame (WriteString_ok (out) ([38, 103, 116, 59]) (by simp [esc1] at o2; simp; omega)) [.old 0] ⟨Nat.zero_le _, rfl, rfl, ⟨⟨rfl, rfl, rfl⟩, trivial⟩⟩ ⟨⟨rfl, rfl, rfl⟩, rfl, trivial⟩ ?_
   rintro _ _ ⟨rfl, rfl⟩
   refine ⟨.tup [.d (.int .i64 (([38, 103, 116, 59] : List UInt8).length : Nat)), .nili], [(0, .bld 75 5 (out ++ [38, 103, 116, 59]))], ⟨⟨rfl, rfl, rfl⟩, trivial⟩, rfl, ⟨rfl, trivial, trivial⟩, ?_⟩
   exact .inl ⟨⟨by omega, by omega⟩, _, _, _, ⟨k + 1, _, rfl, hlt, o1, rfl, rfl⟩, by omega, Mv.of [.old 0] rfl rfl rfl ⟨⟨rfl, rfl, rfl⟩, trivial⟩ ⟨rfl, rfl, ⟨rfl, rfl, rfl⟩, rfl, trivial⟩⟩
  ·have c1 : c ≠ 38 := fun e => by subst e; exact absurd h1 (by decide)
   have c2 : c ≠ 60 := fun e => by subst e; exact absurd h2 (by decide)
   have c3 : c ≠ 62 := fun e => by subst e; exact absurd h3 (by decide)
   by_cases hq : c = 34 ∧ q = true
   ·obtain ⟨rfl, rfl⟩ := hq
    obtain ⟨o1, o2⟩ := one (by simp)
    refine ⟨fun _ => ⟨fun _ => ?_, fun h => absurd h (by decide)⟩, fun h => absurd h (by decide)⟩
    refine CallsAbs.frame (WriteString_ok (out) ([38, 113, 117, 111, 116, 59]) (by simp [esc1] at o2; simp; omega)) [.old 0] ⟨Nat.zero_le _, rfl, rfl, ⟨⟨rfl, rfl, rfl⟩, trivial⟩⟩ ⟨⟨rfl, rfl, rfl⟩, rfl, trivial⟩ ?_
    rintro _ _ ⟨rfl, rfl⟩
    refine ⟨.tup [.d (.int .i64 (([38, 113, 117, 111, 116, 59] : List UInt8).length : Nat)), .nili], [(0, .bld 75 5 (out ++ [38, 113, 117, 111, 116, 59]))], ⟨⟨rfl, rfl, rfl⟩, trivial⟩, rfl, ⟨rfl, trivial, trivial⟩, ?_⟩
    exact .inl ⟨⟨by omega, by omega⟩, _, _, _, ⟨k + 1, _, rfl, hlt, o1, rfl, rfl⟩, by omega, Mv.of [.old 0] rfl rfl rfl ⟨⟨rfl, rfl, rfl⟩, trivial⟩ ⟨rfl, rfl, ⟨rfl, rfl, rfl⟩, rfl, trivial⟩⟩
   ·have e1 : esc1 q c = [c] := esc_other q c c1 c2 c3 (fun h => by cases q with | true => exact absurd ⟨h, rfl⟩ hq | false => rfl)
    have byte : ¬ (c = 194 ∧ ∃ t, s.drop (k + 1) = 160 :: t) → (out ++ [c]) ++ escape q (s.drop (k + 1)) = escape q s ∧ out.length + 1 ≤ 6 * s.length := fun h => by
     obtain ⟨o1, o2⟩ := one h
     rw [e1] at o1 o2
     exact ⟨o1, o2⟩
    have rest : ∀ (b34 : Bool), b34 = decide ((c.toNat : Int) = 34) → b34 = true → q = true → False := fun b hb h1 h2 => hq ⟨u8_is (of_decide_eq_true (hb ▸ h1)) rfl, h2⟩
    clear h1 h2 h3
    refine ⟨fun h34 => ⟨fun hqt => absurd ⟨u8_is (of_decide_eq_true h34) rfl, hqt⟩ hq, fun hqf => ?_⟩, fun h34 => ?_⟩
    all_goals
     by_cases h194 : c = 194
     ·subst h194
      refine ⟨fun _ => ?_, fun h => absurd h (by decide)⟩
      refine .inl ⟨⟨by omega, by omega⟩, fun hl => ?_, fun hl => ?_⟩
      ·have hlt2 : k + 1 < s.length := by have := of_decide_eq_true hl; omega
       have hg2 : s.getD ((k : Int) + 1).toNat 0 = s[k + 1] := by have := getD_at s (k + 1) hlt2; simpa using this
       have hd2 : s.drop (k + 1) = s[k + 1] :: s.drop (k + 2) := List.drop_eq_getElem_cons hlt2
       refine .inl ⟨⟨by omega, by omega⟩, ⟨by omega, by omega⟩, ?_⟩
       rw [hg2]
       refine ⟨fun h5 => ?_, fun h5 => ?_⟩
       ·have h160 : s[k + 1] = 160 := u8_is (of_decide_eq_true h5) rfl
        rw [h160] at hd2
        rw [hd2, escape_nb] at hI hol
        simp only [List.length_append] at hol
        refine CallsAbs.frame (WriteString_ok (out) ([38, 110, 98, 115, 112, 59]) (by simp at hol; simp; omega)) [.old 0] ⟨Nat.zero_le _, rfl, rfl, ⟨⟨rfl, rfl, rfl⟩, trivial⟩⟩ ⟨⟨rfl, rfl, rfl⟩, rfl, trivial⟩ ?_
        rintro _ _ ⟨rfl, rfl⟩
        refine ⟨.tup [.d (.int .i64 (([38, 110, 98, 115, 112, 59] : List UInt8).length : Nat)), .nili], [(0, .bld 75 5 (out ++ [38, 110, 98, 115, 112, 59]))], ⟨⟨rfl, rfl, rfl⟩, trivial⟩, rfl, ⟨rfl, trivial, trivial⟩, ?_⟩
        exact .inl ⟨⟨by omega, by omega⟩, .inl ⟨⟨by omega, by omega⟩, _, _, _, ⟨k + 2, _, rfl, hlt2, by rw [List.append_assoc]; exact hI, rfl, rfl⟩, by omega, Mv.of [.old 0] rfl rfl rfl ⟨⟨rfl, rfl, rfl⟩, trivial⟩ ⟨rfl, rfl, ⟨rfl, rfl, rfl⟩, congrArg (D.int .i64) (by simp; omega), trivial⟩⟩⟩
       ·have n160 : s[k + 1] ≠ 160 := fun e => by rw [e] at h5; exact absurd h5 (by decide)
        obtain ⟨o1, o2⟩ := byte (by rintro ⟨_, t, ht⟩; rw [hd2] at ht; injection ht with h _; exact n160 h)
        refine CallsAbs.frame (WriteByte_ok (out) (194) (by omega)) [.old 0] ⟨Nat.zero_le _, rfl, rfl, ⟨⟨rfl, rfl, rfl⟩, trivial⟩⟩ ⟨⟨rfl, rfl, rfl⟩, rfl, trivial⟩ ?_
        rintro _ _ ⟨rfl, rfl⟩
        refine ⟨.nili, [(0, .bld 75 5 (out ++ [194]))], ⟨⟨rfl, rfl, rfl⟩, trivial⟩, rfl, trivial, ?_⟩
        exact .inl ⟨⟨by omega, by omega⟩, _, _, _, ⟨k + 1, _, rfl, hlt, o1, rfl, rfl⟩, by omega, Mv.of [.old 0] rfl rfl rfl ⟨⟨rfl, rfl, rfl⟩, trivial⟩ ⟨rfl, rfl, ⟨rfl, rfl, rfl⟩, rfl, trivial⟩⟩
      ·have hge : s.length ≤ k + 1 := by have := of_decide_eq_false hl; omega
       obtain ⟨o1, o2⟩ := byte (by rintro ⟨_, t, ht⟩; rw [List.drop_eq_nil_of_le hge] at ht; cases ht)
       refine CallsAbs.frame (WriteByte_ok (out) (194) (by omega)) [.old 0] ⟨Nat.zero_le _, rfl, rfl, ⟨⟨rfl, rfl, rfl⟩, trivial⟩⟩ ⟨⟨rfl, rfl, rfl⟩, rfl, trivial⟩ ?_
       rintro _ _ ⟨rfl, rfl⟩
       refine ⟨.nili, [(0, .bld 75 5 (out ++ [194]))], ⟨⟨rfl, rfl, rfl⟩, trivial⟩, rfl, trivial, ?_⟩
       exact .inl ⟨⟨by omega, by omega⟩, _, _, _, ⟨k + 1, _, rfl, hlt, o1, rfl, rfl⟩, by omega, Mv.of [.old 0] rfl rfl rfl ⟨⟨rfl, rfl, rfl⟩, trivial⟩ ⟨rfl, rfl, ⟨rfl, rfl, rfl⟩, rfl, trivial⟩⟩
     ·refine ⟨fun h => absurd (u8_is (of_decide_eq_true h) rfl) h194, fun _ => ?_⟩
      obtain ⟨o1, o2⟩ := byte (fun h => h194 h.1)
      refine CallsAbs.frame (WriteByte_ok (out) (c) (by omega)) [.old 0] ⟨Nat.zero_le _, rfl, rfl, ⟨⟨rfl, rfl, rfl⟩, trivial⟩⟩ ⟨⟨rfl, rfl, rfl⟩, rfl, trivial⟩ ?_
      rintro _ _ ⟨rfl, rfl⟩
      refine ⟨.nili, [(0, .bld 75 5 (out ++ [c]))], ⟨⟨rfl, rfl, rfl⟩, trivial⟩, rfl, trivial, ?_⟩
      exact .inl ⟨⟨by omega, by omega⟩, _, _, _, ⟨k + 1, _, rfl, hlt, o1, rfl, rfl⟩, by omega, Mv.of [.old 0] rfl rfl rfl ⟨⟨rfl, rfl, rfl⟩, trivial⟩ ⟨rfl, rfl, ⟨rfl, rfl, rfl⟩, rfl, trivial⟩⟩
 ·have hk' : k = s.length := by have := of_decide_eq_false h; omega
  subst hk'
  rw [List.drop_length] at hI hol
  refine CallsAbs.frame (String_ok (out) (by omega)) [.old 0] ⟨Nat.zero_le _, rfl, rfl, ⟨⟨rfl, rfl, rfl⟩, trivial⟩⟩ ⟨⟨rfl, rfl, rfl⟩, trivial⟩ ?_
  rintro _ _ ⟨rfl, rfl⟩
  refine ⟨.d (.str (out)), [(0, .dead)], ⟨trivial, trivial⟩, rfl, rfl, ?_⟩
  exact ⟨_, _, fin_out rfl, congrArg (fun x => AV.d (.str x)) (by simpa [escape] using hI)⟩
end Go.Proofs.YthngplknbbcecaaGreatDoor
