/- What is proved here serves the claim: the walk over the code and the plain laws, part 14 of 15. -/
import Derived.Test.YtfchacihhljfhaaGreatDoorPkSat13
import Derived.Lib.Bytealg
namespace Go.Proofs.YtfchacihhljfhaaGreatDoor
open Go.Aw
set_option maxHeartbeats 1600000
set_option linter.unusedSimpArgs false
set_option linter.unusedVariables false
/-- A text, parted at a byte. -/
def splitB (c : UInt8) : List UInt8 → List (List UInt8)
 | [] => [[]]
 | x :: r => if x = c then [] :: splitB c r else match splitB c r with
  | p :: ps => (x :: p) :: ps
  | [] => [[x]]
theorem splitB_none {c : UInt8} : ∀ {s : List UInt8}, c ∉ s → splitB c s = [s]
 | [], _ => rfl
 | x :: r, h => by
  simp only [List.mem_cons, not_or] at h
  rw [splitB, if_neg (fun e => h.1 e.symm), splitB_none h.2]
theorem splitB_app {c : UInt8} : ∀ {a b : List UInt8}, c ∉ a → splitB c (a ++ c :: b) = a :: splitB c b
 | [], b, _ => by show splitB c (c :: b) = _; rw [splitB, if_pos rfl]
 | x :: a, b, h => by
  simp only [List.mem_cons, not_or] at h
  show splitB c (x :: (a ++ c :: b)) = _
  rw [splitB, if_neg (fun e => h.1 e.symm), splitB_app h.2]
theorem splitB_len (c : UInt8) : ∀ s : List UInt8, (splitB c s).length = s.count c + 1
 | [] => rfl
 | x :: r => by
  have ih := splitB_len c r
  rw [splitB]
  by_cases h : x = c
  ·subst h; rw [if_pos rfl, List.length_cons, ih, List.count_cons_self]
  ·rw [if_neg h, List.count_cons_of_ne h]
   cases hs : splitB c r with
   | nil => rw [hs] at ih; simp at ih
   | cons p ps => rw [hs] at ih; simpa using ih
theorem count_abs {f : FuncId} {fn : Func} (hf : Tryz.prog.funcs[f]? = some fn) (hn : (fn.name == "runtime.NumGoroutine") = false) (hb : fn.body.isNone = true) (h1 : Extern.findNext fn = none) (h2 : Extern.find fn = some Extern.BytealgCount.count) (s : List UInt8) (c : UInt8) :
  PureC Tryz.prog f [.d (.str s), .d (.int .u8 c.toNat)] (.d (.int .i64 (s.count c : Nat))) := fun σ => by
 refine .inr ⟨fn, _, hf, hn, hb, h1, h2, fun g w vs R hL => ?_⟩
 obtain ⟨v, r, rfl, q1, q2⟩ := hL.uncons
 obtain ⟨u, r', rfl, q3, q4⟩ := q2.uncons
 rw [q4.unnil]
 have e1 : v = .string ⟨s.toArray⟩ := by cases q1 with | d h => cases h; rfl
 have e2 : u = .int .u8 c.toNat := by cases q3 with | d h => cases h; rfl
 subst e1; subst e2
 rw [show [Value.string ⟨s.toArray⟩, Value.int .u8 c.toNat].toArray = #[Value.string ⟨s.toArray⟩, Value.int .u8 c.toNat] from rfl, Lib.run_countString]
 refine ⟨g, σ, .d (.int .i64 (s.count c : Nat)), Ext.refl _ _ _, R, ?_, rfl, rfl⟩
 have : (((c.toNat : Nat) : Int).toNat.toUInt8) = c := by simp
 rw [this]
 exact .d (.int _ _)
theorem CountString_ok (s : List UInt8) (c : UInt8) : PureC Tryz.prog 98 [.d (.str s), .d (.int .u8 c.toNat)] (.d (.int .i64 (s.count c : Nat))) :=
 count_abs Tryz.func98 (by decide +kernel) rfl (by kernel_rfl) (by kernel_rfl) s c
set_option maxRecDepth 100000 in
theorem Count1_ok (s : List UInt8) (c : UInt8) : PureC Tryz.prog 83 [.d (.str s), .d (.str [c])] (.d (.int .i64 (s.count c : Nat))) := by
 have hc1 := CountString_ok s c
 refine pure_okT Tryz.wf Tryz.tab_ok Tryz.func83 (by decide +kernel) rfl rfl rfl rfl ?_
 refine wR (k := ?_)
 exact ⟨_, _, fin_out rfl, rfl⟩
set_option maxRecDepth 100000 in
theorem sIndexL_ok (s : List UInt8) (c : UInt8) : PureC Tryz.prog 86 [.d (.str s), .d (.str [c])] (.d (.int .i64 (idxB c s))) := by
 have hc1 := lIndexByte_ok s c
 refine pure_okT Tryz.wf Tryz.tab_ok Tryz.func86 (by decide +kernel) rfl rfl rfl rfl ?_
 repeat' (first | refine PureC.use hc1 ?_ |                       refine ⟨fun _ => ?_, fun h => absurd h (by decide)⟩ | refine ⟨fun h => absurd h (by decide), fun _ => ?_⟩ | (refine ⟨fun h => ?_, fun h => ?_⟩ <;> (try simp only [wS, List.length_cons, List.length_nil] at h) <;> (try exact wX h)) | refine ⟨⟨oB, oB⟩, _, by assumption, by rfl, ?_⟩ | refine .inl ⟨⟨oB, oB⟩, ?_⟩ | refine ⟨⟨oB, oB⟩, ?_⟩ | refine ⟨⟨oB, oB, oB⟩, ?_⟩ | refine ⟨.inl rfl, ?_⟩ | refine ⟨.inr (.inl oB), ?_⟩ | refine ⟨_, rfl, rfl, oL, ?_⟩ | refine ⟨_, rfl, oL, ?_⟩ | refine ⟨oL, ?_⟩ | refine ⟨show _ ≤ (9223372036854775807 : Nat) from oB, ?_⟩ | refine ⟨show _ ≠ (0 : Int) from oB, ?_⟩ | refine ⟨_, rfl, _, rfl, ?_⟩ | refine ⟨_, by assumption, Nat.le_of_ble_eq_true rfl, ?_⟩ | refine ⟨_, by assumption, _, rfl, ?_⟩ | refine ⟨_, rfl, ?_⟩ | fail)
 ·rename_i h
  refine ⟨_, _, fin_out rfl, ?_⟩
  subst h
  exact congrArg (fun n => AV.d (.int .i64 n)) (idxB_some (a := []) (b := []) (by simp)).symm
 ·exact ⟨_, _, fin_out rfl, rfl⟩
set_option maxRecDepth 100000 in
theorem sIndex1_ok (s : List UInt8) (c : UInt8) : PureC Tryz.prog 84 [.d (.str s), .d (.str [c])] (.d (.int .i64 (idxB c s))) := by
 have hc1 := sIndexL_ok s c
 refine pure_okT Tryz.wf Tryz.tab_ok Tryz.func84 (by decide +kernel) rfl rfl rfl rfl ?_
 refine wR (k := ?_)
 exact ⟨_, _, fin_out rfl, rfl⟩
abbrev strRs (P : List (List UInt8)) (m : Nat) : List (List AV) := ((strsD P).map fun r => r.map AV.d) ++ List.replicate m [.d (.str [])]
theorem strRs_get (P : List (List UInt8)) (m : Nat) : (strRs P (m + 1))[P.length]? = some [.d (.str [])] := by
 unfold strRs
 rw [List.getElem?_append_right (by simp [strsD_len]), List.length_map, strsD_len, Nat.sub_self]; rfl
theorem strRs_set (P : List (List UInt8)) (m : Nat) (x : List UInt8) : (strRs P (m + 1)).set P.length [.d (.str x)] = strRs (P ++ [x]) m := by
 unfold strRs
 rw [List.set_append_right _ _ (by simp [strsD_len]), List.length_map, strsD_len, Nat.sub_self, List.replicate_succ]
 simp [strsD]
theorem strRs_pure (P : List (List UInt8)) (m : Nat) : ∀ row ∈ strRs P m, pureL row = true := fun row h => by
 rcases List.mem_append.1 h with h | h
 ·exact dataA_pure _ row h
 ·rw [List.eq_of_mem_replicate h]; rfl
theorem tail_eq (a b : List UInt8) (c : UInt8) : b = ((a ++ c :: b).take ((a ++ c :: b).length : Int).toNat).drop ((a.length : Int) + ([c].length : Int)).toNat := by
 rw [Int.toNat_natCast, List.take_length, show ((a.length : Int) + ([c].length : Int)).toNat = a.length + 1 from by simp]; simp
theorem fin_ownS {σ : Store} {i len : Nat} {sz : Nat × Nat} {rs : List (List AV)} {ds : List (List D)} (ho : σ.get i = .rows sz rs) (hds : rowsD rs = some ds) (hl : len = ds.length) : FinMove ⟨0, []⟩ (.own i 0 len) σ (.d (.sl ds)) ⟨0, []⟩ := by
 have h1 := fin_freeze (σ0 := ⟨0, []⟩) (r := .own i 0 len) i ho hds (fun _ => by rw [Nat.zero_add, hl, (rowsD_get hds).1]; exact Nat.le_refl _)
 rw [frz_whole i ds len hl] at h1
 exact h1.trans (fin_mv [] (Nat.ble_eq_true_of_le (Nat.zero_le _)) rfl rfl trivial rfl)
set_option maxHeartbeats 1000000 in
set_option maxRecDepth 100000 in
theorem genSplit_ok (c : UInt8) (s : List UInt8) (hs : s.length ≤ 1000000000) : PureC Tryz.prog 71 [.d (.str s), .d (.str [c]), .d (.int .i64 0), .d (.int .i64 (-1))] (.d (.sl (strsD (splitB c s)))) := by
 have hc1 := Count1_ok s c
 have hcl := List.count_le_length (a := c) (l := s)
 have hlen := splitB_len c s
 generalize hN : s.count c = N at *
 refine pure_okT Tryz.wf Tryz.tab_ok Tryz.func71 (by decide +kernel) rfl rfl rfl rfl ?_
 refine wR (k := ?_)
 refine ⟨⟨?_, ?_, ?_, ?_⟩, ?_⟩
 all_goals rw [if_neg (by omega)]
 ·omega
 ·show ((N : Int) + 1) * 16 ≤ 140737488355328
  omega
 ·omega
 ·rw [show ((N : Int) + 1).toNat = N + 1 from by omega]
  refine wR (k := ?_)
  refine loopT Tryz.wf Tryz.tab_ok (fun n s' σ => ∃ (P : List (List UInt8)) (r : List UInt8), n = N - P.length ∧ r.length ≤ s.length ∧ splitB c s = P ++ splitB c r ∧ s' = [(0, .d (.str r)), (1, .d (.str [c])), (2, .d (.int .i64 0)), (3, .d (.int .i64 N)), (9, .own 0 0 (N + 1)), (10, .d (.int .i64 P.length))] ∧ σ = ⟨1, [(0, .rows (1, 9) (strRs P (N + 1 - P.length)))]⟩)
   ⟨[], s, rfl, Nat.le_refl _, rfl, rfl, rfl⟩ (Mv.of [.old 0] rfl rfl rfl ⟨⟨rfl, .inl ⟨rfl, strRs_pure _ _⟩⟩, trivial⟩ ⟨rfl, rfl, rfl, congrArg (fun n : Int => D.int .i64 n) (by omega), ⟨rfl, rfl, rfl⟩, rfl, trivial⟩) ?_
  rintro _ _ _ ⟨P, r, rfl, hr, hsp, rfl, rfl⟩
  have hcr := splitB_len c r
  have hlr := List.count_le_length (a := c) (l := r)
  rw [hsp, List.length_append] at hlen
  have hg := strRs_get P (N - P.length)
  rw [show N + 1 - P.length = (N - P.length) + 1 from by omega]
  by_cases hlt : P.length < N
  ·have hm : c ∈ r := List.count_pos_iff.1 (by omega)
   obtain ⟨a, b, rfl, ha⟩ := split_first hm
   have hst := strRs_set P (N - P.length) a
   rw [splitB_app ha] at hsp
   have hc2 := sIndex1_ok (a ++ c :: b) c
   rw [idxB_some ha] at hc2
   simp only [List.length_append, List.length_cons] at hr
   have hl2 : ((a ++ c :: b).length : Int) = a.length + b.length + 1 := by simp; omega
   clear hc1 hcr hlr
   refine wR (k := ?_)
   exact ⟨_, _, _, ⟨P ++ [a], b, rfl, by omega, by rw [hsp]; simp, rfl, rfl⟩, by simp; omega, Mv.of [.old 0] rfl rfl rfl ⟨⟨rfl, .inl ⟨(congrArg (strRs (P ++ [a])) (by simp)).trans (hst.symm.trans (congrArg (fun x : List UInt8 => (strRs P (N - P.length + 1)).set P.length [AV.d (.str x)]) (by simp : a = ((a ++ c :: b).take ((a.length : Int) + 0).toNat).drop (0 : Int).toNat))), strRs_pure _ _⟩⟩, trivial⟩ ⟨congrArg D.str (tail_eq a b c), rfl, rfl, rfl, ⟨rfl, rfl, rfl⟩, congrArg (fun n : Int => D.int .i64 n) (by simp), trivial⟩⟩
  ·have hP : P.length = N := by omega
   subst hP
   rw [Nat.sub_self] at hg ⊢
   have hst := strRs_set P 0 r
   have hnc : c ∉ r := fun h => by have := List.count_pos_iff.2 h; omega
   rw [splitB_none hnc] at hsp
   refine wR (k := ?_)
   refine .inl ⟨rfl, ?_⟩
   refine wR (k := ?_)
   refine ⟨_, _, fin_ownS (ds := strsD (splitB c s)) rfl ?_ ?_, rfl⟩
   ·rw [hsp]
    exact (congrArg rowsD hst).trans ((congrArg rowsD (List.append_nil _)).trans (rowsD_d _))
   ·rw [hsp, strsD_len, List.length_append]
    show ((P.length : Int) + 1).toNat = P.length + 1
    omega
set_option maxRecDepth 100000 in
theorem Split_ok (c : UInt8) (s : List UInt8) (hs : s.length ≤ 1000000000) : PureC Tryz.prog 51 [.d (.str s), .d (.str [c])] (.d (.sl (strsD (splitB c s)))) := by
 have hc1 := genSplit_ok c s hs
 refine pure_okT Tryz.wf Tryz.tab_ok Tryz.func51 (by decide +kernel) rfl rfl rfl rfl ?_
 refine wR (k := ?_)
 exact ⟨_, _, fin_out rfl, rfl⟩
/-- A set of bytes, as cells. -/
def bitD (cs : List UInt8) : List D := (List.range 256).map fun i => .bool (decide (UInt8.ofNat i ∈ cs))
theorem bitD_len (cs : List UInt8) : (bitD cs).length = 256 := by simp [bitD]
theorem bitD_get (cs : List UInt8) (c : UInt8) : (bitD cs)[c.toNat]? = some (.bool (decide (c ∈ cs))) := by
 unfold bitD
 rw [List.getElem?_map, List.getElem?_range (UInt8.toNat_lt c), Option.map_some, UInt8.ofNat_toNat]
theorem bitD_set (cs : List UInt8) (c : UInt8) : ((bitD cs).map AV.d).take c.toNat ++ [.d (.bool true)] ++ ((bitD cs).map AV.d).drop (c.toNat + 1) = (bitD (cs ++ [c])).map AV.d := by
 have hc := UInt8.toNat_lt c
 have h1 : ((bitD cs).map AV.d).take c.toNat ++ [.d (.bool true)] ++ ((bitD cs).map AV.d).drop (c.toNat + 1) = ((bitD cs).set c.toNat (.bool true)).map AV.d := by
  rw [List.set_eq_take_append_cons_drop, if_pos (by rw [bitD_len]; exact hc)]
  simp
 rw [h1]
 congr 1
 apply List.ext_getElem?
 intro i
 rw [List.getElem?_set]
 by_cases hi : i < 256
 ·simp only [bitD, List.getElem?_map, List.getElem?_range hi, List.length_map, List.length_range, Option.map_some]
  by_cases e : c.toNat = i
  ·subst e
   rw [if_pos rfl, if_pos hi]; simp
  ·rw [if_neg e]
   have : UInt8.ofNat i ≠ c := fun h => e (by rw [← h]; simp; omega)
   simp [this]
 ·rw [if_neg (by omega), List.getElem?_eq_none (by rw [bitD_len]; omega), List.getElem?_eq_none (by rw [bitD_len]; omega)]
theorem self256 (l : List AV) (h : l.length = 256) : ((l.take 0 ++ (l.drop 0).take 256 ++ l.drop (0 + ((l.drop 0).take 256).length)).drop 0).take 256 = l := by
 have e : l.take 256 = l := by rw [← h, List.take_length]
 simp [e]
theorem dcells_pure (l : List D) : pureL (l.map AV.d) = true := by
 induction l with
 | nil => rfl
 | cons a r ih => exact ih
set_option maxRecDepth 100000 in
theorem contains_ok (cs : List UInt8) (c : UInt8) : PureC Tryz.prog 102 [.ip (bitD cs) 0, .d (.int .u8 c.toNat)] (.d (.bool (decide (c ∈ cs)))) := by
 have hg : (bitD cs)[0 + ((c.toNat : Nat) : Int).toNat * 1]? = some (.bool (decide (c ∈ cs))) := by
  rw [Int.toNat_natCast, Nat.mul_one, Nat.zero_add]; exact bitD_get cs c
 have hc := UInt8.toNat_lt c
 refine pure_okT Tryz.wf Tryz.tab_ok Tryz.func102 (by decide +kernel) rfl rfl rfl rfl ?_
 refine wR (k := ?_)
 refine ⟨_, hg, ?_⟩
 refine wR (k := ?_)
 exact ⟨_, _, fin_out rfl, rfl⟩
set_option maxRecDepth 100000 in
set_option maxHeartbeats 1000000 in
theorem ASCIISet_ok (cs : List UInt8) (hl : cs.length ≤ 1000) (hcs : ∀ c ∈ cs, c.toNat < 128) : PureC Tryz.prog 89 [.d (.str cs)] (.tup [.agg ((bitD cs).map AV.d), .d (.bool true)]) := by
 refine pure_okT Tryz.wf Tryz.tab_ok Tryz.func89 (by decide +kernel) rfl rfl rfl (by show (pureL ((bitD cs).map AV.d) && true) = true; rw [dcells_pure]; rfl) ?_
 refine wR (k := ?_)
 refine loopT Tryz.wf Tryz.tab_ok (fun n s' σ => ∃ k : Nat, n = cs.length - k ∧ k ≤ cs.length ∧ s' = [(0, .d (.str cs)), (2, .ref 0 0 0), (4, .d (.int .i64 k))] ∧ σ = ⟨1, [(0, .rows (256, 91) [(bitD (cs.take k)).map AV.d])]⟩)
  ⟨0, rfl, Nat.zero_le _, rfl, rfl⟩ (Mv.of [.old 0] rfl rfl rfl ⟨⟨rfl, .inl ⟨rfl, fun row h => by rw [List.mem_singleton.1 h]; exact dcells_pure _⟩⟩, trivial⟩ ⟨rfl, ⟨rfl, rfl, rfl⟩, rfl, trivial⟩) ?_
 rintro _ _ _ ⟨k, rfl, hk, rfl, rfl⟩
 by_cases hlt : k < cs.length
 ·have hg := getD_at cs k hlt
  have hc : (cs.getD ((k : Nat) : Int).toNat 0).toNat < 128 := by rw [hg]; exact hcs _ (List.getElem_mem hlt)
  have hst : ((bitD (cs.take k)).map AV.d).take (0 + (((cs.getD ((k : Nat) : Int).toNat 0).toNat : Nat) : Int).toNat * 1) ++ [.d (.bool true)] ++ ((bitD (cs.take k)).map AV.d).drop (0 + (((cs.getD ((k : Nat) : Int).toNat 0).toNat : Nat) : Int).toNat * 1 + 1) = (bitD (cs.take (k + 1))).map AV.d := by
   rw [hg, ← List.take_append_getElem hlt, Int.toNat_natCast, Nat.mul_one, Nat.zero_add]
   exact bitD_set _ _
  refine wR (k := ?_)
  refine ⟨by rw [List.length_map, bitD_len]; show 0 + (((cs.getD ((k : Nat) : Int).toNat 0).toNat : Nat) : Int).toNat * 1 + 1 ≤ 256; omega, ?_⟩
  refine wR (k := ?_)
  exact ⟨_, _, _, ⟨k + 1, rfl, hlt, rfl, rfl⟩, by omega, Mv.of [.old 0] rfl rfl rfl ⟨⟨rfl, .inl ⟨congrArg (fun x => [x]) hst.symm, fun row h => by rw [List.mem_singleton.1 h]; exact dcells_pure _⟩⟩, trivial⟩ ⟨rfl, ⟨rfl, rfl, rfl⟩, rfl, trivial⟩⟩
 ·have hk' : k = cs.length := by omega
  subst hk'
  rw [List.take_length]
  refine wR (k := ?_)
  refine ⟨.tup [.agg ((bitD cs).map AV.d), .d (.bool true)], ⟨0, []⟩, ?_, rfl⟩
  show FinMove _ (.tup [.agg (((((bitD cs).map AV.d).take 0 ++ (((bitD cs).map AV.d).drop 0).take 256 ++ ((bitD cs).map AV.d).drop (0 + ((((bitD cs).map AV.d).drop 0).take 256).length)).drop 0).take 256), .d (.bool true)]) _ _ _
  rw [self256 _ (by rw [List.length_map, bitD_len])]
  exact fin_out (by show (pureL ((bitD cs).map AV.d) && true) = true; rw [dcells_pure]; rfl)
def trimLB (cs s : List UInt8) : List UInt8 := s.dropWhile fun c => decide (c ∈ cs)
def trimRB (cs s : List UInt8) : List UInt8 := (s.reverse.dropWhile fun c => decide (c ∈ cs)).reverse
theorem trimRB_snoc (cs r : List UInt8) (c : UInt8) : trimRB cs (r ++ [c]) = if c ∈ cs then trimRB cs r else r ++ [c] := by
 unfold trimRB
 rw [List.reverse_append]
 show (List.dropWhile _ (c :: r.reverse)).reverse = _
 by_cases h : c ∈ cs
 ·rw [if_pos h, List.dropWhile_cons_of_pos (by simpa using h)]
 ·rw [if_neg h, List.dropWhile_cons_of_neg (by simpa using h)]; simp
theorem trimLB_cons (cs r : List UInt8) (c : UInt8) : trimLB cs (c :: r) = if c ∈ cs then trimLB cs r else c :: r := by
 unfold trimLB
 by_cases h : c ∈ cs
 ·rw [if_pos h, List.dropWhile_cons_of_pos (by simpa using h)]
 ·rw [if_neg h, List.dropWhile_cons_of_neg (by simpa using h)]
theorem getD_last (r : List UInt8) (c : UInt8) : (r ++ [c]).getD (((r ++ [c]).length : Int) - 1).toNat 0 = c := by
 rw [show (((r ++ [c]).length : Int) - 1).toNat = r.length from by simp, List.getD_eq_getElem?_getD]; simp
theorem take_last (r : List UInt8) (c : UInt8) : r = ((r ++ [c]).take (((r ++ [c]).length : Int) - 1).toNat).drop (0 : Int).toNat := by
 rw [show (((r ++ [c]).length : Int) - 1).toNat = r.length from by simp]; simp
set_option maxRecDepth 100000 in
set_option maxHeartbeats 1000000 in
theorem trimRight_ok (cs s : List UInt8) (hs : s.length ≤ 1000000000) : PureC Tryz.prog 91 [.d (.str s), .ip (bitD cs) 0] (.d (.str (trimRB cs s))) := by
 refine pure_okT Tryz.wf Tryz.tab_ok Tryz.func91 (by decide +kernel) rfl rfl rfl rfl ?_
 refine wR (k := ?_)
 refine loopT Tryz.wf Tryz.tab_ok (fun n s' σ => ∃ r : List UInt8, n = r.length ∧ r.length ≤ s.length ∧ trimRB cs s = trimRB cs r ∧ s' = [(0, .d (.str r)), (1, .ip (bitD cs) 0)] ∧ σ = ⟨0, []⟩)
  ⟨s, rfl, Nat.le_refl _, rfl, rfl, rfl⟩ (Mv.of [] rfl rfl rfl trivial ⟨rfl, ⟨rfl, rfl⟩, trivial⟩) ?_
 rintro _ _ _ ⟨r, rfl, hr, he, rfl, rfl⟩
 rcases List.eq_nil_or_concat r with rfl | ⟨r, c, rfl⟩
 ·refine wR (k := ?_)
  refine ⟨_, _, fin_out rfl, ?_⟩
  rw [he]; rfl
 ·rw [List.concat_eq_append] at *
  have hgd := getD_last r c
  have hc1 : PureC Tryz.prog 102 [.ip (bitD cs) 0, .d (.int .u8 ((r ++ [c]).getD (((r ++ [c]).length : Int) - 1).toNat 0).toNat)] (.d (.bool (decide (c ∈ cs)))) := by
   rw [hgd]; exact contains_ok cs c
  have hl : (r ++ [c]).length = r.length + 1 := by simp
  rw [trimRB_snoc] at he
  by_cases hm : c ∈ cs
  ·rw [decide_eq_true hm] at hc1
   rw [if_pos hm] at he
   refine wR (k := ?_)
   exact ⟨_, _, _, ⟨r, rfl, by omega, he, rfl, rfl⟩, by omega, Mv.of [] rfl rfl rfl trivial ⟨congrArg D.str (take_last r c), ⟨rfl, rfl⟩, trivial⟩⟩
  ·rw [decide_eq_false hm] at hc1
   rw [if_neg hm] at he
   refine wR (k := ?_)
   refine ⟨_, _, fin_out rfl, ?_⟩
   rw [he]; rfl
set_option maxRecDepth 100000 in
set_option maxHeartbeats 1000000 in
theorem trimLeft_ok (cs s : List UInt8) (hs : s.length ≤ 1000000000) : PureC Tryz.prog 90 [.d (.str s), .ip (bitD cs) 0] (.d (.str (trimLB cs s))) := by
 refine pure_okT Tryz.wf Tryz.tab_ok Tryz.func90 (by decide +kernel) rfl rfl rfl rfl ?_
 refine wR (k := ?_)
 refine loopT Tryz.wf Tryz.tab_ok (fun n s' σ => ∃ r : List UInt8, n = r.length ∧ r.length ≤ s.length ∧ trimLB cs s = trimLB cs r ∧ s' = [(0, .d (.str r)), (1, .ip (bitD cs) 0)] ∧ σ = ⟨0, []⟩)
  ⟨s, rfl, Nat.le_refl _, rfl, rfl, rfl⟩ (Mv.of [] rfl rfl rfl trivial ⟨rfl, ⟨rfl, rfl⟩, trivial⟩) ?_
 rintro _ _ _ ⟨r, rfl, hr, he, rfl, rfl⟩
 cases r with
 | nil =>
  refine wR (k := ?_)
  refine ⟨_, _, fin_out rfl, ?_⟩
  rw [he]; rfl
 | cons c r =>
  have hc1 := contains_ok cs c
  have hl : (c :: r).length = r.length + 1 := by simp
  rw [trimLB_cons] at he
  by_cases hm : c ∈ cs
  ·rw [decide_eq_true hm] at hc1
   rw [if_pos hm] at he
   refine wR (k := ?_)
   exact ⟨_, _, _, ⟨r, rfl, by omega, he, rfl, rfl⟩, by omega, Mv.of [] rfl rfl rfl trivial ⟨congrArg D.str (by rw [Int.toNat_natCast, List.take_length]; rfl), ⟨rfl, rfl⟩, trivial⟩⟩
  ·rw [decide_eq_false hm] at hc1
   rw [if_neg hm] at he
   refine wR (k := ?_)
   refine ⟨_, _, fin_out rfl, ?_⟩
   rw [he]; rfl
def cutS : List UInt8 := [9, 10, 12, 13, 32]
theorem see_bits {cs : List UInt8} {sz : Nat × Nat} (s : List UInt8) (i : Nat) (σ : Store) (h : σ.get i = .rows sz [(bitD cs).map AV.d]) : optL (seeV σ 1) [.d (.str s), .ref i 0 0] = some [.d (.str s), .ip (bitD cs) 0] := by
 simp only [optL, seeV, h, seeD_d, List.getElem?_cons_zero, see_row, Option.map_some]
theorem dropWhile_le {α : Type} (p : α → Bool) : ∀ l : List α, (l.dropWhile p).length ≤ l.length
 | [] => Nat.le_refl _
 | a :: r => by
  rw [List.dropWhile_cons]
  split
  ·exact Nat.le_succ_of_le (dropWhile_le p r)
  ·exact Nat.le_refl _
theorem trimRB_le (cs s : List UInt8) : (trimRB cs s).length ≤ s.length := by
 unfold trimRB
 rw [List.length_reverse]
 exact Nat.le_trans (dropWhile_le _ _) (Nat.le_of_eq List.length_reverse)
set_option maxRecDepth 100000 in
set_option maxHeartbeats 1000000 in
theorem Trim_ok (s : List UInt8) (hs : s.length ≤ 1000000000) : PureC Tryz.prog 79 [.d (.str s), .d (.str cutS)] (.d (.str (trimLB cutS (trimRB cutS s)))) := by
 have hc1 := ASCIISet_ok cutS (by decide) (by decide)
 have hp1 := trimRight_ok cutS s hs
 have hp2 := trimLeft_ok cutS (trimRB cutS s) (Nat.le_trans (trimRB_le _ _) hs)
 refine pure_okT Tryz.wf Tryz.tab_ok Tryz.func79 (by decide +kernel) rfl rfl rfl rfl ?_
 cases s with
 | nil =>
  refine wR (k := ?_)
  exact ⟨_, _, fin_out rfl, rfl⟩
 | cons x s =>
  refine wR (k := ?_)
  refine CallsAbs.use1 (PureC.borrow 1 hp1 rfl (see_bits (sz := (256, 91)) _ _ _ (by kernel_rfl))) ?_
  refine wR (k := ?_)
  refine CallsAbs.use1 (PureC.borrow 1 hp2 rfl (see_bits (sz := (256, 91)) _ _ _ (by kernel_rfl))) ?_
  refine wR (k := ?_)
  exact ⟨_, _, fin_out rfl, rfl⟩
/-- A text, cut at the first of a byte. -/
def cutAt (c : UInt8) : List UInt8 → Option (List UInt8 × List UInt8)
 | [] => none
 | x :: r => if x = c then some ([], r) else (cutAt c r).map fun p => (x :: p.1, p.2)
theorem cutAt_some {c : UInt8} : ∀ {a b : List UInt8}, c ∉ a → cutAt c (a ++ c :: b) = some (a, b)
 | [], b, _ => by show cutAt c (c :: b) = _; rw [cutAt, if_pos rfl]
 | x :: a, b, h => by
  simp only [List.mem_cons, not_or] at h
  show cutAt c (x :: (a ++ c :: b)) = _
  rw [cutAt, if_neg (fun e => h.1 e.symm), cutAt_some h.2]; rfl
theorem cutAt_none {c : UInt8} : ∀ {s : List UInt8}, c ∉ s → cutAt c s = none
 | [], _ => rfl
 | x :: r, h => by
  simp only [List.mem_cons, not_or] at h
  rw [cutAt, if_neg (fun e => h.1 e.symm), cutAt_none h.2]; rfl
def cutW (c : UInt8) (s : List UInt8) : AV := match cutAt c s with
 | none => .tup [.d (.str s), .d (.str []), .d (.bool false)]
 | some (a, b) => .tup [.d (.str a), .d (.str b), .d (.bool true)]
theorem cutW_pure (c : UInt8) (s : List UInt8) : (cutW c s).pure = true := by unfold cutW; split <;> rfl
set_option maxRecDepth 100000 in
theorem lCutC_ok (c : UInt8) (s : List UInt8) (hs : s.length ≤ 1000000000) : PureC Tryz.prog 78 [.d (.str s), .d (.str [c])] (cutW c s) := by
 have hc1 := sIndexL_ok s c
 refine pure_okT Tryz.wf Tryz.tab_ok Tryz.func78 (by decide +kernel) rfl rfl rfl (cutW_pure c s) ?_
 by_cases hm : c ∈ s
 ·obtain ⟨a, b, rfl, ha⟩ := split_first hm
  rw [idxB_some ha] at hc1
  have e : cutW c (a ++ c :: b) = .tup [.d (.str a), .d (.str b), .d (.bool true)] := by unfold cutW; rw [cutAt_some ha]
  rw [e]
  simp only [List.length_append, List.length_cons] at hs
  refine wR (k := ?_)
  refine drawnT Tryz.wf Tryz.tab_ok Tryz.mixed (by decide +kernel) ?_; repeat' (first |       refine qskip rfl rfl ?_ | refine qstep (r := .d (.bool true)) rfl rfl (fin_eq (congrArg (fun b => AV.d (.bool b)) (decide_eq_true (by omega)))) ?_ | refine qstep (r := .d (.bool false)) rfl rfl (fin_eq (congrArg (fun b => AV.d (.bool b)) (decide_eq_false (by omega)))) ?_ | refine qstep rfl rfl ⟨fun _ => FinMove.refl _ _ _, fun h => absurd h (by decide)⟩ ?_ | refine qstep rfl rfl ⟨fun h => absurd h (by decide), fun _ => FinMove.refl _ _ _⟩ ?_ | refine qstep rfl rfl (FinMove.refl _ _ _) ?_ |     refine qstep rfl rfl (PureC.use hc1 (FinMove.refl _ _ _)) ?_ |        refine qstep rfl rfl ⟨⟨oB, oB⟩, _, by assumption, by rfl, FinMove.refl _ _ _⟩ ?_ | refine qstep rfl rfl (.inl ⟨⟨oB, oB⟩, FinMove.refl _ _ _⟩) ?_ | refine qstep rfl rfl ⟨⟨oB, oB⟩, FinMove.refl _ _ _⟩ ?_ | refine qstep rfl rfl ⟨⟨oB, oB, oB⟩, FinMove.refl _ _ _⟩ ?_ | refine qstep rfl rfl ⟨⟨oB, oB, oB⟩, .inl rfl, FinMove.refl _ _ _⟩ ?_ | refine qstep rfl rfl ⟨_, rfl, _, rfl, FinMove.refl _ _ _⟩ ?_ | refine qstep rfl rfl ⟨_, rfl, FinMove.refl _ _ _⟩ ?_ | refine qstep rfl rfl ⟨_, rfl, Nat.le_refl _, FinMove.refl _ _ _⟩ ?_ | refine qstep rfl rfl ⟨Nat.le_refl _, FinMove.refl _ _ _⟩ ?_ | refine qstep rfl rfl ⟨by decide, FinMove.refl _ _ _⟩ ?_ | refine qstep rfl rfl ⟨show _ ≤ (9223372036854775807 : Nat) from oB, FinMove.refl _ _ _⟩ ?_ | fail)
  refine ⟨_, _, fin_out rfl, ?_⟩
  show AV.tup [.d (.str (((a ++ c :: b).take ((a.length : Nat) : Int).toNat).drop (0 : Int).toNat)), .d (.str (((a ++ c :: b).take (((a ++ c :: b).length : Nat) : Int).toNat).drop ((a.length : Int) + ((([c] : List UInt8).length : Nat) : Int)).toNat)), .d (.bool true)] = _
  have e2 : ((a.length : Int) + ((([c] : List UInt8).length : Nat) : Int)).toNat = a.length + 1 := by simp only [List.length_cons, List.length_nil]; omega
  rw [e2, Int.toNat_natCast, Int.toNat_natCast, List.take_length]
  simp
 ·rw [idxB_none hm] at hc1
  have e : cutW c s = .tup [.d (.str s), .d (.str []), .d (.bool false)] := by unfold cutW; rw [cutAt_none hm]
  rw [e]
  refine wR (k := ?_)
  exact ⟨_, _, fin_out rfl, rfl⟩
set_option maxRecDepth 100000 in
theorem CutC_ok (c : UInt8) (s : List UInt8) (hs : s.length ≤ 1000000000) : PureC Tryz.prog 66 [.d (.str s), .d (.str [c])] (cutW c s) := by
 have hc1 := lCutC_ok c s hs
 refine pure_okT Tryz.wf Tryz.tab_ok Tryz.func66 (by decide +kernel) rfl rfl rfl (cutW_pure c s) ?_
 refine PureC.use hc1 ?_
 unfold cutW
 cases cutAt c s with
 | none => exact ⟨_, _, fin_out rfl, rfl⟩
 | some x => exact ⟨_, _, fin_out rfl, rfl⟩
def bareB (s : List UInt8) : List UInt8 := lower (trimLB cutS (trimRB cutS s))
theorem trimLB_le (cs s : List UInt8) : (trimLB cs s).length ≤ s.length := dropWhile_le _ _
set_option maxRecDepth 100000 in
theorem bare_ok (s : List UInt8) (hs : s.length ≤ 1000000000) : PureC Tryz.prog 67 [.d (.str s)] (.d (.str (bareB s))) := by
 have hc1 := Trim_ok s hs
 have hc2 := Lower_ok (trimLB cutS (trimRB cutS s)) (Nat.le_trans (trimLB_le _ _) (Nat.le_trans (trimRB_le _ _) (Nat.le_trans hs (by decide))))
 refine pure_okT Tryz.wf Tryz.tab_ok Tryz.func67 (by decide +kernel) rfl rfl rfl rfl ?_
 refine wR (k := ?_)
 exact ⟨_, _, fin_out rfl, rfl⟩
/-- May a byte stand in a value? -/
def mark : List UInt8 := [32, 35, 37, 46, 44, 45]
def okB (c : UInt8) : Bool := (decide (97 ≤ c.toNat) && decide (c.toNat ≤ 122)) || (decide (48 ≤ c.toNat) && decide (c.toNat ≤ 57)) || decide (c ∈ mark)
def valB (s : List UInt8) : Bool := decide (1 ≤ s.length) && decide (s.length ≤ 100) && !decide (s.getD 0 0 = 32) && !decide (s.getD (s.length - 1) 0 = 32) && s.all okB
theorem idx_mark (c : UInt8) : decide (0 ≤ idxB c mark) = decide (c ∈ mark) := by
 by_cases hm : c ∈ mark
 ·obtain ⟨a, b, e, ha⟩ := split_first hm
  rw [e, idxB_some ha, ← e, decide_eq_true hm, decide_eq_true (by omega)]
 ·rw [idxB_none hm, decide_eq_false hm]; rfl
theorem b32 {c : UInt8} (h : (c.toNat : Int) = 32) : c = 32 := UInt8.toNat_inj.1 (by have : (32 : UInt8).toNat = 32 := rfl; omega)
theorem nb32 {c : UInt8} (h : ¬ (c.toNat : Int) = 32) : c ≠ 32 := fun e => h (by rw [e]; rfl)
theorem valB_long {s : List UInt8} (h : 100 < (s.length : Int)) : valB s = false := by unfold valB; rw [decide_eq_false (show ¬ s.length ≤ 100 by omega)]; simp
theorem valB_first {s : List UInt8} (h : ((s.getD (0 : Int).toNat 0).toNat : Int) = 32) : valB s = false := by unfold valB; rw [decide_eq_true (show s.getD 0 0 = 32 from b32 h)]; simp
theorem valB_last {s : List UInt8} (hl : 1 ≤ s.length) (h : ((s.getD ((s.length : Int) - 1).toNat 0).toNat : Int) = 32) : valB s = false := by
 rw [show ((s.length : Int) - 1).toNat = s.length - 1 from by omega] at h
 unfold valB; rw [decide_eq_true (show s.getD (s.length - 1) 0 = 32 from b32 h)]; simp
theorem valB_all {s : List UInt8} (hl : 1 ≤ s.length) (h1 : ¬ 100 < (s.length : Int)) (h2 : ¬ ((s.getD (0 : Int).toNat 0).toNat : Int) = 32) (h3 : ¬ ((s.getD ((s.length : Int) - 1).toNat 0).toNat : Int) = 32) : valB s = s.all okB := by
 rw [show ((s.length : Int) - 1).toNat = s.length - 1 from by omega] at h3
 unfold valB
 rw [decide_eq_true hl, decide_eq_true (show s.length ≤ 100 by omega), decide_eq_false (show ¬ s.getD 0 0 = 32 from nb32 h2), decide_eq_false (nb32 h3)]; rfl
theorem allB_step (p : UInt8 → Bool) (s : List UInt8) (k : Nat) (h : k < s.length) : (s.take (k + 1)).all p = ((s.take k).all p && p s[k]) := by
 rw [List.take_succ_eq_append_getElem h, List.all_append]; simp
theorem allB_stop (p : UInt8 → Bool) (s : List UInt8) (k : Nat) (h : k < s.length) (hp : p s[k] = false) : s.all p = false := by
 rw [List.all_eq_false]; exact ⟨s[k], List.getElem_mem h, by simp [hp]⟩
set_option maxRecDepth 100000 in
set_option maxHeartbeats 1000000 in
theorem Value_ok (s : List UInt8) (hs : s.length ≤ 1000000000) : PureC Tryz.prog 46 [.d (.str s)] (.d (.bool (valB s))) := by
 refine pure_okT Tryz.wf Tryz.tab_ok Tryz.func46 (by decide +kernel) rfl rfl rfl rfl ?_
 by_cases h0 : s = []
 ·subst h0
  refine wR (k := ?_)
  exact ⟨_, _, fin_out rfl, rfl⟩
 have hl : 1 ≤ s.length := by cases s with | nil => exact absurd rfl h0 | cons _ _ => simp
 have no : ∀ σ : Store, valB s = false → ∃ r2 σ2, FinMove ⟨0, []⟩ (AV.d (.bool false)) σ r2 σ2 ∧ r2 = AV.d (.bool (valB s)) := fun σ h => ⟨_, _, fin_out rfl, by rw [h]⟩
 repeat' (first | refine PureC.use hc1 ?_ |                       refine ⟨fun _ => ?_, fun h => absurd h (by decide)⟩ | refine ⟨fun h => absurd h (by decide), fun _ => ?_⟩ | (refine ⟨fun h => ?_, fun h => ?_⟩ <;> (try simp only [wS, List.length_cons, List.length_nil] at h) <;> (try exact wX h)) | refine ⟨⟨oB, oB⟩, _, by assumption, by rfl, ?_⟩ | refine .inl ⟨⟨oB, oB⟩, ?_⟩ | refine ⟨⟨oB, oB⟩, ?_⟩ | refine ⟨⟨oB, oB, oB⟩, ?_⟩ | refine ⟨.inl rfl, ?_⟩ | refine ⟨.inr (.inl oB), ?_⟩ | refine ⟨_, rfl, rfl, oL, ?_⟩ | refine ⟨_, rfl, oL, ?_⟩ | refine ⟨oL, ?_⟩ | refine ⟨show _ ≤ (9223372036854775807 : Nat) from oB, ?_⟩ | refine ⟨show _ ≠ (0 : Int) from oB, ?_⟩ | refine ⟨_, rfl, _, rfl, ?_⟩ | refine ⟨_, by assumption, Nat.le_of_ble_eq_true rfl, ?_⟩ | refine ⟨_, by assumption, _, rfl, ?_⟩ | refine ⟨_, rfl, ?_⟩ | fail)
 ·rename_i h
  exact no _ (valB_last hl h)
 ·rename_i h1 h2
  have h3 := h
  have hv := valB_all hl h1 h2 h3
  rw [hv] at no ⊢
  clear h1 h2 h3 hv
  refine wR (k := ?_)
  refine loopT Tryz.wf Tryz.tab_ok (fun n s' σ => ∃ k : Nat, n = s.length - k ∧ k ≤ s.length ∧ (s.take k).all okB = true ∧ s' = [(0, .d (.str s)), (26, .d (.int .i64 s.length)), (27, .d (.int .i64 k))] ∧ σ = ⟨0, []⟩)
   ⟨0, rfl, Nat.zero_le _, rfl, rfl, rfl⟩ (Mv.of [] rfl rfl rfl trivial ⟨rfl, rfl, rfl, trivial⟩) ?_
  rintro _ _ _ ⟨k, rfl, hk, hI, rfl, rfl⟩
  by_cases hlt : k < s.length
  ·have hg := getD_at s k hlt
   have go : okB (s.getD ((k : Nat) : Int).toNat 0) = true → (s.take (k + 1)).all okB = true := fun h => by rw [allB_step okB s k hlt, hI, ← hg, h]; rfl
   have no2 : ∀ σ : Store, okB (s.getD ((k : Nat) : Int).toNat 0) = false → ∃ r2 σ2, FinMove ⟨0, []⟩ (AV.d (.bool false)) σ r2 σ2 ∧ r2 = AV.d (.bool (s.all okB)) := fun σ h => no σ (allB_stop okB s k hlt (by rw [← hg]; exact h))
   have hok : ∀ c, okB c = ((decide (97 ≤ c.toNat) && decide (c.toNat ≤ 122)) || (decide (48 ≤ c.toNat) && decide (c.toNat ≤ 57)) || decide (0 ≤ idxB c mark)) := fun c => by rw [idx_mark]; rfl
   have hc1 := IndexByte_ok mark (s.getD ((k : Nat) : Int).toNat 0)
   replace hok := hok (s.getD ((k : Nat) : Int).toNat 0)
   clear hg hI no
   generalize idxB (s.getD ((k : Nat) : Int).toNat 0) mark = x at *
   repeat' (first | refine PureC.use hc1 ?_ |                       refine ⟨fun _ => ?_, fun h => absurd h (by decide)⟩ | refine ⟨fun h => absurd h (by decide), fun _ => ?_⟩ | (refine ⟨fun h => ?_, fun h => ?_⟩ <;> (try simp only [wS, List.length_cons, List.length_nil] at h) <;> (try exact wX h)) | refine ⟨⟨oB, oB⟩, _, by assumption, by rfl, ?_⟩ | refine .inl ⟨⟨oB, oB⟩, ?_⟩ | refine ⟨⟨oB, oB⟩, ?_⟩ | refine ⟨⟨oB, oB, oB⟩, ?_⟩ | refine ⟨.inl rfl, ?_⟩ | refine ⟨.inr (.inl oB), ?_⟩ | refine ⟨_, rfl, rfl, oL, ?_⟩ | refine ⟨_, rfl, oL, ?_⟩ | refine ⟨oL, ?_⟩ | refine ⟨show _ ≤ (9223372036854775807 : Nat) from oB, ?_⟩ | refine ⟨show _ ≠ (0 : Int) from oB, ?_⟩ | refine ⟨_, rfl, _, rfl, ?_⟩ | refine ⟨_, by assumption, Nat.le_of_ble_eq_true rfl, ?_⟩ | refine ⟨_, by assumption, _, rfl, ?_⟩ | refine ⟨_, rfl, ?_⟩ | fail)
   all_goals first
    | exact ⟨_, _, _, ⟨k + 1, rfl, hlt, go (by rw [hok]; simp only [Bool.or_eq_true, Bool.and_eq_true, decide_eq_true_eq]; omega), rfl, rfl⟩, by omega, Mv.of [] rfl rfl rfl trivial ⟨rfl, rfl, rfl, trivial⟩⟩
    | exact no2 _ (by rw [hok]; simp only [Bool.or_eq_false_iff, Bool.and_eq_false_iff, decide_eq_false_iff_not]; omega)
  ·have hk' : k = s.length := by omega
   subst hk'
   rw [List.take_length] at hI
   rw [hI]
   refine wR (k := ?_)
   exact ⟨_, _, fin_out rfl, rfl⟩
 ·rename_i h
  exact no _ (valB_first h)
 ·rename_i h
  exact no _ (valB_long h)
theorem mem_mark (c : UInt8) : c ∈ mark ↔ c.toNat = 32 ∨ c.toNat = 35 ∨ c.toNat = 37 ∨ c.toNat = 46 ∨ c.toNat = 44 ∨ c.toNat = 45 := by
 have e : ∀ n : UInt8, c = n ↔ c.toNat = n.toNat := fun n => UInt8.toNat_inj.symm
 simp only [mark, List.mem_cons, List.not_mem_nil, or_false, e]
 rfl
set_option maxRecDepth 100000 in
set_option maxHeartbeats 1000000 in
theorem rValue_ok (s : List UInt8) (hs : s.length ≤ 1000000000) : PureC Tryz.prog 62 [.d (.str s)] (.d (.bool (valB s))) := by
 refine pure_okT Tryz.wf Tryz.tab_ok Tryz.func62 (by decide +kernel) rfl rfl rfl rfl ?_
 by_cases h0 : s = []
 ·subst h0
  refine wR (k := ?_)
  exact ⟨_, _, fin_out rfl, rfl⟩
 have hl : 1 ≤ s.length := by cases s with | nil => exact absurd rfl h0 | cons _ _ => simp
 have no : ∀ σ : Store, valB s = false → ∃ r2 σ2, FinMove ⟨0, []⟩ (AV.d (.bool false)) σ r2 σ2 ∧ r2 = AV.d (.bool (valB s)) := fun σ h => ⟨_, _, fin_out rfl, by rw [h]⟩
 repeat' (first |                        refine ⟨fun _ => ?_, fun h => absurd h (by decide)⟩ | refine ⟨fun h => absurd h (by decide), fun _ => ?_⟩ | (refine ⟨fun h => ?_, fun h => ?_⟩ <;> (try simp only [wS, List.length_cons, List.length_nil] at h) <;> (try exact wX h)) | refine ⟨⟨oB, oB⟩, _, by assumption, by rfl, ?_⟩ | refine .inl ⟨⟨oB, oB⟩, ?_⟩ | refine ⟨⟨oB, oB⟩, ?_⟩ | refine ⟨⟨oB, oB, oB⟩, ?_⟩ | refine ⟨.inl rfl, ?_⟩ | refine ⟨.inr (.inl oB), ?_⟩ | refine ⟨_, rfl, rfl, oL, ?_⟩ | refine ⟨_, rfl, oL, ?_⟩ | refine ⟨oL, ?_⟩ | refine ⟨show _ ≤ (9223372036854775807 : Nat) from oB, ?_⟩ | refine ⟨show _ ≠ (0 : Int) from oB, ?_⟩ | refine ⟨_, rfl, _, rfl, ?_⟩ | refine ⟨_, by assumption, Nat.le_of_ble_eq_true rfl, ?_⟩ | refine ⟨_, by assumption, _, rfl, ?_⟩ | refine ⟨_, rfl, ?_⟩ | fail)
 ·rename_i h
  exact no _ (valB_last hl h)
 ·rename_i h1 h2
  have h3 := h
  have hv := valB_all hl h1 h2 h3
  rw [hv] at no ⊢
  clear h1 h2 h3 hv
  refine wR (k := ?_)
  refine loopT Tryz.wf Tryz.tab_ok (fun n s' σ => ∃ k : Nat, n = s.length - k ∧ k ≤ s.length ∧ (s.take k).all okB = true ∧ s' = [(0, .d (.str s)), (3, .d (.int .i64 k))] ∧ σ = ⟨0, []⟩)
   ⟨0, rfl, Nat.zero_le _, rfl, rfl, rfl⟩ (Mv.of [] rfl rfl rfl trivial ⟨rfl, rfl, trivial⟩) ?_
  rintro _ _ _ ⟨k, rfl, hk, hI, rfl, rfl⟩
  by_cases hlt : k < s.length
  ·have hg := getD_at s k hlt
   have go : okB (s.getD ((k : Nat) : Int).toNat 0) = true → (s.take (k + 1)).all okB = true := fun h => by rw [allB_step okB s k hlt, hI, ← hg, h]; rfl
   have no2 : ∀ σ : Store, okB (s.getD ((k : Nat) : Int).toNat 0) = false → ∃ r2 σ2, FinMove ⟨0, []⟩ (AV.d (.bool false)) σ r2 σ2 ∧ r2 = AV.d (.bool (s.all okB)) := fun σ h => no σ (allB_stop okB s k hlt (by rw [← hg]; exact h))
   have hok : okB (s.getD ((k : Nat) : Int).toNat 0) = ((decide (97 ≤ (s.getD ((k : Nat) : Int).toNat 0).toNat) && decide ((s.getD ((k : Nat) : Int).toNat 0).toNat ≤ 122)) || (decide (48 ≤ (s.getD ((k : Nat) : Int).toNat 0).toNat) && decide ((s.getD ((k : Nat) : Int).toNat 0).toNat ≤ 57)) || decide ((s.getD ((k : Nat) : Int).toNat 0) ∈ mark)) := rfl
   have hm := mem_mark (s.getD ((k : Nat) : Int).toNat 0)
   clear hg hI no
   repeat' (first |                        refine ⟨fun _ => ?_, fun h => absurd h (by decide)⟩ | refine ⟨fun h => absurd h (by decide), fun _ => ?_⟩ | (refine ⟨fun h => ?_, fun h => ?_⟩ <;> (try simp only [wS, List.length_cons, List.length_nil] at h) <;> (try exact wX h)) | refine ⟨⟨oB, oB⟩, _, by assumption, by rfl, ?_⟩ | refine .inl ⟨⟨oB, oB⟩, ?_⟩ | refine ⟨⟨oB, oB⟩, ?_⟩ | refine ⟨⟨oB, oB, oB⟩, ?_⟩ | refine ⟨.inl rfl, ?_⟩ | refine ⟨.inr (.inl oB), ?_⟩ | refine ⟨_, rfl, rfl, oL, ?_⟩ | refine ⟨_, rfl, oL, ?_⟩ | refine ⟨oL, ?_⟩ | refine ⟨show _ ≤ (9223372036854775807 : Nat) from oB, ?_⟩ | refine ⟨show _ ≠ (0 : Int) from oB, ?_⟩ | refine ⟨_, rfl, _, rfl, ?_⟩ | refine ⟨_, by assumption, Nat.le_of_ble_eq_true rfl, ?_⟩ | refine ⟨_, by assumption, _, rfl, ?_⟩ | refine ⟨_, rfl, ?_⟩ | fail)
   all_goals first
    | exact ⟨_, _, _, ⟨k + 1, rfl, hlt, go (by rw [hok]; simp only [Bool.or_eq_true, Bool.and_eq_true, decide_eq_true_eq, hm]; omega), rfl, rfl⟩, by omega, Mv.of [] rfl rfl rfl trivial ⟨rfl, rfl, trivial⟩⟩
    | exact no2 _ (by rw [hok]; simp only [Bool.or_eq_false_iff, Bool.and_eq_false_iff, decide_eq_false_iff_not, hm]; omega)
  ·have hk' : k = s.length := by omega
   subst hk'
   rw [List.take_length] at hI
   rw [hI]
   refine wR (k := ?_)
   exact ⟨_, _, fin_out rfl, rfl⟩
 ·rename_i h
  exact no _ (valB_first h)
 ·rename_i h
  exact no _ (valB_long h)
abbrev Pair := List UInt8 × List UInt8
/-- What stands in a style: each name with its value. -/
def partB (p : List UInt8) : Option Pair := (cutAt 58 p).map fun q => (bareB q.1, bareB q.2)
def keepB (props : List (List UInt8)) (p : Pair) : Bool := decide (p.1 ∈ props) && valB p.2
theorem splitB_bound (c : UInt8) : ∀ s : List UInt8, ∀ p ∈ splitB c s, p.length ≤ s.length
 | [], p, h => by simp [splitB] at h; rw [h]; exact Nat.le_refl _
 | x :: r, p, h => by
  have ih := splitB_bound c r
  rw [splitB] at h
  split at h
  ·rcases List.mem_cons.1 h with rfl | h
   ·simp
   ·have := ih p h; simp; omega
  ·split at h
   ·rename_i q qs hq
    rcases List.mem_cons.1 h with rfl | h
    ·have := ih q (by rw [hq]; simp); simp; omega
    ·have := ih p (by rw [hq]; simp [h]); simp; omega
   ·rw [List.mem_singleton.1 h]; simp
theorem cutAt_len {c : UInt8} : ∀ {s : List UInt8} {a b : List UInt8}, cutAt c s = some (a, b) → s = a ++ c :: b
 | [], a, b, h => by simp [cutAt] at h
 | x :: r, a, b, h => by
  rw [cutAt] at h
  split at h
  ·rename_i e
   cases h; rw [e]; rfl
  ·cases hc : cutAt c r with
   | none => rw [hc] at h; simp at h
   | some p =>
    rw [hc] at h
    obtain ⟨p1, p2⟩ := p
    simp at h
    obtain ⟨rfl, rfl⟩ := h
    rw [cutAt_len hc]; rfl
/-- The last place of a name among those that were kept (told from the last to the first). -/
def idxR (x : List UInt8) : List Pair → Nat
 | [] => 0
 | p :: r => if x = p.1 then r.length + 1 else idxR x r
def esR : List Pair → List (AV × AV)
 | [] => []
 | p :: r => mput p.1 (.d (.int .i64 ((r.length + 1 : Nat) : Int))) (esR r)
theorem mlook_mputS (x k : List UInt8) (v : AV) : ∀ es, strKeys es → mlook x (mput k v es) = if x = k then some v else mlook x es := by
 intro es
 induction es with
 | nil => intro _; simp [mput, mlook]
 | cons e r ih =>
  intro hk
  obtain ⟨s, hs⟩ := hk e (by simp)
  obtain ⟨a, u⟩ := e
  simp only at hs
  subst hs
  have ih' := ih (fun y hy => hk y (by simp [hy]))
  simp only [mput]
  by_cases h1 : k = s
  ·subst h1
   rw [if_pos rfl]
   simp only [mlook]
   by_cases h2 : x = k <;> simp [h2]
  ·rw [if_neg h1]
   simp only [mlook]
   by_cases h2 : x = s
   ·subst h2; rw [if_pos rfl, if_pos rfl, if_neg (fun e => h1 e.symm)]
   ·rw [if_neg h2, if_neg h2, ih']
theorem strKeys_mputS (k : List UInt8) (v : AV) : ∀ es, strKeys es → strKeys (mput k v es) := by
 intro es
 induction es with
 | nil => intro _ e he; simp [mput] at he; subst he; exact ⟨k, rfl⟩
 | cons e r ih =>
  intro hk
  obtain ⟨s, hs⟩ := hk e (by simp)
  obtain ⟨a, u⟩ := e
  simp only at hs
  subst hs
  have ih' := ih (fun y hy => hk y (by simp [hy]))
  simp only [mput]
  by_cases h1 : k = s
  ·rw [if_pos h1]
   intro y hy
   rcases List.mem_cons.1 hy with rfl | hy
   ·exact ⟨k, rfl⟩
   ·exact hk y (by simp [hy])
  ·rw [if_neg h1]
   intro y hy
   rcases List.mem_cons.1 hy with rfl | hy
   ·exact ⟨s, rfl⟩
   ·exact ih' y hy
theorem pure_mputS (k : List UInt8) (v : AV) (hv : v.pure = true) : ∀ es : List (AV × AV), (∀ e ∈ es, e.1.pure = true ∧ e.2.pure = true) → ∀ e ∈ mput k v es, e.1.pure = true ∧ e.2.pure = true := by
 intro es
 induction es with
 | nil => intro _ e he; simp [mput] at he; subst he; exact ⟨rfl, hv⟩
 | cons e r ih =>
  intro hk
  have ih' := ih (fun y hy => hk y (by simp [hy]))
  have h0 := hk e (by simp)
  have h1 : ∀ y ∈ r, y.1.pure = true ∧ y.2.pure = true := fun y hy => hk y (by simp [hy])
  have other : ∀ y ∈ e :: mput k v r, y.1.pure = true ∧ y.2.pure = true := fun y hy => by
   rcases List.mem_cons.1 hy with rfl | hy
   ·exact h0
   ·exact ih' y hy
  unfold mput
  split
  ·rename_i heq; simp at heq
  ·rename_i s u r' heq
   obtain ⟨rfl, rfl⟩ := List.cons.inj heq
   split
   ·intro y hy
    rcases List.mem_cons.1 hy with rfl | hy
    ·exact ⟨rfl, hv⟩
    ·exact h1 y hy
   ·exact other
  ·rename_i x r' hne heq
   obtain ⟨rfl, rfl⟩ := List.cons.inj heq
   exact other
theorem esR_keys : ∀ q, strKeys (esR q)
 | [] => fun e h => by simp [esR] at h
 | p :: r => strKeys_mputS _ _ _ (esR_keys r)
theorem esR_pure : ∀ q, ∀ e ∈ esR q, e.1.pure = true ∧ e.2.pure = true
 | [] => fun e h => by simp [esR] at h
 | p :: r => pure_mputS _ _ rfl _ (esR_pure r)
theorem esR_look (x : List UInt8) : ∀ q, (mlook x (esR q)).getD (.d (.int .i64 0)) = .d (.int .i64 (idxR x q : Nat))
 | [] => rfl
 | p :: r => by
  rw [esR, mlook_mputS _ _ _ _ (esR_keys r), idxR]
  by_cases h : x = p.1
  ·rw [if_pos h, if_pos h]; rfl
  ·rw [if_neg h, if_neg h]; exact esR_look x r
def proO (props : List (List UInt8)) : Ob := .rows (1, 22) [[.d (.sl (strsD props))]]
def keepO : Ob := .rows (1, 56) [[.fn (.func 45) [] [.ref 0 0 0]]]
def numO (m : Nat) : Ob := .rows (1, 3) [[.d (.int .i64 m)]]
def mpO : Ob := .rows (1, 58) [[.mp 1]]
def st2 (props : List (List UInt8)) (q : List Pair) : Store := ⟨5, [(4, keepO), (3, numO q.length), (2, mpO), (1, .map (esR q)), (0, proO props)]⟩
set_option maxRecDepth 100000 in
theorem keep_ok (props : List (List UInt8)) (a b : List UInt8) (hp : props.length ≤ 1000000) (hb : b.length ≤ 1000000000) : PureC Tryz.prog 45 [.d (.str a), .d (.str b), .ip [.sl (strsD props)] 0] (.d (.bool (keepB props (a, b)))) := by
 have hc1 := Contains_ok props a (by omega)
 have hc2 := Value_ok b hb
 refine pure_okT Tryz.wf Tryz.tab_ok Tryz.func45 (by decide +kernel) rfl rfl rfl rfl ?_
 unfold keepB
 repeat' (first | refine PureC.use hc1 ?_ | refine PureC.use hc2 ?_ |                      refine ⟨fun _ => ?_, fun h => absurd h (by decide)⟩ | refine ⟨fun h => absurd h (by decide), fun _ => ?_⟩ | (refine ⟨fun h => ?_, fun h => ?_⟩ <;> (try simp only [wS, List.length_cons, List.length_nil] at h) <;> (try exact wX h)) | refine ⟨⟨oB, oB⟩, _, by assumption, by rfl, ?_⟩ | refine .inl ⟨⟨oB, oB⟩, ?_⟩ | refine ⟨⟨oB, oB⟩, ?_⟩ | refine ⟨⟨oB, oB, oB⟩, ?_⟩ | refine ⟨.inl rfl, ?_⟩ | refine ⟨.inr (.inl oB), ?_⟩ | refine ⟨_, rfl, rfl, oL, ?_⟩ | refine ⟨_, rfl, oL, ?_⟩ | refine ⟨oL, ?_⟩ | refine ⟨show _ ≤ (9223372036854775807 : Nat) from oB, ?_⟩ | refine ⟨show _ ≠ (0 : Int) from oB, ?_⟩ | refine ⟨_, rfl, _, rfl, ?_⟩ | refine ⟨_, by assumption, Nat.le_of_ble_eq_true rfl, ?_⟩ | refine ⟨_, by assumption, _, rfl, ?_⟩ | refine ⟨_, rfl, ?_⟩ | fail)
 ·exact ⟨_, _, fin_out rfl, congrArg (fun x => AV.d (.bool x)) (by rw [decide_eq_true h]; rfl)⟩
 ·exact ⟨_, _, fin_out rfl, congrArg (fun x => AV.d (.bool x)) (by rw [decide_eq_false h]; rfl)⟩
theorem keep_at (props : List (List UInt8)) (a b : List UInt8) (hp : props.length ≤ 1000000) (hb : b.length ≤ 1000000000) (σ : Store) (h : σ.get 0 = proO props) : CallsAbs Tryz.prog 45 [.d (.str a), .d (.str b), .ref 0 0 0] σ fun r σ' => r = .d (.bool (keepB props (a, b))) ∧ σ' = σ := by
 refine PureC.borrow 1 (keep_ok props a b hp hb) rfl ?_
 unfold proO at h
 simp only [optL, seeV, h, seeD_d, List.getElem?_cons_zero, Option.map_some]
def addR (props : List (List UInt8)) (q : List Pair) (p : Pair) : List Pair := if keepB props p = true then p :: q else q
set_option maxRecDepth 100000 in
theorem first_ok (props : List (List UInt8)) (q : List Pair) (a b : List UInt8) (hp : props.length ≤ 1000000) (hb : b.length ≤ 1000000000) (hq : q.length ≤ 1000000000) :
  CallsAbs Tryz.prog 48 [.d (.str a), .d (.str b), .ref 4 0 0, .ref 3 0 0, .ref 2 0 0] (st2 props q) fun r σ' => r = .tup [] ∧ σ' = st2 props (addR props q (a, b)) := by
 have hd1 := keep_at props a b hp hb (st2 props q) rfl
 refine fn_okT Tryz.wf Tryz.tab_ok Tryz.func48 (by decide +kernel) rfl rfl ?_
 unfold addR
 cases hk : keepB props (a, b) with
 | false =>
  rw [hk] at hd1
  repeat' (first |            refine CallsAbs.use1 hd1 ?_ |            refine ⟨fun _ => ?_, fun h => absurd h (by decide)⟩ | refine ⟨fun h => absurd h (by decide), fun _ => ?_⟩ | (refine ⟨fun h => ?_, fun h => ?_⟩ <;> (try simp only [wS, List.length_cons, List.length_nil] at h) <;> (try exact wX h)) | refine ⟨⟨oB, oB⟩, _, by assumption, by rfl, ?_⟩ | refine .inl ⟨⟨oB, oB⟩, ?_⟩ | refine ⟨⟨oB, oB⟩, ?_⟩ | refine ⟨⟨oB, oB, oB⟩, ?_⟩ | refine ⟨.inl rfl, ?_⟩ | refine ⟨.inr (.inl oB), ?_⟩ | refine ⟨_, rfl, rfl, oL, ?_⟩ | refine ⟨_, rfl, oL, ?_⟩ | refine ⟨oL, ?_⟩ | refine ⟨show _ ≤ (9223372036854775807 : Nat) from oB, ?_⟩ | refine ⟨show _ ≠ (0 : Int) from oB, ?_⟩ | refine ⟨_, rfl, _, rfl, ?_⟩ | refine ⟨_, by assumption, Nat.le_of_ble_eq_true rfl, ?_⟩ | refine ⟨_, by assumption, _, rfl, ?_⟩ | refine ⟨_, rfl, ?_⟩ | fail)
  exact ⟨_, _, FinMove.refl _ _ _, rfl, rfl⟩
 | true =>
  rw [hk] at hd1
  repeat' (first |            refine CallsAbs.use1 hd1 ?_ |            refine ⟨fun _ => ?_, fun h => absurd h (by decide)⟩ | refine ⟨fun h => absurd h (by decide), fun _ => ?_⟩ | (refine ⟨fun h => ?_, fun h => ?_⟩ <;> (try simp only [wS, List.length_cons, List.length_nil] at h) <;> (try exact wX h)) | refine ⟨⟨oB, oB⟩, _, by assumption, by rfl, ?_⟩ | refine .inl ⟨⟨oB, oB⟩, ?_⟩ | refine ⟨⟨oB, oB⟩, ?_⟩ | refine ⟨⟨oB, oB, oB⟩, ?_⟩ | refine ⟨.inl rfl, ?_⟩ | refine ⟨.inr (.inl oB), ?_⟩ | refine ⟨_, rfl, rfl, oL, ?_⟩ | refine ⟨_, rfl, oL, ?_⟩ | refine ⟨oL, ?_⟩ | refine ⟨show _ ≤ (9223372036854775807 : Nat) from oB, ?_⟩ | refine ⟨show _ ≠ (0 : Int) from oB, ?_⟩ | refine ⟨_, rfl, _, rfl, ?_⟩ | refine ⟨_, by assumption, Nat.le_of_ble_eq_true rfl, ?_⟩ | refine ⟨_, by assumption, _, rfl, ?_⟩ | refine ⟨_, rfl, ?_⟩ | fail)
  refine ⟨esR_keys _, ?_⟩
  repeat' (first |            refine CallsAbs.use1 hd1 ?_ |            refine ⟨fun _ => ?_, fun h => absurd h (by decide)⟩ | refine ⟨fun h => absurd h (by decide), fun _ => ?_⟩ | (refine ⟨fun h => ?_, fun h => ?_⟩ <;> (try simp only [wS, List.length_cons, List.length_nil] at h) <;> (try exact wX h)) | refine ⟨⟨oB, oB⟩, _, by assumption, by rfl, ?_⟩ | refine .inl ⟨⟨oB, oB⟩, ?_⟩ | refine ⟨⟨oB, oB⟩, ?_⟩ | refine ⟨⟨oB, oB, oB⟩, ?_⟩ | refine ⟨.inl rfl, ?_⟩ | refine ⟨.inr (.inl oB), ?_⟩ | refine ⟨_, rfl, rfl, oL, ?_⟩ | refine ⟨_, rfl, oL, ?_⟩ | refine ⟨oL, ?_⟩ | refine ⟨show _ ≤ (9223372036854775807 : Nat) from oB, ?_⟩ | refine ⟨show _ ≠ (0 : Int) from oB, ?_⟩ | refine ⟨_, rfl, _, rfl, ?_⟩ | refine ⟨_, by assumption, Nat.le_of_ble_eq_true rfl, ?_⟩ | refine ⟨_, by assumption, _, rfl, ?_⟩ | refine ⟨_, rfl, ?_⟩ | fail)
  refine ⟨.tup [], st2 props ((a, b) :: q), fin_same rfl fun i => ?_, rfl, rfl⟩
  rcases (show i = 0 ∨ i = 1 ∨ i = 2 ∨ i = 3 ∨ i = 4 ∨ 5 ≤ i by omega) with rfl | rfl | rfl | rfl | rfl | h
  ·rfl
  ·rfl
  ·rfl
  ·rfl
  ·rfl
  ·simp only [st2, Store.get, look_cons]
   repeat rw [if_neg (by omega)]
def keptR (props : List (List UInt8)) (l : List (List UInt8)) : List Pair := (l.filterMap partB).foldl (addR props) []
theorem keptR_none (props : List (List UInt8)) (l : List (List UInt8)) (k : Nat) (h : k < l.length) (hc : cutAt 58 l[k] = none) : keptR props (l.take (k + 1)) = keptR props (l.take k) := by
 unfold keptR
 rw [List.take_succ_eq_append_getElem h, List.filterMap_append, show [l[k]].filterMap partB = [] from by simp [partB, hc], List.append_nil]
theorem keptR_some (props : List (List UInt8)) (l : List (List UInt8)) (k : Nat) (h : k < l.length) {x y : List UInt8} (hc : cutAt 58 l[k] = some (x, y)) : keptR props (l.take (k + 1)) = addR props (keptR props (l.take k)) (bareB x, bareB y) := by
 unfold keptR
 rw [List.take_succ_eq_append_getElem h, List.filterMap_append, show [l[k]].filterMap partB = [(bareB x, bareB y)] from by simp [partB, hc], List.foldl_append]; rfl
theorem addR_len (props : List (List UInt8)) (q : List Pair) (p : Pair) : (addR props q p).length ≤ q.length + 1 := by
 unfold addR; split <;> simp
theorem addRs_len (props : List (List UInt8)) : ∀ (l : List Pair) (q : List Pair), (l.foldl (addR props) q).length ≤ q.length + l.length
 | [], q => by simp
 | p :: r, q => by
  have h1 := addRs_len props r (addR props q p)
  have h2 := addR_len props q p
  simp only [List.foldl_cons, List.length_cons]; omega
theorem keptR_len (props : List (List UInt8)) (l : List (List UInt8)) : (keptR props l).length ≤ l.length := by
 have h1 := addRs_len props (l.filterMap partB) []
 have h2 := List.length_filterMap_le partB l
 unfold keptR
 simp only [List.length_nil] at h1; omega
theorem lower_length (s : List UInt8) : (lower s).length = s.length := by simp [lower]
theorem bareB_len (s : List UInt8) : (bareB s).length ≤ s.length := by
 unfold bareB
 rw [lower_length]
 exact Nat.le_trans (trimLB_le _ _) (trimRB_le _ _)
set_option maxRecDepth 100000 in
set_option maxHeartbeats 1000000 in
theorem each2_ok (props : List (List UInt8)) (s : List UInt8) (hp : props.length ≤ 1000000) (hs : s.length ≤ 100000000) :
  CallsAbs Tryz.prog 47 [.d (.str s), .fn (.func 48) [] [.ref 4 0 0, .ref 3 0 0, .ref 2 0 0]] (st2 props []) fun r σ' => r = .tup [] ∧ σ' = st2 props (keptR props (splitB 59 s)) := by
 have hc1 := Split_ok 59 s (by omega)
 have hn := strsD_len (splitB 59 s)
 have hb := splitB_bound 59 s
 have hcnt := splitB_len 59 s
 have hcl := List.count_le_length (a := 59) (l := s)
 generalize splitB 59 s = ps at *
 refine fn_okT Tryz.wf Tryz.tab_ok Tryz.func47 (by decide +kernel) rfl rfl ?_
 repeat' (first | refine PureC.use hc1 ?_ | refine PureC.use hc2 ?_ | refine PureC.use hc3 ?_ | refine PureC.use hc4 ?_ |        refine CallsAbs.use1 hd1 ?_ |            refine ⟨fun _ => ?_, fun h => absurd h (by decide)⟩ | refine ⟨fun h => absurd h (by decide), fun _ => ?_⟩ | (refine ⟨fun h => ?_, fun h => ?_⟩ <;> (try simp only [wS, List.length_cons, List.length_nil] at h) <;> (try exact wX h)) | refine ⟨⟨oB, oB⟩, _, by assumption, by rfl, ?_⟩ | refine .inl ⟨⟨oB, oB⟩, ?_⟩ | refine ⟨⟨oB, oB⟩, ?_⟩ | refine ⟨⟨oB, oB, oB⟩, ?_⟩ | refine ⟨.inl rfl, ?_⟩ | refine ⟨.inr (.inl oB), ?_⟩ | refine ⟨_, rfl, rfl, oL, ?_⟩ | refine ⟨_, rfl, oL, ?_⟩ | refine ⟨oL, ?_⟩ | refine ⟨show _ ≤ (9223372036854775807 : Nat) from oB, ?_⟩ | refine ⟨show _ ≠ (0 : Int) from oB, ?_⟩ | refine ⟨_, rfl, _, rfl, ?_⟩ | refine ⟨_, by assumption, Nat.le_of_ble_eq_true rfl, ?_⟩ | refine ⟨_, by assumption, _, rfl, ?_⟩ | refine ⟨_, rfl, ?_⟩ | fail)
 refine loopT Tryz.wf Tryz.tab_ok (fun n s' σ => ∃ k : Nat, n = ps.length - k ∧ k ≤ ps.length ∧ s' = [(1, .fn (.func 48) [] [.ref 4 0 0, .ref 3 0 0, .ref 2 0 0]), (10, .d (.sl (strsD ps))), (11, .d (.int .i64 ps.length)), (12, .d (.int .i64 k))] ∧ σ = st2 props (keptR props (ps.take k)))
  ⟨0, rfl, Nat.zero_le _, rfl, rfl⟩ (Mv.of [] rfl rfl rfl ⟨⟨rfl, .inr ⟨⟨⟨rfl, trivial, ⟨rfl, rfl, rfl⟩, trivial⟩, trivial⟩, trivial⟩⟩, ⟨rfl, .inl ⟨rfl, fun row h => by rw [List.mem_singleton.1 h]; rfl⟩⟩, ⟨rfl, .inr ⟨⟨rfl, trivial⟩, trivial⟩⟩, .inl ⟨rfl, esR_pure _⟩, ⟨rfl, .inl ⟨rfl, fun row h => by rw [List.mem_singleton.1 h]; rfl⟩⟩, trivial⟩ ⟨⟨rfl, trivial, ⟨rfl, rfl, rfl⟩, ⟨rfl, rfl, rfl⟩, ⟨rfl, rfl, rfl⟩, trivial⟩, rfl, congrArg (fun n : Nat => D.int .i64 n) hn.symm, rfl, trivial⟩) ?_
 rintro _ _ _ ⟨k, rfl, hk, rfl, rfl⟩
 by_cases hlt : k < ps.length
 ·have hg := strsD_get ps k hlt
  have hpb := hb ps[k] (List.getElem_mem hlt)
  have hc2 := CutC_ok 58 ps[k] (by omega)
  have hql := keptR_len props (ps.take k)
  rw [List.length_take] at hql
  unfold cutW at hc2
  cases hcut : cutAt 58 ps[k] with
  | none =>
   rw [hcut] at hc2
   have hnx := keptR_none props ps k hlt hcut
   repeat' (first | refine PureC.use hc1 ?_ | refine PureC.use hc2 ?_ | refine PureC.use hc3 ?_ | refine PureC.use hc4 ?_ |        refine CallsAbs.use1 hd1 ?_ |            refine ⟨fun _ => ?_, fun h => absurd h (by decide)⟩ | refine ⟨fun h => absurd h (by decide), fun _ => ?_⟩ | (refine ⟨fun h => ?_, fun h => ?_⟩ <;> (try simp only [wS, List.length_cons, List.length_nil] at h) <;> (try exact wX h)) | refine ⟨⟨oB, oB⟩, _, by assumption, by rfl, ?_⟩ | refine .inl ⟨⟨oB, oB⟩, ?_⟩ | refine ⟨⟨oB, oB⟩, ?_⟩ | refine ⟨⟨oB, oB, oB⟩, ?_⟩ | refine ⟨.inl rfl, ?_⟩ | refine ⟨.inr (.inl oB), ?_⟩ | refine ⟨_, rfl, rfl, oL, ?_⟩ | refine ⟨_, rfl, oL, ?_⟩ | refine ⟨oL, ?_⟩ | refine ⟨show _ ≤ (9223372036854775807 : Nat) from oB, ?_⟩ | refine ⟨show _ ≠ (0 : Int) from oB, ?_⟩ | refine ⟨_, rfl, _, rfl, ?_⟩ | refine ⟨_, by assumption, Nat.le_of_ble_eq_true rfl, ?_⟩ | refine ⟨_, by assumption, _, rfl, ?_⟩ | refine ⟨_, rfl, ?_⟩ | fail)
   exact ⟨_, _, _, ⟨k + 1, rfl, hlt, rfl, rfl⟩, by omega, Mv.of [] rfl rfl rfl (by rw [hnx]; exact ⟨⟨rfl, .inr ⟨⟨⟨rfl, trivial, ⟨rfl, rfl, rfl⟩, trivial⟩, trivial⟩, trivial⟩⟩, ⟨rfl, .inl ⟨rfl, fun row h => by rw [List.mem_singleton.1 h]; rfl⟩⟩, ⟨rfl, .inr ⟨⟨rfl, trivial⟩, trivial⟩⟩, .inl ⟨rfl, esR_pure _⟩, ⟨rfl, .inl ⟨rfl, fun row h => by rw [List.mem_singleton.1 h]; rfl⟩⟩, trivial⟩) ⟨⟨rfl, trivial, ⟨rfl, rfl, rfl⟩, ⟨rfl, rfl, rfl⟩, ⟨rfl, rfl, rfl⟩, trivial⟩, rfl, rfl, rfl, trivial⟩⟩
  | some xy =>
   obtain ⟨x, y⟩ := xy
   rw [hcut] at hc2
   have hxy := congrArg List.length (cutAt_len hcut)
   rw [List.length_append, List.length_cons] at hxy
   have hby := bareB_len y
   have hnx := keptR_some props ps k hlt hcut
   have hc3 := bare_ok x (by omega)
   have hc4 := bare_ok y (by omega)
   have hd1 := first_ok props (keptR props (ps.take k)) (bareB x) (bareB y) hp (by omega) (by omega)
   repeat' (first | refine PureC.use hc1 ?_ | refine PureC.use hc2 ?_ | refine PureC.use hc3 ?_ | refine PureC.use hc4 ?_ |        refine CallsAbs.use1 hd1 ?_ |            refine ⟨fun _ => ?_, fun h => absurd h (by decide)⟩ | refine ⟨fun h => absurd h (by decide), fun _ => ?_⟩ | (refine ⟨fun h => ?_, fun h => ?_⟩ <;> (try simp only [wS, List.length_cons, List.length_nil] at h) <;> (try exact wX h)) | refine ⟨⟨oB, oB⟩, _, by assumption, by rfl, ?_⟩ | refine .inl ⟨⟨oB, oB⟩, ?_⟩ | refine ⟨⟨oB, oB⟩, ?_⟩ | refine ⟨⟨oB, oB, oB⟩, ?_⟩ | refine ⟨.inl rfl, ?_⟩ | refine ⟨.inr (.inl oB), ?_⟩ | refine ⟨_, rfl, rfl, oL, ?_⟩ | refine ⟨_, rfl, oL, ?_⟩ | refine ⟨oL, ?_⟩ | refine ⟨show _ ≤ (9223372036854775807 : Nat) from oB, ?_⟩ | refine ⟨show _ ≠ (0 : Int) from oB, ?_⟩ | refine ⟨_, rfl, _, rfl, ?_⟩ | refine ⟨_, by assumption, Nat.le_of_ble_eq_true rfl, ?_⟩ | refine ⟨_, by assumption, _, rfl, ?_⟩ | refine ⟨_, rfl, ?_⟩ | fail)
   exact ⟨_, _, _, ⟨k + 1, rfl, hlt, rfl, rfl⟩, by omega, Mv.of [] rfl rfl rfl (by rw [hnx]; exact ⟨⟨rfl, .inr ⟨⟨⟨rfl, trivial, ⟨rfl, rfl, rfl⟩, trivial⟩, trivial⟩, trivial⟩⟩, ⟨rfl, .inl ⟨rfl, fun row h => by rw [List.mem_singleton.1 h]; rfl⟩⟩, ⟨rfl, .inr ⟨⟨rfl, trivial⟩, trivial⟩⟩, .inl ⟨rfl, esR_pure _⟩, ⟨rfl, .inl ⟨rfl, fun row h => by rw [List.mem_singleton.1 h]; rfl⟩⟩, trivial⟩) ⟨⟨rfl, trivial, ⟨rfl, rfl, rfl⟩, ⟨rfl, rfl, rfl⟩, ⟨rfl, rfl, rfl⟩, trivial⟩, rfl, rfl, rfl, trivial⟩⟩
 ·have hk' : k = ps.length := by omega
  subst hk'
  rw [List.take_length]
  repeat' (first | refine PureC.use hc1 ?_ | refine PureC.use hc2 ?_ | refine PureC.use hc3 ?_ | refine PureC.use hc4 ?_ |        refine CallsAbs.use1 hd1 ?_ |            refine ⟨fun _ => ?_, fun h => absurd h (by decide)⟩ | refine ⟨fun h => absurd h (by decide), fun _ => ?_⟩ | (refine ⟨fun h => ?_, fun h => ?_⟩ <;> (try simp only [wS, List.length_cons, List.length_nil] at h) <;> (try exact wX h)) | refine ⟨⟨oB, oB⟩, _, by assumption, by rfl, ?_⟩ | refine .inl ⟨⟨oB, oB⟩, ?_⟩ | refine ⟨⟨oB, oB⟩, ?_⟩ | refine ⟨⟨oB, oB, oB⟩, ?_⟩ | refine ⟨.inl rfl, ?_⟩ | refine ⟨.inr (.inl oB), ?_⟩ | refine ⟨_, rfl, rfl, oL, ?_⟩ | refine ⟨_, rfl, oL, ?_⟩ | refine ⟨oL, ?_⟩ | refine ⟨show _ ≤ (9223372036854775807 : Nat) from oB, ?_⟩ | refine ⟨show _ ≠ (0 : Int) from oB, ?_⟩ | refine ⟨_, rfl, _, rfl, ?_⟩ | refine ⟨_, by assumption, Nat.le_of_ble_eq_true rfl, ?_⟩ | refine ⟨_, by assumption, _, rfl, ?_⟩ | refine ⟨_, rfl, ?_⟩ | fail)
  exact ⟨_, _, FinMove.refl _ _ _, rfl, rfl⟩
/-- A name and its value, as they are written. -/
def txtB (p : Pair) : List UInt8 := p.1 ++ [58, 32] ++ p.2
def outA (out : List Pair) : List (List AV) := (strsD (out.map txtB)).map fun r => r.map .d
theorem outA_len (out : List Pair) : (outA out).length = out.length := by simp [outA, strsD_len]
theorem outA_rows (out : List Pair) : ∀ row ∈ outA out, row.length = 1 ∧ ∀ a ∈ row, a.one = true := fun row h => by
 unfold outA strsD at h
 simp only [List.map_map, List.mem_map] at h
 obtain ⟨p, _, rfl⟩ := h
 exact ⟨rfl, fun a ha => by simp at ha; rw [ha]; rfl⟩
theorem outA_snoc (out : List Pair) (p : Pair) : outA (out ++ [p]) = outA out ++ [[.d (.str (txtB p))]] := by simp [outA, strsD]
theorem outA_pure (out : List Pair) : ∀ row ∈ outA out, pureL row = true := dataA_pure _
def soutO (j : Nat) (out : List Pair) : Ob := .rows (1, 22) [[.own j 0 out.length]]
def st3 (props : List (List UInt8)) (Q : List Pair) (m : Nat) (out : List Pair) (j n : Nat) : Store := ⟨n, [(j, .rows (1, 9) (outA out)), (5, soutO j out), (4, keepO), (3, numO m), (2, mpO), (1, .map (esR Q)), (0, proO props)]⟩
set_option maxRecDepth 100000 in
theorem third_skip (props : List (List UInt8)) (Q : List Pair) (m : Nat) (out : List Pair) (a b : List UInt8) (hp : props.length ≤ 1000000) (hb : b.length ≤ 1000000000) (hk : keepB props (a, b) = false) :
  CallsAbs Tryz.prog 49 [.d (.str a), .d (.str b), .ref 4 0 0, .ref 3 0 0, .ref 2 0 0, .ref 5 0 0] (st3 props Q m out 6 7) fun r σ' => r = .tup [] ∧ σ' = st3 props Q m out 6 7 := by
 have hd1 := keep_at props a b hp hb (st3 props Q m out 6 7) rfl
 refine fn_okT Tryz.wf Tryz.tab_ok Tryz.func49 (by decide +kernel) rfl rfl ?_
 rw [hk] at hd1
 repeat' (first |            refine CallsAbs.use1 hd1 ?_ |            refine ⟨fun _ => ?_, fun h => absurd h (by decide)⟩ | refine ⟨fun h => absurd h (by decide), fun _ => ?_⟩ | (refine ⟨fun h => ?_, fun h => ?_⟩ <;> (try simp only [wS, List.length_cons, List.length_nil] at h) <;> (try exact wX h)) | refine ⟨⟨oB, oB⟩, _, by assumption, by rfl, ?_⟩ | refine .inl ⟨⟨oB, oB⟩, ?_⟩ | refine ⟨⟨oB, oB⟩, ?_⟩ | refine ⟨⟨oB, oB, oB⟩, ?_⟩ | refine ⟨.inl rfl, ?_⟩ | refine ⟨.inr (.inl oB), ?_⟩ | refine ⟨_, rfl, rfl, oL, ?_⟩ | refine ⟨_, rfl, oL, ?_⟩ | refine ⟨oL, ?_⟩ | refine ⟨show _ ≤ (9223372036854775807 : Nat) from oB, ?_⟩ | refine ⟨show _ ≠ (0 : Int) from oB, ?_⟩ | refine ⟨_, rfl, _, rfl, ?_⟩ | refine ⟨_, by assumption, Nat.le_of_ble_eq_true rfl, ?_⟩ | refine ⟨_, by assumption, _, rfl, ?_⟩ | refine ⟨_, rfl, ?_⟩ | fail)
 exact ⟨_, _, FinMove.refl _ _ _, rfl, rfl⟩
set_option maxRecDepth 100000 in
theorem third_no (props : List (List UInt8)) (Q : List Pair) (m : Nat) (out : List Pair) (a b : List UInt8) (hp : props.length ≤ 1000000) (hb : b.length ≤ 1000000000) (hm : m ≤ 1000000000) (hk : keepB props (a, b) = true) (hi : idxR a Q ≠ m + 1) :
  CallsAbs Tryz.prog 49 [.d (.str a), .d (.str b), .ref 4 0 0, .ref 3 0 0, .ref 2 0 0, .ref 5 0 0] (st3 props Q m out 6 7) fun r σ' => r = .tup [] ∧ σ' = st3 props Q (m + 1) out 6 7 := by
 have hd1 := keep_at props a b hp hb (st3 props Q m out 6 7) rfl
 refine fn_okT Tryz.wf Tryz.tab_ok Tryz.func49 (by decide +kernel) rfl rfl ?_
 rw [hk] at hd1
 repeat' (first |            refine CallsAbs.use1 hd1 ?_ |            refine ⟨fun _ => ?_, fun h => absurd h (by decide)⟩ | refine ⟨fun h => absurd h (by decide), fun _ => ?_⟩ | (refine ⟨fun h => ?_, fun h => ?_⟩ <;> (try simp only [wS, List.length_cons, List.length_nil] at h) <;> (try exact wX h)) | refine ⟨⟨oB, oB⟩, _, by assumption, by rfl, ?_⟩ | refine .inl ⟨⟨oB, oB⟩, ?_⟩ | refine ⟨⟨oB, oB⟩, ?_⟩ | refine ⟨⟨oB, oB, oB⟩, ?_⟩ | refine ⟨.inl rfl, ?_⟩ | refine ⟨.inr (.inl oB), ?_⟩ | refine ⟨_, rfl, rfl, oL, ?_⟩ | refine ⟨_, rfl, oL, ?_⟩ | refine ⟨oL, ?_⟩ | refine ⟨show _ ≤ (9223372036854775807 : Nat) from oB, ?_⟩ | refine ⟨show _ ≠ (0 : Int) from oB, ?_⟩ | refine ⟨_, rfl, _, rfl, ?_⟩ | refine ⟨_, by assumption, Nat.le_of_ble_eq_true rfl, ?_⟩ | refine ⟨_, by assumption, _, rfl, ?_⟩ | refine ⟨_, rfl, ?_⟩ | fail)
 refine ⟨_, _, rfl, esR_keys Q, rfl, rfl, ?_⟩
 rw [esR_look]
 repeat' (first |            refine CallsAbs.use1 hd1 ?_ |            refine ⟨fun _ => ?_, fun h => absurd h (by decide)⟩ | refine ⟨fun h => absurd h (by decide), fun _ => ?_⟩ | (refine ⟨fun h => ?_, fun h => ?_⟩ <;> (try simp only [wS, List.length_cons, List.length_nil] at h) <;> (try exact wX h)) | refine ⟨⟨oB, oB⟩, _, by assumption, by rfl, ?_⟩ | refine .inl ⟨⟨oB, oB⟩, ?_⟩ | refine ⟨⟨oB, oB⟩, ?_⟩ | refine ⟨⟨oB, oB, oB⟩, ?_⟩ | refine ⟨.inl rfl, ?_⟩ | refine ⟨.inr (.inl oB), ?_⟩ | refine ⟨_, rfl, rfl, oL, ?_⟩ | refine ⟨_, rfl, oL, ?_⟩ | refine ⟨oL, ?_⟩ | refine ⟨show _ ≤ (9223372036854775807 : Nat) from oB, ?_⟩ | refine ⟨show _ ≠ (0 : Int) from oB, ?_⟩ | refine ⟨_, rfl, _, rfl, ?_⟩ | refine ⟨_, by assumption, Nat.le_of_ble_eq_true rfl, ?_⟩ | refine ⟨_, by assumption, _, rfl, ?_⟩ | refine ⟨_, rfl, ?_⟩ | fail)
 refine ⟨.tup [], st3 props Q (m + 1) out 6 7, fin_same rfl fun i => ?_, rfl, rfl⟩
 rcases (show i = 0 ∨ i = 1 ∨ i = 2 ∨ i = 3 ∨ i = 4 ∨ i = 5 ∨ i = 6 ∨ 7 ≤ i by omega) with rfl | rfl | rfl | rfl | rfl | rfl | rfl | h
 ·rfl
 ·rfl
 ·rfl
 ·rfl
 ·rfl
 ·rfl
 ·rfl
 ·simp only [st3, Store.get, look_cons]
  repeat rw [if_neg (by omega)]
set_option maxRecDepth 100000 in
theorem third_add (props : List (List UInt8)) (Q : List Pair) (m : Nat) (out : List Pair) (a b : List UInt8) (hp : props.length ≤ 1000000) (ha : a.length ≤ 1000000000) (hb : b.length ≤ 1000000000) (hm : m ≤ 1000000000) (ho : out.length ≤ 1000000000) (hk : keepB props (a, b) = true) (hi : idxR a Q = m + 1) :
  CallsAbs Tryz.prog 49 [.d (.str a), .d (.str b), .ref 4 0 0, .ref 3 0 0, .ref 2 0 0, .ref 5 0 0] (st3 props Q m out 6 7) fun r σ' => r = .tup [] ∧ σ' = st3 props Q (m + 1) (out ++ [(a, b)]) 7 8 := by
 have hd1 := keep_at props a b hp hb (st3 props Q m out 6 7) rfl
 have hl := outA_len out
 refine fn_okT Tryz.wf Tryz.tab_ok Tryz.func49 (by decide +kernel) rfl rfl ?_
 rw [hk] at hd1
 repeat' (first |            refine CallsAbs.use1 hd1 ?_ |            refine ⟨fun _ => ?_, fun h => absurd h (by decide)⟩ | refine ⟨fun h => absurd h (by decide), fun _ => ?_⟩ | (refine ⟨fun h => ?_, fun h => ?_⟩ <;> (try simp only [wS, List.length_cons, List.length_nil] at h) <;> (try exact wX h)) | refine ⟨⟨oB, oB⟩, _, by assumption, by rfl, ?_⟩ | refine .inl ⟨⟨oB, oB⟩, ?_⟩ | refine ⟨⟨oB, oB⟩, ?_⟩ | refine ⟨⟨oB, oB, oB⟩, ?_⟩ | refine ⟨.inl rfl, ?_⟩ | refine ⟨.inr (.inl oB), ?_⟩ | refine ⟨_, rfl, rfl, oL, ?_⟩ | refine ⟨_, rfl, oL, ?_⟩ | refine ⟨oL, ?_⟩ | refine ⟨show _ ≤ (9223372036854775807 : Nat) from oB, ?_⟩ | refine ⟨show _ ≠ (0 : Int) from oB, ?_⟩ | refine ⟨_, rfl, _, rfl, ?_⟩ | refine ⟨_, by assumption, Nat.le_of_ble_eq_true rfl, ?_⟩ | refine ⟨_, by assumption, _, rfl, ?_⟩ | refine ⟨_, rfl, ?_⟩ | fail)
 refine ⟨_, _, rfl, esR_keys Q, rfl, rfl, ?_⟩
 rw [esR_look, hi]
 repeat' (first |            refine CallsAbs.use1 hd1 ?_ |            refine ⟨fun _ => ?_, fun h => absurd h (by decide)⟩ | refine ⟨fun h => absurd h (by decide), fun _ => ?_⟩ | (refine ⟨fun h => ?_, fun h => ?_⟩ <;> (try simp only [wS, List.length_cons, List.length_nil] at h) <;> (try exact wX h)) | refine ⟨⟨oB, oB⟩, _, by assumption, by rfl, ?_⟩ | refine .inl ⟨⟨oB, oB⟩, ?_⟩ | refine ⟨⟨oB, oB⟩, ?_⟩ | refine ⟨⟨oB, oB, oB⟩, ?_⟩ | refine ⟨.inl rfl, ?_⟩ | refine ⟨.inr (.inl oB), ?_⟩ | refine ⟨_, rfl, rfl, oL, ?_⟩ | refine ⟨_, rfl, oL, ?_⟩ | refine ⟨oL, ?_⟩ | refine ⟨show _ ≤ (9223372036854775807 : Nat) from oB, ?_⟩ | refine ⟨show _ ≠ (0 : Int) from oB, ?_⟩ | refine ⟨_, rfl, _, rfl, ?_⟩ | refine ⟨_, by assumption, Nat.le_of_ble_eq_true rfl, ?_⟩ | refine ⟨_, by assumption, _, rfl, ?_⟩ | refine ⟨_, rfl, ?_⟩ | fail)
 refine ⟨outA out, [_], congrArg some (takeAll hl), rfl, (show srcLen (.own 6 0 out.length) _ from hl), rfl, (by rw [hl]; show (out.length + 1) * 16 ≤ 140737488355328; omega), Nat.le_of_ble_eq_true rfl, Nat.le_of_ble_eq_true rfl, rfl, rfl, outA_rows out, rowsOne rfl rfl, ?_⟩
 repeat' (first |            refine CallsAbs.use1 hd1 ?_ |            refine ⟨fun _ => ?_, fun h => absurd h (by decide)⟩ | refine ⟨fun h => absurd h (by decide), fun _ => ?_⟩ | (refine ⟨fun h => ?_, fun h => ?_⟩ <;> (try simp only [wS, List.length_cons, List.length_nil] at h) <;> (try exact wX h)) | refine ⟨⟨oB, oB⟩, _, by assumption, by rfl, ?_⟩ | refine .inl ⟨⟨oB, oB⟩, ?_⟩ | refine ⟨⟨oB, oB⟩, ?_⟩ | refine ⟨⟨oB, oB, oB⟩, ?_⟩ | refine ⟨.inl rfl, ?_⟩ | refine ⟨.inr (.inl oB), ?_⟩ | refine ⟨_, rfl, rfl, oL, ?_⟩ | refine ⟨_, rfl, oL, ?_⟩ | refine ⟨oL, ?_⟩ | refine ⟨show _ ≤ (9223372036854775807 : Nat) from oB, ?_⟩ | refine ⟨show _ ≠ (0 : Int) from oB, ?_⟩ | refine ⟨_, rfl, _, rfl, ?_⟩ | refine ⟨_, by assumption, Nat.le_of_ble_eq_true rfl, ?_⟩ | refine ⟨_, by assumption, _, rfl, ?_⟩ | refine ⟨_, rfl, ?_⟩ | fail)
 have e1 : outA (out ++ [(a, b)]) = outA out ++ [[.d (.str (a ++ [58, 32] ++ b))]] := outA_snoc out (a, b)
 have e2 : (out ++ [(a, b)]).length = (outA out).length + 1 := by simp [outA_len]
 exact ⟨.tup [], st3 props Q (m + 1) (out ++ [(a, b)]) 7 8, fin_mv [.old 8] rfl rfl rfl ⟨⟨rfl, .inl ⟨e1, outA_pure _⟩⟩, ⟨rfl, .inr ⟨⟨⟨rfl, rfl, e2⟩, trivial⟩, trivial⟩⟩, ⟨⟨rfl, .inr ⟨⟨⟨rfl, trivial, ⟨rfl, rfl, rfl⟩, trivial⟩, trivial⟩, trivial⟩⟩, ⟨rfl, .inl ⟨rfl, fun row h => by rw [List.mem_singleton.1 h]; rfl⟩⟩, ⟨rfl, .inr ⟨⟨rfl, trivial⟩, trivial⟩⟩, .inl ⟨rfl, esR_pure _⟩, ⟨rfl, .inl ⟨rfl, fun row h => by rw [List.mem_singleton.1 h]; rfl⟩⟩, trivial⟩⟩ trivial, rfl, rfl⟩
def stepB (props : List (List UInt8)) (Q : List Pair) (x : Nat × List Pair) (p : Pair) : Nat × List Pair := if keepB props p = true then (x.1 + 1, if idxR p.1 Q = x.1 + 1 then x.2 ++ [p] else x.2) else x
def outR (props : List (List UInt8)) (Q : List Pair) (l : List (List UInt8)) : Nat × List Pair := (l.filterMap partB).foldl (stepB props Q) (0, [])
theorem outR_none (props : List (List UInt8)) (Q : List Pair) (l : List (List UInt8)) (k : Nat) (h : k < l.length) (hc : cutAt 58 l[k] = none) : outR props Q (l.take (k + 1)) = outR props Q (l.take k) := by
 unfold outR
 rw [List.take_succ_eq_append_getElem h, List.filterMap_append, show [l[k]].filterMap partB = [] from by simp [partB, hc], List.append_nil]
theorem outR_some (props : List (List UInt8)) (Q : List Pair) (l : List (List UInt8)) (k : Nat) (h : k < l.length) {x y : List UInt8} (hc : cutAt 58 l[k] = some (x, y)) : outR props Q (l.take (k + 1)) = stepB props Q (outR props Q (l.take k)) (bareB x, bareB y) := by
 unfold outR
 rw [List.take_succ_eq_append_getElem h, List.filterMap_append, show [l[k]].filterMap partB = [(bareB x, bareB y)] from by simp [partB, hc], List.foldl_append]; rfl
theorem stepB_le (props : List (List UInt8)) (Q : List Pair) (x : Nat × List Pair) (p : Pair) : (stepB props Q x p).1 ≤ x.1 + 1 ∧ (stepB props Q x p).2.length ≤ x.2.length + 1 := by
 unfold stepB; split
 ·refine ⟨Nat.le_refl _, ?_⟩
  dsimp only
  split <;> simp
 ·exact ⟨Nat.le_succ _, Nat.le_succ _⟩
theorem steps_le (props : List (List UInt8)) (Q : List Pair) : ∀ (l : List Pair) (x : Nat × List Pair), (l.foldl (stepB props Q) x).1 ≤ x.1 + l.length ∧ (l.foldl (stepB props Q) x).2.length ≤ x.2.length + l.length
 | [], x => by simp
 | p :: r, x => by
  have h1 := steps_le props Q r (stepB props Q x p)
  have h2 := stepB_le props Q x p
  simp only [List.foldl_cons, List.length_cons]; omega
theorem outR_le (props : List (List UInt8)) (Q : List Pair) (l : List (List UInt8)) : (outR props Q l).1 ≤ l.length ∧ (outR props Q l).2.length ≤ l.length := by
 have h1 := steps_le props Q (l.filterMap partB) (0, [])
 have h2 := List.length_filterMap_le partB l
 unfold outR
 simp only [List.length_nil] at h1; omega
set_option maxRecDepth 100000 in
set_option maxHeartbeats 1000000 in
theorem each3_ok (props : List (List UInt8)) (Q : List Pair) (s : List UInt8) (hp : props.length ≤ 1000000) (hs : s.length ≤ 100000000) :
  CallsAbs Tryz.prog 47 [.d (.str s), .fn (.func 49) [] [.ref 4 0 0, .ref 3 0 0, .ref 2 0 0, .ref 5 0 0]] (st3 props Q 0 [] 6 7) fun r σ' => r = .tup [] ∧ σ' = st3 props Q (outR props Q (splitB 59 s)).1 (outR props Q (splitB 59 s)).2 7 8 := by
 have hc1 := Split_ok 59 s (by omega)
 have hn := strsD_len (splitB 59 s)
 have hb := splitB_bound 59 s
 have hcnt := splitB_len 59 s
 have hcl := List.count_le_length (a := 59) (l := s)
 generalize splitB 59 s = ps at *
 refine fn_okT Tryz.wf Tryz.tab_ok Tryz.func47 (by decide +kernel) rfl rfl ?_
 refine wR (k := ?_)
 refine E.fm (s' := [(1, .fn (.func 49) [] [.ref 4 0 0, .ref 3 0 0, .ref 2 0 0, .ref 5 0 0]), (10, .d (.sl (strsD ps))), (11, .d (.int .i64 ps.length)), (12, .d (.int .i64 0))]) (σ' := st3 props Q 0 [] 7 8)
  (fin_ups [6] rfl (by decide) ⟨rfl, trivial⟩ ⟨fun h => (by cases h), trivial⟩ ⟨⟨rfl, .inl ⟨rfl, outA_pure _⟩⟩, ⟨rfl, .inr ⟨⟨⟨rfl, rfl, rfl⟩, trivial⟩, trivial⟩⟩, ⟨⟨rfl, .inr ⟨⟨⟨rfl, trivial, ⟨rfl, rfl, rfl⟩, trivial⟩, trivial⟩, trivial⟩⟩, ⟨rfl, .inl ⟨rfl, fun row h => by rw [List.mem_singleton.1 h]; rfl⟩⟩, ⟨rfl, .inr ⟨⟨rfl, trivial⟩, trivial⟩⟩, .inl ⟨rfl, esR_pure _⟩, ⟨rfl, .inl ⟨rfl, fun row h => by rw [List.mem_singleton.1 h]; rfl⟩⟩, trivial⟩⟩ ⟨⟨rfl, trivial, ⟨rfl, rfl, rfl⟩, ⟨rfl, rfl, rfl⟩, ⟨rfl, rfl, rfl⟩, ⟨rfl, rfl, rfl⟩, trivial⟩, rfl, congrArg (fun n : Nat => D.int .i64 n) hn.symm, rfl, trivial⟩) ?_
 refine loopT Tryz.wf Tryz.tab_ok (fun n s' σ => ∃ k : Nat, n = ps.length - k ∧ k ≤ ps.length ∧ s' = [(1, .fn (.func 49) [] [.ref 4 0 0, .ref 3 0 0, .ref 2 0 0, .ref 5 0 0]), (10, .d (.sl (strsD ps))), (11, .d (.int .i64 ps.length)), (12, .d (.int .i64 k))] ∧ σ = st3 props Q (outR props Q (ps.take k)).1 (outR props Q (ps.take k)).2 7 8)
  ⟨0, rfl, Nat.zero_le _, rfl, rfl⟩ (Mv.of [.old 7] rfl rfl rfl ⟨⟨rfl, .inl ⟨rfl, outA_pure _⟩⟩, ⟨rfl, .inr ⟨⟨⟨rfl, rfl, rfl⟩, trivial⟩, trivial⟩⟩, ⟨⟨rfl, .inr ⟨⟨⟨rfl, trivial, ⟨rfl, rfl, rfl⟩, trivial⟩, trivial⟩, trivial⟩⟩, ⟨rfl, .inl ⟨rfl, fun row h => by rw [List.mem_singleton.1 h]; rfl⟩⟩, ⟨rfl, .inr ⟨⟨rfl, trivial⟩, trivial⟩⟩, .inl ⟨rfl, esR_pure _⟩, ⟨rfl, .inl ⟨rfl, fun row h => by rw [List.mem_singleton.1 h]; rfl⟩⟩, trivial⟩⟩ ⟨⟨rfl, trivial, ⟨rfl, rfl, rfl⟩, ⟨rfl, rfl, rfl⟩, ⟨rfl, rfl, rfl⟩, ⟨rfl, rfl, rfl⟩, trivial⟩, rfl, rfl, rfl, trivial⟩) ?_
 rintro _ _ _ ⟨k, rfl, hk, rfl, rfl⟩
 by_cases hlt : k < ps.length
 ·have hg := strsD_get ps k hlt
  have hpb := hb ps[k] (List.getElem_mem hlt)
  have hc2 := CutC_ok 58 ps[k] (by omega)
  have hql := outR_le props Q (ps.take k)
  rw [List.length_take] at hql
  unfold cutW at hc2
  cases hcut : cutAt 58 ps[k] with
  | none =>
   rw [hcut] at hc2
   have hnx := outR_none props Q ps k hlt hcut
   refine wR (k := ?_)
   exact ⟨_, _, _, ⟨k + 1, rfl, hlt, rfl, rfl⟩, by omega, Mv.of [.old 7] rfl rfl rfl (by rw [hnx]; exact ⟨⟨rfl, .inl ⟨rfl, outA_pure _⟩⟩, ⟨rfl, .inr ⟨⟨⟨rfl, rfl, rfl⟩, trivial⟩, trivial⟩⟩, ⟨⟨rfl, .inr ⟨⟨⟨rfl, trivial, ⟨rfl, rfl, rfl⟩, trivial⟩, trivial⟩, trivial⟩⟩, ⟨rfl, .inl ⟨rfl, fun row h => by rw [List.mem_singleton.1 h]; rfl⟩⟩, ⟨rfl, .inr ⟨⟨rfl, trivial⟩, trivial⟩⟩, .inl ⟨rfl, esR_pure _⟩, ⟨rfl, .inl ⟨rfl, fun row h => by rw [List.mem_singleton.1 h]; rfl⟩⟩, trivial⟩⟩) ⟨⟨rfl, trivial, ⟨rfl, rfl, rfl⟩, ⟨rfl, rfl, rfl⟩, ⟨rfl, rfl, rfl⟩, ⟨rfl, rfl, rfl⟩, trivial⟩, rfl, rfl, rfl, trivial⟩⟩
  | some xy =>
   obtain ⟨x, y⟩ := xy
   rw [hcut] at hc2
   have hxy := congrArg List.length (cutAt_len hcut)
   rw [List.length_append, List.length_cons] at hxy
   have hbx := bareB_len x
   have hby := bareB_len y
   have hnx := outR_some props Q ps k hlt hcut
   have hc3 := bare_ok x (by omega)
   have hc4 := bare_ok y (by omega)
   generalize bareB x = a at *
   generalize bareB y = b at *
   generalize outR props Q (ps.take k) = mo at *
   obtain ⟨m, out⟩ := mo
   dsimp only at hql hnx ⊢
   refine wR (k := ?_)
   unfold stepB at hnx
   cases hk : keepB props (a, b) with
   | false =>
    rw [if_neg (by rw [hk]; exact Bool.false_ne_true)] at hnx
    refine CallsAbs.frame (third_skip props Q m out a b hp (by omega) hk) [.old 0, .old 1, .old 2, .old 3, .old 4, .old 5, .old 7] ⟨Nat.zero_le _, rfl, rfl, ⟨⟨rfl, .inl ⟨rfl, outA_pure _⟩⟩, ⟨rfl, .inr ⟨⟨⟨rfl, rfl, rfl⟩, trivial⟩, trivial⟩⟩, ⟨⟨rfl, .inr ⟨⟨⟨rfl, trivial, ⟨rfl, rfl, rfl⟩, trivial⟩, trivial⟩, trivial⟩⟩, ⟨rfl, .inl ⟨rfl, fun row h => by rw [List.mem_singleton.1 h]; rfl⟩⟩, ⟨rfl, .inr ⟨⟨rfl, trivial⟩, trivial⟩⟩, .inl ⟨rfl, esR_pure _⟩, ⟨rfl, .inl ⟨rfl, fun row h => by rw [List.mem_singleton.1 h]; rfl⟩⟩, trivial⟩⟩⟩ ⟨rfl, rfl, ⟨rfl, rfl, rfl⟩, ⟨rfl, rfl, rfl⟩, ⟨rfl, rfl, rfl⟩, ⟨rfl, rfl, rfl⟩, trivial⟩ ?_
    rintro _ _ ⟨rfl, rfl⟩
    refine ⟨.tup [], (st3 props Q m out 7 8).objs, ⟨⟨rfl, .inl ⟨rfl, outA_pure _⟩⟩, ⟨rfl, .inr ⟨⟨⟨rfl, rfl, rfl⟩, trivial⟩, trivial⟩⟩, ⟨⟨rfl, .inr ⟨⟨⟨rfl, trivial, ⟨rfl, rfl, rfl⟩, trivial⟩, trivial⟩, trivial⟩⟩, ⟨rfl, .inl ⟨rfl, fun row h => by rw [List.mem_singleton.1 h]; rfl⟩⟩, ⟨rfl, .inr ⟨⟨rfl, trivial⟩, trivial⟩⟩, .inl ⟨rfl, esR_pure _⟩, ⟨rfl, .inl ⟨rfl, fun row h => by rw [List.mem_singleton.1 h]; rfl⟩⟩, trivial⟩⟩, rfl, trivial, ?_⟩
    refine wR (k := ?_)
    exact ⟨_, _, _, ⟨k + 1, rfl, hlt, rfl, rfl⟩, by omega, Mv.of [.old 7] rfl rfl rfl (by rw [hnx]; exact ⟨⟨rfl, .inl ⟨rfl, outA_pure _⟩⟩, ⟨rfl, .inr ⟨⟨⟨rfl, rfl, rfl⟩, trivial⟩, trivial⟩⟩, ⟨⟨rfl, .inr ⟨⟨⟨rfl, trivial, ⟨rfl, rfl, rfl⟩, trivial⟩, trivial⟩, trivial⟩⟩, ⟨rfl, .inl ⟨rfl, fun row h => by rw [List.mem_singleton.1 h]; rfl⟩⟩, ⟨rfl, .inr ⟨⟨rfl, trivial⟩, trivial⟩⟩, .inl ⟨rfl, esR_pure _⟩, ⟨rfl, .inl ⟨rfl, fun row h => by rw [List.mem_singleton.1 h]; rfl⟩⟩, trivial⟩⟩) ⟨⟨rfl, trivial, ⟨rfl, rfl, rfl⟩, ⟨rfl, rfl, rfl⟩, ⟨rfl, rfl, rfl⟩, ⟨rfl, rfl, rfl⟩, trivial⟩, rfl, rfl, rfl, trivial⟩⟩
   | true =>
    rw [if_pos hk] at hnx
    dsimp only at hnx
    by_cases hi : idxR a Q = m + 1
    ·rw [if_pos hi] at hnx
     refine CallsAbs.frame (third_add props Q m out a b hp (by omega) (by omega) (by omega) (by omega) hk hi) [.old 0, .old 1, .old 2, .old 3, .old 4, .old 5, .old 7] ⟨Nat.zero_le _, rfl, rfl, ⟨⟨rfl, .inl ⟨rfl, outA_pure _⟩⟩, ⟨rfl, .inr ⟨⟨⟨rfl, rfl, rfl⟩, trivial⟩, trivial⟩⟩, ⟨⟨rfl, .inr ⟨⟨⟨rfl, trivial, ⟨rfl, rfl, rfl⟩, trivial⟩, trivial⟩, trivial⟩⟩, ⟨rfl, .inl ⟨rfl, fun row h => by rw [List.mem_singleton.1 h]; rfl⟩⟩, ⟨rfl, .inr ⟨⟨rfl, trivial⟩, trivial⟩⟩, .inl ⟨rfl, esR_pure _⟩, ⟨rfl, .inl ⟨rfl, fun row h => by rw [List.mem_singleton.1 h]; rfl⟩⟩, trivial⟩⟩⟩ ⟨rfl, rfl, ⟨rfl, rfl, rfl⟩, ⟨rfl, rfl, rfl⟩, ⟨rfl, rfl, rfl⟩, ⟨rfl, rfl, rfl⟩, trivial⟩ ?_
     rintro _ _ ⟨rfl, rfl⟩
     refine ⟨.tup [], (7, .dead) :: (st3 props Q (m + 1) (out ++ [(a, b)]) 8 9).objs, ⟨trivial, ⟨rfl, .inl ⟨rfl, outA_pure _⟩⟩, ⟨rfl, .inr ⟨⟨⟨rfl, rfl, rfl⟩, trivial⟩, trivial⟩⟩, ⟨⟨rfl, .inr ⟨⟨⟨rfl, trivial, ⟨rfl, rfl, rfl⟩, trivial⟩, trivial⟩, trivial⟩⟩, ⟨rfl, .inl ⟨rfl, fun row h => by rw [List.mem_singleton.1 h]; rfl⟩⟩, ⟨rfl, .inr ⟨⟨rfl, trivial⟩, trivial⟩⟩, .inl ⟨rfl, esR_pure _⟩, ⟨rfl, .inl ⟨rfl, fun row h => by rw [List.mem_singleton.1 h]; rfl⟩⟩, trivial⟩⟩, rfl, trivial, ?_⟩
     refine wR (k := ?_)
     exact ⟨_, _, _, ⟨k + 1, rfl, hlt, rfl, rfl⟩, by omega, Mv.of [.old 8] rfl rfl rfl (by rw [hnx]; exact ⟨⟨rfl, .inl ⟨rfl, outA_pure _⟩⟩, ⟨rfl, .inr ⟨⟨⟨rfl, rfl, rfl⟩, trivial⟩, trivial⟩⟩, ⟨⟨rfl, .inr ⟨⟨⟨rfl, trivial, ⟨rfl, rfl, rfl⟩, trivial⟩, trivial⟩, trivial⟩⟩, ⟨rfl, .inl ⟨rfl, fun row h => by rw [List.mem_singleton.1 h]; rfl⟩⟩, ⟨rfl, .inr ⟨⟨rfl, trivial⟩, trivial⟩⟩, .inl ⟨rfl, esR_pure _⟩, ⟨rfl, .inl ⟨rfl, fun row h => by rw [List.mem_singleton.1 h]; rfl⟩⟩, trivial⟩⟩) ⟨⟨rfl, trivial, ⟨rfl, rfl, rfl⟩, ⟨rfl, rfl, rfl⟩, ⟨rfl, rfl, rfl⟩, ⟨rfl, rfl, rfl⟩, trivial⟩, rfl, rfl, rfl, trivial⟩⟩
    ·rw [if_neg hi] at hnx
     refine CallsAbs.frame (third_no props Q m out a b hp (by omega) (by omega) hk hi) [.old 0, .old 1, .old 2, .old 3, .old 4, .old 5, .old 7] ⟨Nat.zero_le _, rfl, rfl, ⟨⟨rfl, .inl ⟨rfl, outA_pure _⟩⟩, ⟨rfl, .inr ⟨⟨⟨rfl, rfl, rfl⟩, trivial⟩, trivial⟩⟩, ⟨⟨rfl, .inr ⟨⟨⟨rfl, trivial, ⟨rfl, rfl, rfl⟩, trivial⟩, trivial⟩, trivial⟩⟩, ⟨rfl, .inl ⟨rfl, fun row h => by rw [List.mem_singleton.1 h]; rfl⟩⟩, ⟨rfl, .inr ⟨⟨rfl, trivial⟩, trivial⟩⟩, .inl ⟨rfl, esR_pure _⟩, ⟨rfl, .inl ⟨rfl, fun row h => by rw [List.mem_singleton.1 h]; rfl⟩⟩, trivial⟩⟩⟩ ⟨rfl, rfl, ⟨rfl, rfl, rfl⟩, ⟨rfl, rfl, rfl⟩, ⟨rfl, rfl, rfl⟩, ⟨rfl, rfl, rfl⟩, trivial⟩ ?_
     rintro _ _ ⟨rfl, rfl⟩
     refine ⟨.tup [], (st3 props Q (m + 1) out 7 8).objs, ⟨⟨rfl, .inl ⟨rfl, outA_pure _⟩⟩, ⟨rfl, .inr ⟨⟨⟨rfl, rfl, rfl⟩, trivial⟩, trivial⟩⟩, ⟨⟨rfl, .inr ⟨⟨⟨rfl, trivial, ⟨rfl, rfl, rfl⟩, trivial⟩, trivial⟩, trivial⟩⟩, ⟨rfl, .inl ⟨rfl, fun row h => by rw [List.mem_singleton.1 h]; rfl⟩⟩, ⟨rfl, .inr ⟨⟨rfl, trivial⟩, trivial⟩⟩, .inl ⟨rfl, esR_pure _⟩, ⟨rfl, .inl ⟨rfl, fun row h => by rw [List.mem_singleton.1 h]; rfl⟩⟩, trivial⟩⟩, rfl, trivial, ?_⟩
     refine wR (k := ?_)
     exact ⟨_, _, _, ⟨k + 1, rfl, hlt, rfl, rfl⟩, by omega, Mv.of [.old 7] rfl rfl rfl (by rw [hnx]; exact ⟨⟨rfl, .inl ⟨rfl, outA_pure _⟩⟩, ⟨rfl, .inr ⟨⟨⟨rfl, rfl, rfl⟩, trivial⟩, trivial⟩⟩, ⟨⟨rfl, .inr ⟨⟨⟨rfl, trivial, ⟨rfl, rfl, rfl⟩, trivial⟩, trivial⟩, trivial⟩⟩, ⟨rfl, .inl ⟨rfl, fun row h => by rw [List.mem_singleton.1 h]; rfl⟩⟩, ⟨rfl, .inr ⟨⟨rfl, trivial⟩, trivial⟩⟩, .inl ⟨rfl, esR_pure _⟩, ⟨rfl, .inl ⟨rfl, fun row h => by rw [List.mem_singleton.1 h]; rfl⟩⟩, trivial⟩⟩) ⟨⟨rfl, trivial, ⟨rfl, rfl, rfl⟩, ⟨rfl, rfl, rfl⟩, ⟨rfl, rfl, rfl⟩, ⟨rfl, rfl, rfl⟩, trivial⟩, rfl, rfl, rfl, trivial⟩⟩
 ·have hk' : k = ps.length := by omega
  subst hk'
  rw [List.take_length]
  refine wR (k := ?_)
  exact ⟨.tup [], st3 props Q (outR props Q ps).1 (outR props Q ps).2 7 8, FinMove.refl _ _ _, rfl, rfl⟩
theorem steps_mem (props : List (List UInt8)) (Q : List Pair) : ∀ (l : List Pair) (x : Nat × List Pair), ∀ p ∈ (l.foldl (stepB props Q) x).2, p ∈ x.2 ∨ p ∈ l
 | [], x, p, h => .inl h
 | q :: r, x, p, h => by
  rcases steps_mem props Q r (stepB props Q x q) p h with h | h
  ·unfold stepB at h
   split at h
   ·dsimp only at h
    split at h
    ·rcases List.mem_append.1 h with h | h
     ·exact .inl h
     ·exact .inr (by rw [List.mem_singleton.1 h]; simp)
    ·exact .inl h
   ·exact .inl h
  ·exact .inr (by simp [h])
theorem part_len {p : List UInt8} {q : Pair} (h : partB p = some q) : q.1.length + q.2.length ≤ p.length := by
 unfold partB at h
 cases hc : cutAt 58 p with
 | none => rw [hc] at h; cases h
 | some xy =>
  rw [hc] at h
  cases h
  have h1 := congrArg List.length (cutAt_len hc)
  rw [List.length_append, List.length_cons] at h1
  have h2 := bareB_len xy.1
  have h3 := bareB_len xy.2
  dsimp only; omega
theorem out_len (props : List (List UInt8)) (Q : List Pair) (s : List UInt8) : ∀ p ∈ (outR props Q (splitB 59 s)).2, (txtB p).length ≤ s.length + 2 := fun p h => by
 rcases steps_mem props Q _ _ p h with h | h
 ·cases h
 ·obtain ⟨x, hx, hp⟩ := List.mem_filterMap.1 h
  have h1 := splitB_bound 59 s x hx
  have h2 := part_len hp
  unfold txtB
  simp only [List.length_append, List.length_cons, List.length_nil]; omega
theorem lensB_max {M : Nat} : ∀ {l : List (List UInt8)}, (∀ x ∈ l, x.length ≤ M) → lensB l ≤ l.length * M
 | [], _ => by simp [lensB]
 | a :: r, h => by
  have h1 := lensB_max (l := r) (fun x hx => h x (by simp [hx]))
  have h2 := h a (by simp)
  have e : lensB (a :: r) = a.length + lensB r := by simp [lensB]
  rw [e, List.length_cons, Nat.add_mul, Nat.one_mul]; omega
/-- The filter. -/
def filterB (props : List (List UInt8)) (s : List UInt8) : List UInt8 := joinB [59, 32] ((outR props (keptR props (splitB 59 s)) (splitB 59 s)).2.map txtB)
set_option maxRecDepth 100000 in
set_option maxHeartbeats 1000000 in
theorem Filter_ok (props : List (List UInt8)) (s : List UInt8) (hp : props.length ≤ 1000000) (hs : s.length ≤ 400000) : PureC Tryz.prog 26 [.d (.str s), .d (.sl (strsD props))] (.d (.str (filterB props s))) := by
 have hd1 := each2_ok props s hp (by omega)
 have hd2 := each3_ok props (keptR props (splitB 59 s)) s hp (by omega)
 have hlen := out_len props (keptR props (splitB 59 s)) s
 have hcnt := (outR_le props (keptR props (splitB 59 s)) (splitB 59 s)).2
 have hps := splitB_len 59 s
 have hcl := List.count_le_length (a := 59) (l := s)
 unfold filterB
 generalize keptR props (splitB 59 s) = Q at *
 generalize outR props Q (splitB 59 s) = mo at *
 obtain ⟨m, out⟩ := mo
 dsimp only at *
 have hmx : lensB (out.map txtB) ≤ (out.map txtB).length * (s.length + 2) := lensB_max (fun x hx => by
  obtain ⟨p, h1, rfl⟩ := List.mem_map.1 hx
  exact hlen p h1)
 rw [List.length_map] at hmx
 have hml : out.length * (s.length + 2) ≤ 500000 * 500000 := Nat.mul_le_mul (by omega) (by omega)
 have hj := Join_ok [59, 32] (out.map txtB) (by decide) (by decide) (by rw [List.length_map]; omega) (by omega) (fun h => by
  cases out with
  | nil => simp at h
  | cons p r =>
   have : lensB ((p :: r).map txtB) = (txtB p).length + lensB (r.map txtB) := by simp [lensB]
   rw [this]
   have : 2 ≤ (txtB p).length := by simp only [txtB, List.length_append, List.length_cons, List.length_nil]; omega
   omega)
 clear hmx hml hlen
 refine pure_okT Tryz.wf Tryz.tab_ok Tryz.func26 (by decide +kernel) rfl rfl rfl rfl ?_
 repeat' (first |            refine CallsAbs.use1 hd1 ?_ | refine CallsAbs.use1 hd2 ?_ |           refine ⟨fun _ => ?_, fun h => absurd h (by decide)⟩ | refine ⟨fun h => absurd h (by decide), fun _ => ?_⟩ | (refine ⟨fun h => ?_, fun h => ?_⟩ <;> (try simp only [wS, List.length_cons, List.length_nil] at h) <;> (try exact wX h)) | refine ⟨⟨oB, oB⟩, _, by assumption, by rfl, ?_⟩ | refine .inl ⟨⟨oB, oB⟩, ?_⟩ | refine ⟨⟨oB, oB⟩, ?_⟩ | refine ⟨⟨oB, oB, oB⟩, ?_⟩ | refine ⟨.inl rfl, ?_⟩ | refine ⟨.inr (.inl oB), ?_⟩ | refine ⟨_, rfl, rfl, oL, ?_⟩ | refine ⟨_, rfl, oL, ?_⟩ | refine ⟨oL, ?_⟩ | refine ⟨show _ ≤ (9223372036854775807 : Nat) from oB, ?_⟩ | refine ⟨show _ ≠ (0 : Int) from oB, ?_⟩ | refine ⟨_, rfl, _, rfl, ?_⟩ | refine ⟨_, by assumption, Nat.le_of_ble_eq_true rfl, ?_⟩ | refine ⟨_, by assumption, _, rfl, ?_⟩ | refine ⟨_, rfl, ?_⟩ | fail)
 refine CallsAbs.fm (σ' := st2 props []) (fin_same rfl fun i => ?_) ?_
 ·rcases (show i = 0 ∨ i = 1 ∨ i = 2 ∨ i = 3 ∨ i = 4 ∨ 5 ≤ i by omega) with rfl | rfl | rfl | rfl | rfl | h
  ·rfl
  ·rfl
  ·rfl
  ·rfl
  ·rfl
  ·simp only [st2, Store.get, look_cons]
   repeat rw [if_neg (by omega)]
 refine CallsAbs.use1 hd1 ?_
 clear hd1
 repeat' (first |            refine CallsAbs.use1 hd1 ?_ | refine CallsAbs.use1 hd2 ?_ |           refine ⟨fun _ => ?_, fun h => absurd h (by decide)⟩ | refine ⟨fun h => absurd h (by decide), fun _ => ?_⟩ | (refine ⟨fun h => ?_, fun h => ?_⟩ <;> (try simp only [wS, List.length_cons, List.length_nil] at h) <;> (try exact wX h)) | refine ⟨⟨oB, oB⟩, _, by assumption, by rfl, ?_⟩ | refine .inl ⟨⟨oB, oB⟩, ?_⟩ | refine ⟨⟨oB, oB⟩, ?_⟩ | refine ⟨⟨oB, oB, oB⟩, ?_⟩ | refine ⟨.inl rfl, ?_⟩ | refine ⟨.inr (.inl oB), ?_⟩ | refine ⟨_, rfl, rfl, oL, ?_⟩ | refine ⟨_, rfl, oL, ?_⟩ | refine ⟨oL, ?_⟩ | refine ⟨show _ ≤ (9223372036854775807 : Nat) from oB, ?_⟩ | refine ⟨show _ ≠ (0 : Int) from oB, ?_⟩ | refine ⟨_, rfl, _, rfl, ?_⟩ | refine ⟨_, by assumption, Nat.le_of_ble_eq_true rfl, ?_⟩ | refine ⟨_, by assumption, _, rfl, ?_⟩ | refine ⟨_, rfl, ?_⟩ | fail)
 refine CallsAbs.fm (args' := [.d (.str s), .fn (.func 49) [] [.ref 4 0 0, .ref 3 0 0, .ref 2 0 0, .ref 5 0 0]]) (σ' := st3 props Q 0 [] 6 7) (fin_mv [.phan 1] rfl rfl rfl ⟨rfl, ⟨rfl, .inr ⟨⟨⟨rfl, rfl, rfl⟩, trivial⟩, trivial⟩⟩, ⟨⟨rfl, .inr ⟨⟨⟨rfl, trivial, ⟨rfl, rfl, rfl⟩, trivial⟩, trivial⟩, trivial⟩⟩, ⟨rfl, .inl ⟨rfl, fun row h => by rw [List.mem_singleton.1 h]; rfl⟩⟩, ⟨rfl, .inr ⟨⟨rfl, trivial⟩, trivial⟩⟩, .inl ⟨rfl, esR_pure _⟩, ⟨rfl, .inl ⟨rfl, fun row h => by rw [List.mem_singleton.1 h]; rfl⟩⟩, trivial⟩⟩ ⟨rfl, ⟨rfl, trivial, ⟨rfl, rfl, rfl⟩, ⟨rfl, rfl, rfl⟩, ⟨rfl, rfl, rfl⟩, ⟨rfl, rfl, rfl⟩, trivial⟩, trivial⟩) ?_
 refine CallsAbs.use1 hd2 ?_
 clear hd2
 have hl := outA_len out
 repeat' (first |            refine CallsAbs.use1 hd1 ?_ | refine CallsAbs.use1 hd2 ?_ |           refine ⟨fun _ => ?_, fun h => absurd h (by decide)⟩ | refine ⟨fun h => absurd h (by decide), fun _ => ?_⟩ | (refine ⟨fun h => ?_, fun h => ?_⟩ <;> (try simp only [wS, List.length_cons, List.length_nil] at h) <;> (try exact wX h)) | refine ⟨⟨oB, oB⟩, _, by assumption, by rfl, ?_⟩ | refine .inl ⟨⟨oB, oB⟩, ?_⟩ | refine ⟨⟨oB, oB⟩, ?_⟩ | refine ⟨⟨oB, oB, oB⟩, ?_⟩ | refine ⟨.inl rfl, ?_⟩ | refine ⟨.inr (.inl oB), ?_⟩ | refine ⟨_, rfl, rfl, oL, ?_⟩ | refine ⟨_, rfl, oL, ?_⟩ | refine ⟨oL, ?_⟩ | refine ⟨show _ ≤ (9223372036854775807 : Nat) from oB, ?_⟩ | refine ⟨show _ ≠ (0 : Int) from oB, ?_⟩ | refine ⟨_, rfl, _, rfl, ?_⟩ | refine ⟨_, by assumption, Nat.le_of_ble_eq_true rfl, ?_⟩ | refine ⟨_, by assumption, _, rfl, ?_⟩ | refine ⟨_, rfl, ?_⟩ | fail)
 refine CallsAbs.use1 (PureC.borrow 1 hj rfl ?_) ?_
 ·have e := see_own (σ := st3 props Q m out 7 8) (n := 0) (i := 7) (len := out.length) (sz := (1, 9)) (ds := strsD (out.map txtB)) rfl (by rw [strsD_len, List.length_map])
  show optL (seeV (st3 props Q m out 7 8) 1) [.own 7 0 out.length, .d (.str [59, 32])] = _
  simp only [optL, seeV, e, seeD_d, Option.map_some]
 repeat' (first |            refine CallsAbs.use1 hd1 ?_ | refine CallsAbs.use1 hd2 ?_ |           refine ⟨fun _ => ?_, fun h => absurd h (by decide)⟩ | refine ⟨fun h => absurd h (by decide), fun _ => ?_⟩ | (refine ⟨fun h => ?_, fun h => ?_⟩ <;> (try simp only [wS, List.length_cons, List.length_nil] at h) <;> (try exact wX h)) | refine ⟨⟨oB, oB⟩, _, by assumption, by rfl, ?_⟩ | refine .inl ⟨⟨oB, oB⟩, ?_⟩ | refine ⟨⟨oB, oB⟩, ?_⟩ | refine ⟨⟨oB, oB, oB⟩, ?_⟩ | refine ⟨.inl rfl, ?_⟩ | refine ⟨.inr (.inl oB), ?_⟩ | refine ⟨_, rfl, rfl, oL, ?_⟩ | refine ⟨_, rfl, oL, ?_⟩ | refine ⟨oL, ?_⟩ | refine ⟨show _ ≤ (9223372036854775807 : Nat) from oB, ?_⟩ | refine ⟨show _ ≠ (0 : Int) from oB, ?_⟩ | refine ⟨_, rfl, _, rfl, ?_⟩ | refine ⟨_, by assumption, Nat.le_of_ble_eq_true rfl, ?_⟩ | refine ⟨_, by assumption, _, rfl, ?_⟩ | refine ⟨_, rfl, ?_⟩ | fail)
 exact ⟨_, _, fin_out rfl, rfl⟩
def strsA (l : List (List UInt8)) : List (List AV) := (strsD l).map fun r => r.map AV.d
theorem strsA_len (l : List (List UInt8)) : (strsA l).length = l.length := by simp [strsA, strsD_len]
theorem strsA_rows (l : List (List UInt8)) : ∀ row ∈ strsA l, row.length = 1 ∧ ∀ a ∈ row, a.one = true := fun row h => by
 unfold strsA strsD at h
 simp only [List.map_map, List.mem_map] at h
 obtain ⟨p, _, rfl⟩ := h
 exact ⟨rfl, fun a ha => by simp at ha; rw [ha]; rfl⟩
theorem strsA_snoc (l : List (List UInt8)) (p : List UInt8) : strsA (l ++ [p]) = strsA l ++ [[.d (.str p)]] := by simp [strsA, strsD]
theorem strsA_pure (l : List (List UInt8)) : ∀ row ∈ strsA l, pureL row = true := dataA_pure _
/-- Where the parts stand when all before i has been seen. -/
def PartI (c : UInt8) (s : List UInt8) (i : Nat) (P : List (List UInt8)) (fr : Nat) : Prop :=
 (i ≤ s.length ∧ fr ≤ i ∧ splitB c s = P ++ splitB c (s.drop fr) ∧ c ∉ (s.drop fr).take (i - fr)) ∨ (i = s.length + 1 ∧ fr = s.length + 1 ∧ P = splitB c s)
theorem PartI.start (c : UInt8) (s : List UInt8) : PartI c s 0 [] 0 := .inl ⟨Nat.zero_le _, Nat.le_refl _, rfl, by simp⟩
theorem PartI.miss {c : UInt8} {s : List UInt8} {i : Nat} {P : List (List UInt8)} {fr : Nat} (h : PartI c s i P fr) (hi : i < s.length) (hc : s[i] ≠ c) : PartI c s (i + 1) P fr := by
 rcases h with ⟨_, h1, h2, h3⟩ | ⟨h, _⟩
 ·refine .inl ⟨hi, by omega, h2, ?_⟩
  rw [show i + 1 - fr = (i - fr) + 1 from by omega, List.take_succ_eq_append_getElem (by rw [List.length_drop]; omega)]
  simp only [List.mem_append, List.mem_singleton, not_or]
  refine ⟨h3, fun e => hc ?_⟩
  rw [e, List.getElem_drop]
  congr 1; omega
 ·omega
theorem PartI.hit {c : UInt8} {s : List UInt8} {i : Nat} {P : List (List UInt8)} {fr : Nat} (h : PartI c s i P fr) (hi : i < s.length) (hc : s[i] = c) : PartI c s (i + 1) (P ++ [(s.take i).drop fr]) (i + 1) := by
 rcases h with ⟨_, h1, h2, h3⟩ | ⟨h, _⟩
 ·refine .inl ⟨hi, Nat.le_refl _, ?_, by simp⟩
  have e : s.drop fr = (s.drop fr).take (i - fr) ++ c :: s.drop (i + 1) := by
   rw [← hc]
   have h4 : (s.drop fr).drop (i - fr) = s[i] :: s.drop (i + 1) := by
    rw [List.drop_drop, show fr + (i - fr) = i from by omega, List.drop_eq_getElem_cons hi]
   rw [← h4, List.take_append_drop]
  rw [h2, e, splitB_app h3, List.drop_take, List.append_assoc]; rfl
 ·omega
theorem PartI.fin {c : UInt8} {s : List UInt8} {P : List (List UInt8)} {fr : Nat} (h : PartI c s s.length P fr) : PartI c s (s.length + 1) (P ++ [(s.take s.length).drop fr]) (s.length + 1) := by
 rcases h with ⟨_, h1, h2, h3⟩ | ⟨h, _⟩
 ·refine .inr ⟨rfl, rfl, ?_⟩
  rw [List.take_of_length_le (by rw [List.length_drop]; omega)] at h3
  rw [h2, splitB_none h3, List.take_length]
 ·omega
theorem PartI.len {c : UInt8} {s : List UInt8} {i : Nat} {P : List (List UInt8)} {fr : Nat} (h : PartI c s i P fr) : P.length ≤ s.length + 1 ∧ fr ≤ i := by
 have h1 := splitB_len c s
 have h2 := List.count_le_length (a := c) (l := s)
 rcases h with ⟨_, h3, h, _⟩ | ⟨h0, h3, h⟩
 ·rw [h, List.length_append] at h1; omega
 ·rw [← h] at h1; omega
set_option maxRecDepth 100000 in
set_option maxHeartbeats 1000000 in
theorem parts_ok (c : UInt8) (s : List UInt8) (hs : s.length ≤ 1000000000) : PureC Tryz.prog 60 [.d (.str s), .d (.int .u8 c.toNat)] (.d (.sl (strsD (splitB c s)))) := by
 refine pure_okT Tryz.wf Tryz.tab_ok Tryz.func60 (by decide +kernel) rfl rfl rfl rfl ?_
 refine wR (k := ?_)
 refine loopT Tryz.wf Tryz.tab_ok (fun n s' σ => ∃ (i : Nat) (P : List (List UInt8)) (fr : Nat), n = s.length + 1 - i ∧ i ≤ s.length + 1 ∧ PartI c s i P fr ∧ s' = [(0, .d (.str s)), (1, .d (.int .u8 c.toNat)), (5, .own 0 0 P.length), (6, .d (.int .i64 fr)), (7, .d (.int .i64 i))] ∧ σ = ⟨1, [(0, .rows (1, 9) (strsA P))]⟩)
  ⟨0, [], 0, rfl, Nat.zero_le _, PartI.start c s, rfl, rfl⟩ (Mv.of [.phan 1] rfl rfl rfl ⟨rfl, trivial⟩ ⟨rfl, rfl, ⟨rfl, rfl, rfl⟩, rfl, rfl, trivial⟩) ?_
 rintro _ _ _ ⟨i, P, fr, rfl, hi, hI, rfl, rfl⟩
 have hl := strsA_len P
 have hPl := hI.len
 by_cases hle : i ≤ s.length
 ·by_cases hlt : i < s.length
  ·have hg := getD_at s i hlt
   by_cases hc : s[i] = c
   ·have hn := hI.hit hlt hc
    have hst := strsA_snoc P ((s.take i).drop fr)
    have hgc : ((s.getD ((i : Nat) : Int).toNat 0).toNat : Int) = c.toNat := by rw [hg, hc]
    refine wR (k := ?_)
    refine ⟨strsA P, [_], congrArg some (takeAll hl), rfl, (show srcLen (.own 0 0 P.length) _ from hl), rfl, (by rw [hl]; show (P.length + 1) * 16 ≤ 140737488355328; omega), Nat.le_of_ble_eq_true rfl, Nat.le_of_ble_eq_true rfl, rfl, rfl, strsA_rows P, rowsOne rfl rfl, ?_⟩
    refine wR (k := ?_)
    exact ⟨_, _, _, ⟨i + 1, P ++ [(s.take i).drop fr], i + 1, rfl, by omega, hn, rfl, rfl⟩, by omega, Mv.of [.old 2] rfl rfl rfl ⟨⟨rfl, .inl ⟨hst, strsA_pure _⟩⟩, trivial⟩ ⟨rfl, rfl, ⟨rfl, rfl, by simp [strsA_len]⟩, rfl, rfl, trivial⟩⟩
   ·have hn := hI.miss hlt hc
    have hgc : ¬ ((s.getD ((i : Nat) : Int).toNat 0).toNat : Int) = c.toNat := fun e => hc (by rw [hg] at e; exact UInt8.toNat_inj.1 (by omega))
    refine wR (k := ?_)
    exact ⟨_, _, _, ⟨i + 1, P, fr, rfl, by omega, hn, rfl, rfl⟩, by omega, Mv.of [.old 0] rfl rfl rfl ⟨⟨rfl, .inl ⟨rfl, strsA_pure _⟩⟩, trivial⟩ ⟨rfl, rfl, ⟨rfl, rfl, rfl⟩, rfl, rfl, trivial⟩⟩
  ·have hii : i = s.length := by omega
   subst hii
   have hn := hI.fin
   have hst := strsA_snoc P ((s.take s.length).drop fr)
   refine wR (k := ?_)
   refine ⟨strsA P, [_], congrArg some (takeAll hl), rfl, (show srcLen (.own 0 0 P.length) _ from hl), rfl, (by rw [hl]; show (P.length + 1) * 16 ≤ 140737488355328; omega), Nat.le_of_ble_eq_true rfl, Nat.le_of_ble_eq_true rfl, rfl, rfl, strsA_rows P, rowsOne rfl rfl, ?_⟩
   refine wR (k := ?_)
   exact ⟨_, _, _, ⟨s.length + 1, P ++ [(s.take s.length).drop fr], s.length + 1, rfl, by omega, hn, rfl, rfl⟩, by omega, Mv.of [.old 2] rfl rfl rfl ⟨⟨rfl, .inl ⟨hst, strsA_pure _⟩⟩, trivial⟩ ⟨rfl, rfl, ⟨rfl, rfl, by simp [strsA_len]⟩, rfl, rfl, trivial⟩⟩
 ·have hii : i = s.length + 1 := by omega
  subst hii
  refine wR (k := ?_)
  rcases hI with ⟨h, _⟩ | ⟨_, _, hP⟩
  ·exact absurd h (by omega)
  ·rw [← hP]
   exact ⟨_, _, fin_ownS rfl (rowsD_d (strsD P)) (by show P.length = _; rw [strsD_len]), rfl⟩
theorem blank_mem (c : UInt8) : c ∈ cutS ↔ c.toNat = 9 ∨ c.toNat = 10 ∨ c.toNat = 12 ∨ c.toNat = 13 ∨ c.toNat = 32 := by
 have e : ∀ n : UInt8, c = n ↔ c.toNat = n.toNat := fun n => UInt8.toNat_inj.symm
 simp only [cutS, List.mem_cons, List.not_mem_nil, or_false, e]
 rfl
set_option maxRecDepth 100000 in
theorem sblank_ok (c : UInt8) : PureC Tryz.prog 75 [.d (.int .u8 c.toNat)] (.d (.bool (decide (c ∈ cutS)))) := by
 have hm := blank_mem c
 by_cases h0 : c ∈ cutS
 ·rw [decide_eq_true h0]
  have h1 := hm.1 h0
  clear h0 hm
  refine pure_okT Tryz.wf Tryz.tab_ok Tryz.func75 (by decide +kernel) rfl rfl rfl rfl ?_
  repeat' (first |                        refine ⟨fun _ => ?_, fun h => absurd h (by decide)⟩ | refine ⟨fun h => absurd h (by decide), fun _ => ?_⟩ | (refine ⟨fun h => ?_, fun h => ?_⟩ <;> (try simp only [wS, List.length_cons, List.length_nil] at h) <;> (try exact wX h)) | refine ⟨⟨oB, oB⟩, _, by assumption, by rfl, ?_⟩ | refine .inl ⟨⟨oB, oB⟩, ?_⟩ | refine ⟨⟨oB, oB⟩, ?_⟩ | refine ⟨⟨oB, oB, oB⟩, ?_⟩ | refine ⟨.inl rfl, ?_⟩ | refine ⟨.inr (.inl oB), ?_⟩ | refine ⟨_, rfl, rfl, oL, ?_⟩ | refine ⟨_, rfl, oL, ?_⟩ | refine ⟨oL, ?_⟩ | refine ⟨show _ ≤ (9223372036854775807 : Nat) from oB, ?_⟩ | refine ⟨show _ ≠ (0 : Int) from oB, ?_⟩ | refine ⟨_, rfl, _, rfl, ?_⟩ | refine ⟨_, by assumption, Nat.le_of_ble_eq_true rfl, ?_⟩ | refine ⟨_, by assumption, _, rfl, ?_⟩ | refine ⟨_, rfl, ?_⟩ | fail)
  all_goals first
   | exact ⟨_, _, fin_out rfl, rfl⟩
   | exact ⟨_, _, fin_out rfl, congrArg (fun b => AV.d (.bool b)) (decide_eq_true (by omega))⟩
 ·rw [decide_eq_false h0]
  have h1 : ¬ (c.toNat = 9 ∨ c.toNat = 10 ∨ c.toNat = 12 ∨ c.toNat = 13 ∨ c.toNat = 32) := fun h => h0 (hm.2 h)
  clear h0 hm
  refine pure_okT Tryz.wf Tryz.tab_ok Tryz.func75 (by decide +kernel) rfl rfl rfl rfl ?_
  repeat' (first |                        refine ⟨fun _ => ?_, fun h => absurd h (by decide)⟩ | refine ⟨fun h => absurd h (by decide), fun _ => ?_⟩ | (refine ⟨fun h => ?_, fun h => ?_⟩ <;> (try simp only [wS, List.length_cons, List.length_nil] at h) <;> (try exact wX h)) | refine ⟨⟨oB, oB⟩, _, by assumption, by rfl, ?_⟩ | refine .inl ⟨⟨oB, oB⟩, ?_⟩ | refine ⟨⟨oB, oB⟩, ?_⟩ | refine ⟨⟨oB, oB, oB⟩, ?_⟩ | refine ⟨.inl rfl, ?_⟩ | refine ⟨.inr (.inl oB), ?_⟩ | refine ⟨_, rfl, rfl, oL, ?_⟩ | refine ⟨_, rfl, oL, ?_⟩ | refine ⟨oL, ?_⟩ | refine ⟨show _ ≤ (9223372036854775807 : Nat) from oB, ?_⟩ | refine ⟨show _ ≠ (0 : Int) from oB, ?_⟩ | refine ⟨_, rfl, _, rfl, ?_⟩ | refine ⟨_, by assumption, Nat.le_of_ble_eq_true rfl, ?_⟩ | refine ⟨_, by assumption, _, rfl, ?_⟩ | refine ⟨_, rfl, ?_⟩ | fail)
  all_goals first
   | exact ⟨_, _, fin_out rfl, rfl⟩
   | exact ⟨_, _, fin_out rfl, congrArg (fun b => AV.d (.bool b)) (decide_eq_false (by omega))⟩
theorem trimRB_cons (cs r : List UInt8) (x : UInt8) : trimRB cs (x :: r) = if trimRB cs r = [] then (if x ∈ cs then [] else [x]) else x :: trimRB cs r := by
 unfold trimRB
 rw [List.reverse_cons, List.dropWhile_append]
 by_cases h : (List.dropWhile (fun c => decide (c ∈ cs)) r.reverse) = []
 ·rw [h]
  simp only [List.isEmpty_nil, if_true, List.reverse_nil]
  by_cases hx : x ∈ cs <;> simp [hx]
 ·have h2 : (List.dropWhile (fun c => decide (c ∈ cs)) r.reverse).isEmpty = false := by
   cases he : List.dropWhile (fun c => decide (c ∈ cs)) r.reverse with
   | nil => exact absurd he h
   | cons _ _ => rfl
  rw [h2, if_neg (by simp), if_neg (by simpa using h), List.reverse_append]; rfl
theorem trim_comm (cs : List UInt8) : ∀ s, trimRB cs (trimLB cs s) = trimLB cs (trimRB cs s)
 | [] => rfl
 | x :: r => by
  have ih := trim_comm cs r
  rw [trimLB_cons, trimRB_cons]
  by_cases hx : x ∈ cs
  ·rw [if_pos hx, if_pos hx, ih]
   by_cases h : trimRB cs r = []
   ·rw [if_pos h, h]
   ·rw [if_neg h, trimLB_cons, if_pos hx]
  ·rw [if_neg hx, if_neg hx, trimRB_cons, if_neg hx]
   by_cases h : trimRB cs r = []
   ·rw [if_pos h, trimLB_cons, if_neg hx]
   ·rw [if_neg h, trimLB_cons, if_neg hx]
set_option maxRecDepth 100000 in
set_option maxHeartbeats 1000000 in
theorem rbare_ok (s : List UInt8) (hs : s.length ≤ 1000000000) : PureC Tryz.prog 61 [.d (.str s)] (.d (.str (bareB s))) := by
 have hlow := rLower_ok (trimLB cutS (trimRB cutS s)) (Nat.le_trans (trimLB_le _ _) (Nat.le_trans (trimRB_le _ _) (Nat.le_trans hs (by decide))))
 have hle := trimLB_le cutS s
 unfold bareB
 rw [← trim_comm] at hlow ⊢
 refine PureC.of rfl rfl (fn_okTE Tryz.wf Tryz.tab_ok Tryz.func61 (by decide +kernel) rfl rfl ?_)
 refine E.seq (E.of Tryz.wf Tryz.tab_ok ?_)
 refine midT Tryz.wf Tryz.tab_ok (fun s' σ => s' = [(0, .d (.str (trimLB cutS s)))] ∧ σ = ⟨0, []⟩) ?_ ?_
 ·refine loopT Tryz.wf Tryz.tab_ok (fun n s' σ => ∃ r : List UInt8, n = r.length ∧ r.length ≤ s.length ∧ trimLB cutS s = trimLB cutS r ∧ s' = [(0, .d (.str r))] ∧ σ = ⟨0, []⟩)
   ⟨s, rfl, Nat.le_refl _, rfl, rfl, rfl⟩ (Mv.of [] rfl rfl rfl trivial ⟨rfl, trivial⟩) ?_
  rintro _ _ _ ⟨r, rfl, hr, he, rfl, rfl⟩
  cases r with
  | nil =>
   refine wR (k := ?_)
   exact ⟨_, _, ⟨rfl, rfl⟩, Mv.of [] rfl rfl rfl trivial ⟨congrArg D.str he, trivial⟩⟩
  | cons c r =>
   have hc1 := sblank_ok c
   have hl : (c :: r).length = r.length + 1 := by simp
   rw [trimLB_cons] at he
   by_cases hm : c ∈ cutS
   ·rw [decide_eq_true hm] at hc1
    rw [if_pos hm] at he
    refine wR (k := ?_)
    exact ⟨_, _, _, ⟨r, rfl, by omega, he, rfl, rfl⟩, by omega, Mv.of [] rfl rfl rfl trivial ⟨congrArg D.str (by rw [Int.toNat_natCast, List.take_length]; rfl), trivial⟩⟩
   ·rw [decide_eq_false hm] at hc1
    rw [if_neg hm] at he
    refine wR (k := ?_)
    exact ⟨_, _, ⟨rfl, rfl⟩, Mv.of [] rfl rfl rfl trivial ⟨congrArg D.str he, trivial⟩⟩
 ·rintro _ _ ⟨rfl, rfl⟩
  generalize trimLB cutS s = u at *
  refine E.of Tryz.wf Tryz.tab_ok ?_
  refine loopT Tryz.wf Tryz.tab_ok (fun n s' σ => ∃ r : List UInt8, n = r.length ∧ r.length ≤ u.length ∧ trimRB cutS u = trimRB cutS r ∧ s' = [(0, .d (.str r))] ∧ σ = ⟨0, []⟩)
   ⟨u, rfl, Nat.le_refl _, rfl, rfl, rfl⟩ (Mv.of [] rfl rfl rfl trivial ⟨rfl, trivial⟩) ?_
  rintro _ _ _ ⟨r, rfl, hr, he, rfl, rfl⟩
  rcases List.eq_nil_or_concat r with rfl | ⟨r, c, rfl⟩
  ·rw [he] at hlow ⊢
   have hc2 := hlow
   refine wR (k := ?_)
   exact ⟨_, _, fin_out rfl, rfl, rfl⟩
  ·rw [List.concat_eq_append] at *
   have hgd := getD_last r c
   have hc1 : PureC Tryz.prog 75 [.d (.int .u8 ((r ++ [c]).getD (((r ++ [c]).length : Int) - 1).toNat 0).toNat)] (.d (.bool (decide (c ∈ cutS)))) := by
    rw [hgd]; exact sblank_ok c
   have hl : (r ++ [c]).length = r.length + 1 := by simp
   rw [trimRB_snoc] at he
   by_cases hm : c ∈ cutS
   ·rw [decide_eq_true hm] at hc1
    rw [if_pos hm] at he
    refine wR (k := ?_)
    exact ⟨_, _, _, ⟨r, rfl, by omega, he, rfl, rfl⟩, by omega, Mv.of [] rfl rfl rfl trivial ⟨congrArg D.str (take_last r c), trivial⟩⟩
   ·rw [decide_eq_false hm] at hc1
    rw [if_neg hm] at he
    rw [he] at hlow ⊢
    have hc2 := hlow
    refine wR (k := ?_)
    exact ⟨_, _, fin_out rfl, rfl, rfl⟩
/-- Of each name the last. -/
def lastsL : List Pair → List Pair
 | [] => []
 | p :: r => if p.1 ∈ r.map Prod.fst then lastsL r else p :: lastsL r
def keptL (props : List (List UInt8)) (l : List (List UInt8)) : List Pair := (l.filterMap partB).filter (keepB props)
theorem addRs_eq (props : List (List UInt8)) : ∀ (l : List Pair) (q : List Pair), l.foldl (addR props) q = (l.filter (keepB props)).reverse ++ q
 | [], q => rfl
 | p :: r, q => by
  rw [List.foldl_cons, addRs_eq props r]
  unfold addR
  by_cases h : keepB props p = true
  ·rw [if_pos h, List.filter_cons_of_pos h, List.reverse_cons, List.append_assoc]; rfl
  ·rw [if_neg h, List.filter_cons_of_neg h]
theorem keptR_eq (props : List (List UInt8)) (l : List (List UInt8)) : keptR props l = (keptL props l).reverse := by
 unfold keptR keptL
 rw [addRs_eq, List.append_nil]
theorem idxR_app (x : List UInt8) (B : List Pair) : ∀ A : List Pair, (x ∈ A.map Prod.fst → B.length < idxR x (A ++ B)) ∧ (x ∉ A.map Prod.fst → idxR x (A ++ B) = idxR x B)
 | [] => ⟨fun h => by simp at h, fun _ => rfl⟩
 | p :: A => by
  obtain ⟨h1, h2⟩ := idxR_app x B A
  rw [List.cons_append, idxR, List.map_cons]
  by_cases hx : x = p.1
  ·rw [if_pos hx, List.length_append]
   exact ⟨fun _ => by omega, fun h => absurd (by rw [hx]; exact List.mem_cons_self) h⟩
  ·rw [if_neg hx]
   refine ⟨fun h => h1 ?_, fun h => h2 fun h3 => h (List.mem_cons_of_mem _ h3)⟩
   rcases List.mem_cons.1 h with h | h
   ·exact absurd h hx
   ·exact h
theorem steps_lasts (props : List (List UInt8)) (Q : List Pair) : ∀ (l pre : List Pair) (out : List Pair), Q = (pre ++ l.filter (keepB props)).reverse → l.foldl (stepB props Q) (pre.length, out) = ((pre ++ l.filter (keepB props)).length, out ++ lastsL (l.filter (keepB props)))
 | [], pre, out, _ => by simp [lastsL]
 | p :: r, pre, out, hQ => by
  rw [List.foldl_cons]
  unfold stepB
  by_cases h : keepB props p = true
  ·rw [if_pos h]
   rw [List.filter_cons_of_pos h] at hQ ⊢
   have hQ2 : Q = ((pre ++ [p]) ++ r.filter (keepB props)).reverse := by rw [hQ]; simp
   have hq : Q = (r.filter (keepB props)).reverse ++ (p :: pre.reverse) := by rw [hQ]; simp
   have hidx := idxR_app p.1 (p :: pre.reverse) (r.filter (keepB props)).reverse
   rw [← hq] at hidx
   have hme : p.1 ∈ (r.filter (keepB props)).reverse.map Prod.fst ↔ p.1 ∈ (r.filter (keepB props)).map Prod.fst := by simp
   rw [hme] at hidx
   have hself : idxR p.1 (p :: pre.reverse) = pre.length + 1 := by rw [idxR, if_pos rfl, List.length_reverse]
   dsimp only
   have ih := fun o => steps_lasts props Q r (pre ++ [p]) o hQ2
   rw [List.length_append] at ih
   rw [lastsL]
   by_cases hm : p.1 ∈ (r.filter (keepB props)).map Prod.fst
   ·have h1 := hidx.1 hm
    rw [List.length_cons, List.length_reverse] at h1
    rw [if_neg (by omega), if_pos hm]
    exact (ih out).trans (by simp)
   ·rw [if_pos ((hidx.2 hm).trans hself), if_neg hm]
    exact (ih (out ++ [p])).trans (by simp)
  ·rw [if_neg h]
   rw [List.filter_cons_of_neg h] at hQ ⊢
   exact steps_lasts props Q r pre out hQ
theorem outR_eq (props : List (List UInt8)) (l : List (List UInt8)) : (outR props (keptR props l) l).2 = lastsL (keptL props l) := by
 unfold outR
 have h := steps_lasts props (keptR props l) (l.filterMap partB) [] [] (by rw [keptR_eq]; rfl)
 rw [show (0, []) = (([] : List Pair).length, ([] : List Pair)) from rfl, h]
 rfl
theorem filterB_eq (props : List (List UInt8)) (s : List UInt8) : filterB props s = joinB [59, 32] ((lastsL (keptL props (splitB 59 s))).map txtB) := by
 unfold filterB; rw [outR_eq]
theorem keptL_none (props : List (List UInt8)) (l : List (List UInt8)) (k : Nat) (h : k < l.length) (hc : cutAt 58 l[k] = none) : keptL props (l.take (k + 1)) = keptL props (l.take k) := by
 unfold keptL
 rw [List.take_succ_eq_append_getElem h, List.filterMap_append, show [l[k]].filterMap partB = [] from by simp [partB, hc], List.append_nil]
theorem keptL_some (props : List (List UInt8)) (l : List (List UInt8)) (k : Nat) (h : k < l.length) {x y : List UInt8} (hc : cutAt 58 l[k] = some (x, y)) : keptL props (l.take (k + 1)) = keptL props (l.take k) ++ (if keepB props (bareB x, bareB y) = true then [(bareB x, bareB y)] else []) := by
 unfold keptL
 rw [List.take_succ_eq_append_getElem h, List.filterMap_append, show [l[k]].filterMap partB = [(bareB x, bareB y)] from by simp [partB, hc], List.filter_append]
 congr 1
 by_cases hk : keepB props (bareB x, bareB y) = true
 ·rw [if_pos hk, List.filter_cons_of_pos hk]; rfl
 ·rw [if_neg hk, List.filter_cons_of_neg hk]; rfl
theorem keptL_len (props : List (List UInt8)) (l : List (List UInt8)) : (keptL props l).length ≤ l.length :=
 Nat.le_trans (List.length_filter_le _ _) (List.length_filterMap_le _ _)
/-- What the reference has written when so many have been seen. -/
def sumB (out : List UInt8) : List Pair → List UInt8
 | [] => out
 | p :: r => if p.1 ∈ r.map Prod.fst then sumB out r else sumB ((if out = [] then [] else out ++ [59, 32]) ++ txtB p) r
theorem txtB_ne (p : Pair) : txtB p ≠ [] := fun h => by
 have := congrArg List.length h
 simp [txtB] at this
theorem sumB_more : ∀ (l : List Pair) (out : List UInt8), out ≠ [] → sumB out l = out ++ moreB [59, 32] ((lastsL l).map txtB)
 | [], out, _ => by simp [sumB, lastsL, moreB]
 | p :: r, out, h => by
  rw [sumB, lastsL]
  by_cases hm : p.1 ∈ r.map Prod.fst
  ·rw [if_pos hm, if_pos hm]; exact sumB_more r out h
  ·rw [if_neg hm, if_neg hm, if_neg h, sumB_more r _ (by simp)]
   simp [moreB]
theorem sumB_join : ∀ (l : List Pair), sumB [] l = joinB [59, 32] ((lastsL l).map txtB)
 | [] => rfl
 | p :: r => by
  rw [sumB, lastsL]
  by_cases hm : p.1 ∈ r.map Prod.fst
  ·rw [if_pos hm, if_pos hm]; exact sumB_join r
  ·rw [if_neg hm, if_neg hm, if_pos rfl, List.map_cons, joinB_more, List.nil_append, sumB_more r _ (txtB_ne p)]
def two (N V : List (List UInt8)) : Store := ⟨2, [(1, .rows (1, 9) (strsA V)), (0, .rows (1, 9) (strsA N))]⟩
theorem cut_take {c : UInt8} {s : List UInt8} {j : Nat} (hj : j < s.length) (hc : s[j] = c) (hn : c ∉ s.take j) : cutAt c s = some (s.take j, s.drop (j + 1)) := by
 have h := cutAt_some (b := s.drop (j + 1)) hn
 rw [← hc, ← List.drop_eq_getElem_cons hj, List.take_append_drop, hc] at h
 exact h
theorem kept_len (props : List (List UInt8)) (s : List UInt8) : ∀ p ∈ keptL props (splitB 59 s), p.1.length + p.2.length ≤ s.length := fun p h => by
 obtain ⟨x, hx, hp⟩ := List.mem_filterMap.1 (List.mem_filter.1 h).1
 have h1 := splitB_bound 59 s x hx
 have h2 := part_len hp
 omega
theorem pairD_get (f : Pair → List UInt8) (K : List Pair) (i : Nat) (h : i < K.length) : (strsD (K.map f))[((i : Nat) : Int).toNat]? = some [.str (f K[i])] := by
 rw [strsD_get _ i (by rw [List.length_map]; exact h), List.getElem_map]
theorem two_data (N V : List (List UInt8)) (L : Nat) (h1 : N.length = L) (h2 : V.length = L) : FinMove (two N V) (.tup [.own 0 0 L, .own 1 0 L]) (two N V) (.tup [.d (.sl (strsD N)), .d (.sl (strsD V))]) ⟨2, [(1, .dead), (0, .dead), (1, .rows (1, 9) (strsA V)), (0, .rows (1, 9) (strsA N))]⟩ := by
 have e1 : ((strsD N).drop 0).take L = strsD N := by rw [List.drop_zero, ← h1, ← strsD_len N, List.take_length]
 have e2 : ((strsD V).drop 0).take L = strsD V := by rw [List.drop_zero, ← h2, ← strsD_len V, List.take_length]
 have f1 := fin_freeze (σ0 := two N V) (σ := two N V) (r := .tup [.own 0 0 L, .own 1 0 L]) 0 rfl (rowsD_d (strsD N)) ⟨fun _ => by show 0 + L ≤ (strsA N).length; rw [strsA_len]; omega, fun h => (by cases h), trivial⟩
 have f2 := fin_freeze (σ0 := two N V) (σ := (two N V).set 0 .dead) (r := .tup [.d (.sl (((strsD N).drop 0).take L)), .own 1 0 L]) 1 rfl (rowsD_d (strsD V)) ⟨trivial, fun _ => by show 0 + L ≤ (strsA V).length; rw [strsA_len]; omega, trivial⟩
 have f3 := f1.trans f2
 have e3 : frz 1 (strsD V) (.tup [.d (.sl (((strsD N).drop 0).take L)), .own 1 0 L]) = .tup [.d (.sl (strsD N)), .d (.sl (strsD V))] := by
  show AV.tup [.d (.sl (((strsD N).drop 0).take L)), .d (.sl (((strsD V).drop 0).take L))] = _
  rw [e1, e2]
 rw [e3] at f3
 exact f3
set_option maxRecDepth 100000 in
set_option maxHeartbeats 4000000 in
theorem rFilter_ok (props : List (List UInt8)) (s : List UInt8) (hp : props.length ≤ 1000000) (hs : s.length ≤ 400000) : PureC Tryz.prog 36 [.d (.str s), .d (.sl (strsD props))] (.d (.str (filterB props s))) := by
 have hparts := parts_ok 59 s (by omega)
 rw [filterB_eq]
 have hn := strsD_len (splitB 59 s)
 have hb := splitB_bound 59 s
 have hcnt := splitB_len 59 s
 have hcl := List.count_le_length (a := 59) (l := s)
 have hKb := kept_len props s
 generalize splitB 59 s = ps at *
 have hpn := strsD_len props
 refine PureC.of rfl rfl (fn_okTE Tryz.wf Tryz.tab_ok Tryz.func36 (by decide +kernel) rfl rfl ?_)
 refine E.seq (E.of Tryz.wf Tryz.tab_ok ?_)
 refine E.seq (E.of Tryz.wf Tryz.tab_ok ?_)
 refine E.seq (E.of Tryz.wf Tryz.tab_ok ?_)
 refine E.seq (E.of Tryz.wf Tryz.tab_ok ?_)
 refine PureC.use hparts ?_
 refine midT Tryz.wf Tryz.tab_ok (fun s' σ => s' = [(5, .own 0 0 (keptL props ps).length), (6, .own 1 0 (keptL props ps).length)] ∧ σ = two ((keptL props ps).map Prod.fst) ((keptL props ps).map Prod.snd)) ?_ ?_
 ·refine loopT Tryz.wf Tryz.tab_ok (fun n s' σ => ∃ k : Nat, n = ps.length - k ∧ k ≤ ps.length ∧ s' = [(1, .d (.sl (strsD props))), (5, .own 0 0 (keptL props (ps.take k)).length), (6, .own 1 0 (keptL props (ps.take k)).length), (7, .d (.sl (strsD ps))), (8, .d (.int .i64 k))] ∧ σ = two ((keptL props (ps.take k)).map Prod.fst) ((keptL props (ps.take k)).map Prod.snd))
   ⟨0, rfl, Nat.zero_le _, rfl, rfl⟩ (Mv.of [.phan 1, .phan 1] rfl rfl rfl ⟨rfl, rfl, trivial⟩ ⟨rfl, ⟨rfl, rfl, rfl⟩, ⟨rfl, rfl, rfl⟩, rfl, rfl, trivial⟩) ?_
  rintro _ _ _ ⟨k, rfl, hk, rfl, rfl⟩
  by_cases hlt : k < ps.length
  ·have hg := strsD_get ps k hlt
   have hpb := hb ps[k] (List.getElem_mem hlt)
   have hkn := keptL_none props ps k hlt
   have hks := @keptL_some props ps k hlt
   have hkl := keptL_len props (ps.take k)
   rw [List.length_take] at hkl
   generalize ps[k] = p at *
   generalize keptL props (ps.take k) = Q at *
   have hlN : (strsA (Q.map Prod.fst)).length = Q.length := by rw [strsA_len, List.length_map]
   have hlV : (strsA (Q.map Prod.snd)).length = Q.length := by rw [strsA_len, List.length_map]
   refine wR (k := ?_)
   refine loopT Tryz.wf Tryz.tab_ok (fun n s' σ => ∃ j : Nat, n = p.length - j ∧ j ≤ p.length ∧ 58 ∉ p.take j ∧ s' = [(1, .d (.sl (strsD props))), (5, .own 0 0 Q.length), (6, .own 1 0 Q.length), (7, .d (.sl (strsD ps))), (8, .d (.int .i64 k)), (9, .d (.int .i64 j))] ∧ σ = two (Q.map Prod.fst) (Q.map Prod.snd))
    ⟨0, rfl, Nat.zero_le _, by simp, rfl, rfl⟩ (Mv.of [.old 0, .old 1] rfl rfl rfl ⟨⟨rfl, .inl ⟨rfl, strsA_pure _⟩⟩, ⟨rfl, .inl ⟨rfl, strsA_pure _⟩⟩, trivial⟩ ⟨rfl, ⟨rfl, rfl, rfl⟩, ⟨rfl, rfl, rfl⟩, rfl, rfl, rfl, trivial⟩) ?_
   rintro _ _ _ ⟨j, rfl, hj, hno, rfl, rfl⟩
   by_cases hjl : j < p.length
   ·have hgj := getD_at p j hjl
    by_cases hch : p[j] = 58
    ·have hcut := cut_take hjl hch hno
     have hkk := hks hcut
     have hgc : ((p.getD ((j : Nat) : Int).toNat 0).toNat : Int) = 58 := by rw [hgj, hch]; rfl
     have hc1 : PureC Tryz.prog 61 [.d (.str ((p.take ((j : Nat) : Int).toNat).drop (0 : Int).toNat))] (.d (.str (bareB (p.take j)))) := rbare_ok (p.take j) (by rw [List.length_take]; omega)
     have hc2 : PureC Tryz.prog 61 [.d (.str ((p.take ((p.length : Nat) : Int).toNat).drop (((j : Nat) : Int) + 1).toNat))] (.d (.str (bareB (p.drop (j + 1))))) := by
      rw [Int.toNat_natCast, List.take_length, show (((j : Nat) : Int) + 1).toNat = j + 1 from by omega]
      exact rbare_ok (p.drop (j + 1)) (by rw [List.length_drop]; omega)
     have hbl := bareB_len (p.drop (j + 1))
     rw [List.length_drop] at hbl
     have hst1 := strsA_snoc (Q.map Prod.fst) (bareB (p.take j))
     have hst2 := strsA_snoc (Q.map Prod.snd) (bareB (p.drop (j + 1)))
     generalize bareB (p.take j) = a at *
     generalize bareB (p.drop (j + 1)) = b at *
     clear hks hkn hcut hno
     refine wR (k := ?_)
     refine loopT Tryz.wf Tryz.tab_ok (fun n s' σ => ∃ m : Nat, n = props.length - m ∧ m ≤ props.length ∧ s' = [(1, .d (.sl (strsD props))), (5, .own 0 0 Q.length), (6, .own 1 0 Q.length), (7, .d (.sl (strsD ps))), (8, .d (.int .i64 k)), (10, .d (.str a)), (11, .d (.str b)), (12, .d (.bool (decide (a ∈ props.take m)))), (13, .d (.int .i64 m))] ∧ σ = two (Q.map Prod.fst) (Q.map Prod.snd))
      ⟨0, rfl, Nat.zero_le _, rfl, rfl⟩ (Mv.of [.old 0, .old 1] rfl rfl rfl ⟨⟨rfl, .inl ⟨rfl, strsA_pure _⟩⟩, ⟨rfl, .inl ⟨rfl, strsA_pure _⟩⟩, trivial⟩ ⟨rfl, ⟨rfl, rfl, rfl⟩, ⟨rfl, rfl, rfl⟩, rfl, rfl, rfl, rfl, congrArg D.bool (by simp), rfl, trivial⟩) ?_
     rintro _ _ _ ⟨m, rfl, hm, rfl, rfl⟩
     by_cases hml : m < props.length
     ·have hgm := strsD_get props m hml
      have hmem : a ∈ props.take (m + 1) ↔ a ∈ props.take m ∨ props[m] = a := by
       rw [List.take_succ_eq_append_getElem hml, List.mem_append, List.mem_singleton]
       exact ⟨fun h => h.imp id Eq.symm, fun h => h.imp id Eq.symm⟩
      by_cases hin : a ∈ props.take m
      ·rw [decide_eq_true hin]
       refine wR (k := ?_)
       exact ⟨_, _, _, ⟨m + 1, rfl, hml, rfl, rfl⟩, by omega, Mv.of [.old 0, .old 1] rfl rfl rfl ⟨⟨rfl, .inl ⟨rfl, strsA_pure _⟩⟩, ⟨rfl, .inl ⟨rfl, strsA_pure _⟩⟩, trivial⟩ ⟨rfl, ⟨rfl, rfl, rfl⟩, ⟨rfl, rfl, rfl⟩, rfl, rfl, rfl, rfl, congrArg D.bool (decide_eq_true (hmem.2 (.inl hin))), rfl, trivial⟩⟩
      ·rw [decide_eq_false hin]
       refine wR (k := ?_)
       exact ⟨_, _, _, ⟨m + 1, rfl, hml, rfl, rfl⟩, by omega, Mv.of [.old 0, .old 1] rfl rfl rfl ⟨⟨rfl, .inl ⟨rfl, strsA_pure _⟩⟩, ⟨rfl, .inl ⟨rfl, strsA_pure _⟩⟩, trivial⟩ ⟨rfl, ⟨rfl, rfl, rfl⟩, ⟨rfl, rfl, rfl⟩, rfl, rfl, rfl, rfl, congrArg D.bool (decide_eq_decide.2 (hmem.trans (or_iff_right hin))), rfl, trivial⟩⟩
     ·have hm' : m = props.length := by omega
      subst hm'
      rw [List.take_length]
      have hc3 := rValue_ok b (by omega)
      unfold keepB at hkk
      dsimp only at hkk
      by_cases hin : a ∈ props
      ·rw [decide_eq_true hin] at hkk ⊢
       rw [Bool.true_and] at hkk
       cases hv : valB b with
       | true =>
        rw [hv] at hc3
        rw [if_pos hv] at hkk
        refine wR (k := ?_)
        refine ⟨strsA (Q.map Prod.fst), [_], congrArg some (takeAll hlN), rfl, (show srcLen (.own 0 0 Q.length) _ from hlN), rfl, (by rw [hlN]; show (Q.length + 1) * 16 ≤ 140737488355328; omega), Nat.le_of_ble_eq_true rfl, Nat.le_of_ble_eq_true rfl, rfl, rfl, strsA_rows _, rowsOne rfl rfl, ?_⟩
        refine wR (k := ?_)
        refine ⟨strsA (Q.map Prod.snd), [_], congrArg some (takeAll hlV), rfl, (show srcLen (.own 1 0 Q.length) _ from hlV), rfl, (by rw [hlV]; show (Q.length + 1) * 16 ≤ 140737488355328; omega), Nat.le_of_ble_eq_true rfl, Nat.le_of_ble_eq_true rfl, rfl, rfl, strsA_rows _, rowsOne rfl rfl, ?_⟩
        refine wR (k := ?_)
        exact ⟨_, _, _, ⟨k + 1, rfl, hlt, rfl, rfl⟩, by omega, Mv.of [.old 3, .old 5] rfl rfl rfl (by rw [hkk, List.map_append, List.map_append]; exact ⟨⟨rfl, .inl ⟨hst2, strsA_pure _⟩⟩, ⟨rfl, .inl ⟨hst1, strsA_pure _⟩⟩, trivial⟩) (by rw [hkk]; exact ⟨rfl, ⟨rfl, rfl, by simp [strsA_len]⟩, ⟨rfl, rfl, by simp [strsA_len]⟩, rfl, rfl, trivial⟩)⟩
       | false =>
        rw [hv] at hc3
        rw [if_neg (by rw [hv]; exact Bool.false_ne_true), List.append_nil] at hkk
        refine wR (k := ?_)
        exact ⟨_, _, _, ⟨k + 1, rfl, hlt, rfl, rfl⟩, by omega, Mv.of [.old 0, .old 1] rfl rfl rfl (by rw [hkk]; exact ⟨⟨rfl, .inl ⟨rfl, strsA_pure _⟩⟩, ⟨rfl, .inl ⟨rfl, strsA_pure _⟩⟩, trivial⟩) (by rw [hkk]; exact ⟨rfl, ⟨rfl, rfl, rfl⟩, ⟨rfl, rfl, rfl⟩, rfl, rfl, trivial⟩)⟩
      ·rw [decide_eq_false hin] at hkk ⊢
       rw [Bool.false_and, if_neg Bool.false_ne_true, List.append_nil] at hkk
       refine wR (k := ?_)
       exact ⟨_, _, _, ⟨k + 1, rfl, hlt, rfl, rfl⟩, by omega, Mv.of [.old 0, .old 1] rfl rfl rfl (by rw [hkk]; exact ⟨⟨rfl, .inl ⟨rfl, strsA_pure _⟩⟩, ⟨rfl, .inl ⟨rfl, strsA_pure _⟩⟩, trivial⟩) (by rw [hkk]; exact ⟨rfl, ⟨rfl, rfl, rfl⟩, ⟨rfl, rfl, rfl⟩, rfl, rfl, trivial⟩)⟩
    ·have hgc : ¬ ((p.getD ((j : Nat) : Int).toNat 0).toNat : Int) = 58 := fun e => hch (by rw [hgj] at e; exact UInt8.toNat_inj.1 (by have : (58 : UInt8).toNat = 58 := rfl; omega))
     have hno2 : (58 : UInt8) ∉ p.take (j + 1) := by
      rw [List.take_succ_eq_append_getElem hjl, List.mem_append, List.mem_singleton]
      exact fun h => h.elim hno (fun e => hch e.symm)
     refine wR (k := ?_)
     exact ⟨_, _, _, ⟨j + 1, rfl, hjl, hno2, rfl, rfl⟩, by omega, Mv.of [.old 0, .old 1] rfl rfl rfl ⟨⟨rfl, .inl ⟨rfl, strsA_pure _⟩⟩, ⟨rfl, .inl ⟨rfl, strsA_pure _⟩⟩, trivial⟩ ⟨rfl, ⟨rfl, rfl, rfl⟩, ⟨rfl, rfl, rfl⟩, rfl, rfl, rfl, trivial⟩⟩
   ·have hj' : j = p.length := by omega
    subst hj'
    rw [List.take_length] at hno
    have hkk := hkn (cutAt_none hno)
    refine wR (k := ?_)
    exact ⟨_, _, _, ⟨k + 1, rfl, hlt, rfl, rfl⟩, by omega, Mv.of [.old 0, .old 1] rfl rfl rfl (by rw [hkk]; exact ⟨⟨rfl, .inl ⟨rfl, strsA_pure _⟩⟩, ⟨rfl, .inl ⟨rfl, strsA_pure _⟩⟩, trivial⟩) (by rw [hkk]; exact ⟨rfl, ⟨rfl, rfl, rfl⟩, ⟨rfl, rfl, rfl⟩, rfl, rfl, trivial⟩)⟩
  ·have hk' : k = ps.length := by omega
   subst hk'
   rw [List.take_length]
   refine wR (k := ?_)
   exact ⟨_, _, ⟨rfl, rfl⟩, Mv.of [.old 0, .old 1] rfl rfl rfl ⟨⟨rfl, .inl ⟨rfl, strsA_pure _⟩⟩, ⟨rfl, .inl ⟨rfl, strsA_pure _⟩⟩, trivial⟩ ⟨⟨rfl, rfl, rfl⟩, ⟨rfl, rfl, rfl⟩, trivial⟩⟩
 ·rintro _ _ ⟨rfl, rfl⟩
  have hKl := keptL_len props ps
  rw [← sumB_join]
  generalize keptL props ps = K at *
  refine E.fm (s' := [(5, .d (.sl (strsD (K.map Prod.fst)))), (6, .d (.sl (strsD (K.map Prod.snd))))]) (σ' := ⟨2, [(1, .dead), (0, .dead), (1, .rows (1, 9) (strsA (K.map Prod.snd))), (0, .rows (1, 9) (strsA (K.map Prod.fst)))]⟩) (two_data (K.map Prod.fst) (K.map Prod.snd) K.length (by rw [List.length_map]) (by rw [List.length_map])) ?_
  refine E.seq (E.of Tryz.wf Tryz.tab_ok ?_)
  refine midT Tryz.wf Tryz.tab_ok (fun s' σ => s' = [(14, .d (.str (sumB [] K)))] ∧ σ = ⟨0, []⟩) ?_ ?_
  ·have hnN : (strsD (K.map Prod.fst)).length = K.length := by rw [strsD_len, List.length_map]
   have hnV : (strsD (K.map Prod.snd)).length = K.length := by rw [strsD_len, List.length_map]
   refine loopT Tryz.wf Tryz.tab_ok (fun n s' σ => ∃ (i : Nat) (out : List UInt8), n = K.length - i ∧ i ≤ K.length ∧ out.length ≤ i * (s.length + 4) ∧ sumB out (K.drop i) = sumB [] K ∧ s' = [(5, .d (.sl (strsD (K.map Prod.fst)))), (6, .d (.sl (strsD (K.map Prod.snd)))), (14, .d (.str out)), (15, .d (.int .i64 i))] ∧ σ = ⟨0, []⟩)
    ⟨0, [], rfl, Nat.zero_le _, Nat.zero_le _, rfl, rfl, rfl⟩ (Mv.of [] rfl rfl rfl trivial ⟨rfl, rfl, rfl, rfl, trivial⟩) ?_
   rintro _ _ _ ⟨i, out, rfl, hi, hob, hI, rfl, rfl⟩
   by_cases hlt : i < K.length
   ·have hgN := pairD_get Prod.fst K i hlt
    have hgV := pairD_get Prod.snd K i hlt
    have hdr := List.drop_eq_getElem_cons hlt
    have hKi := hKb K[i] (List.getElem_mem hlt)
    have hbig : i * (s.length + 4) ≤ 400002 * 400004 := Nat.mul_le_mul (by omega) (by omega)
    have hnx : (i + 1) * (s.length + 4) = i * (s.length + 4) + (s.length + 4) := Nat.succ_mul _ _
    have htx : (txtB K[i]).length = K[i].1.length + 2 + K[i].2.length := by simp [txtB]; omega
    rw [hdr, sumB] at hI
    refine wR (k := ?_)
    refine loopT Tryz.wf Tryz.tab_ok (fun n s' σ => ∃ j : Nat, n = K.length - j ∧ i + 1 ≤ j ∧ j ≤ K.length ∧ s' = [(5, .d (.sl (strsD (K.map Prod.fst)))), (6, .d (.sl (strsD (K.map Prod.snd)))), (14, .d (.str out)), (15, .d (.int .i64 i)), (16, .d (.bool (!decide (K[i].1 ∈ ((K.take j).drop (i + 1)).map Prod.fst)))), (17, .d (.int .i64 j))] ∧ σ = ⟨0, []⟩)
     (s0 := [(5, .d (.sl (strsD (K.map Prod.fst)))), (6, .d (.sl (strsD (K.map Prod.snd)))), (14, .d (.str out)), (15, .d (.int .i64 i)), (16, .d (.bool (!decide (K[i].1 ∈ ((K.take (i + 1)).drop (i + 1)).map Prod.fst)))), (17, .d (.int .i64 ((i + 1 : Nat) : Int)))]) (σ0 := ⟨0, []⟩)
     ⟨i + 1, rfl, Nat.le_refl _, hlt, rfl, rfl⟩ (Mv.of [] rfl rfl rfl trivial ⟨rfl, rfl, rfl, rfl, congrArg D.bool (by simp), rfl, trivial⟩) ?_
    rintro _ _ _ ⟨j, rfl, hij, hj, rfl, rfl⟩
    by_cases hjl : j < K.length
    ·have hgj := pairD_get Prod.fst K j hjl
     have hmem : K[i].1 ∈ ((K.take (j + 1)).drop (i + 1)).map Prod.fst ↔ K[i].1 ∈ ((K.take j).drop (i + 1)).map Prod.fst ∨ K[j].1 = K[i].1 := by
      rw [List.take_succ_eq_append_getElem hjl, List.drop_append_of_le_length (by rw [List.length_take]; omega), List.map_append, List.mem_append]
      simp only [List.map_cons, List.map_nil, List.mem_singleton]
      exact ⟨fun h => h.imp id Eq.symm, fun h => h.imp id Eq.symm⟩
     by_cases hin : K[i].1 ∈ ((K.take j).drop (i + 1)).map Prod.fst
     ·rw [decide_eq_true hin, Bool.not_true]
      refine wR (k := ?_)
      refine drawnT Tryz.wf Tryz.tab_ok Tryz.mixed (by decide +kernel) ?_; repeat' (first |       refine qskip rfl rfl ?_ | refine qstep (r := .d (.bool true)) rfl rfl (fin_eq (congrArg (fun b => AV.d (.bool b)) (decide_eq_true (by omega)))) ?_ | refine qstep (r := .d (.bool false)) rfl rfl (fin_eq (congrArg (fun b => AV.d (.bool b)) (decide_eq_false (by omega)))) ?_ | refine qstep rfl rfl ⟨fun _ => FinMove.refl _ _ _, fun h => absurd h (by decide)⟩ ?_ | refine qstep rfl rfl ⟨fun h => absurd h (by decide), fun _ => FinMove.refl _ _ _⟩ ?_ | refine qstep rfl rfl (FinMove.refl _ _ _) ?_ |     refine qstep rfl rfl (PureC.use hc1 (FinMove.refl _ _ _)) ?_ | refine qstep rfl rfl (PureC.use hc2 (FinMove.refl _ _ _)) ?_ | refine qstep rfl rfl (PureC.use hc3 (FinMove.refl _ _ _)) ?_ |      refine qstep rfl rfl ⟨⟨oB, oB⟩, _, by assumption, by rfl, FinMove.refl _ _ _⟩ ?_ | refine qstep rfl rfl (.inl ⟨⟨oB, oB⟩, FinMove.refl _ _ _⟩) ?_ | refine qstep rfl rfl ⟨⟨oB, oB⟩, FinMove.refl _ _ _⟩ ?_ | refine qstep rfl rfl ⟨⟨oB, oB, oB⟩, FinMove.refl _ _ _⟩ ?_ | refine qstep rfl rfl ⟨⟨oB, oB, oB⟩, .inl rfl, FinMove.refl _ _ _⟩ ?_ | refine qstep rfl rfl ⟨_, rfl, _, rfl, FinMove.refl _ _ _⟩ ?_ | refine qstep rfl rfl ⟨_, rfl, FinMove.refl _ _ _⟩ ?_ | refine qstep rfl rfl ⟨_, rfl, Nat.le_refl _, FinMove.refl _ _ _⟩ ?_ | refine qstep rfl rfl ⟨Nat.le_refl _, FinMove.refl _ _ _⟩ ?_ | refine qstep rfl rfl ⟨by decide, FinMove.refl _ _ _⟩ ?_ | refine qstep rfl rfl ⟨show _ ≤ (9223372036854775807 : Nat) from oB, FinMove.refl _ _ _⟩ ?_ | fail)
      refine wR (k := ?_)
      exact ⟨_, _, _, ⟨j + 1, rfl, by omega, hjl, rfl, rfl⟩, by omega, Mv.of [] rfl rfl rfl trivial ⟨rfl, rfl, rfl, rfl, congrArg D.bool (by rw [decide_eq_true (hmem.2 (.inl hin))]; rfl), rfl, trivial⟩⟩
     ·rw [decide_eq_false hin, Bool.not_false]
      refine wR (k := ?_)
      refine drawnT Tryz.wf Tryz.tab_ok Tryz.mixed (by decide +kernel) ?_; repeat' (first |       refine qskip rfl rfl ?_ | refine qstep (r := .d (.bool true)) rfl rfl (fin_eq (congrArg (fun b => AV.d (.bool b)) (decide_eq_true (by omega)))) ?_ | refine qstep (r := .d (.bool false)) rfl rfl (fin_eq (congrArg (fun b => AV.d (.bool b)) (decide_eq_false (by omega)))) ?_ | refine qstep rfl rfl ⟨fun _ => FinMove.refl _ _ _, fun h => absurd h (by decide)⟩ ?_ | refine qstep rfl rfl ⟨fun h => absurd h (by decide), fun _ => FinMove.refl _ _ _⟩ ?_ | refine qstep rfl rfl (FinMove.refl _ _ _) ?_ |     refine qstep rfl rfl (PureC.use hc1 (FinMove.refl _ _ _)) ?_ | refine qstep rfl rfl (PureC.use hc2 (FinMove.refl _ _ _)) ?_ | refine qstep rfl rfl (PureC.use hc3 (FinMove.refl _ _ _)) ?_ |      refine qstep rfl rfl ⟨⟨oB, oB⟩, _, by assumption, by rfl, FinMove.refl _ _ _⟩ ?_ | refine qstep rfl rfl (.inl ⟨⟨oB, oB⟩, FinMove.refl _ _ _⟩) ?_ | refine qstep rfl rfl ⟨⟨oB, oB⟩, FinMove.refl _ _ _⟩ ?_ | refine qstep rfl rfl ⟨⟨oB, oB, oB⟩, FinMove.refl _ _ _⟩ ?_ | refine qstep rfl rfl ⟨⟨oB, oB, oB⟩, .inl rfl, FinMove.refl _ _ _⟩ ?_ | refine qstep rfl rfl ⟨_, rfl, _, rfl, FinMove.refl _ _ _⟩ ?_ | refine qstep rfl rfl ⟨_, rfl, FinMove.refl _ _ _⟩ ?_ | refine qstep rfl rfl ⟨_, rfl, Nat.le_refl _, FinMove.refl _ _ _⟩ ?_ | refine qstep rfl rfl ⟨Nat.le_refl _, FinMove.refl _ _ _⟩ ?_ | refine qstep rfl rfl ⟨by decide, FinMove.refl _ _ _⟩ ?_ | refine qstep rfl rfl ⟨show _ ≤ (9223372036854775807 : Nat) from oB, FinMove.refl _ _ _⟩ ?_ | fail)
      refine wR (k := ?_)
      exact ⟨_, _, _, ⟨j + 1, rfl, by omega, hjl, rfl, rfl⟩, by omega, Mv.of [] rfl rfl rfl trivial ⟨rfl, rfl, rfl, rfl, congrArg D.bool (by rw [decide_eq_decide.2 (hmem.trans (or_iff_right hin))]), rfl, trivial⟩⟩
    ·have hj' : j = K.length := by omega
     subst hj'
     rw [List.take_length]
     by_cases hm : K[i].1 ∈ (K.drop (i + 1)).map Prod.fst
     ·rw [if_pos hm] at hI
      rw [decide_eq_true hm, Bool.not_true]
      refine wR (k := ?_)
      exact ⟨_, _, _, ⟨i + 1, out, rfl, hlt, by omega, hI, rfl, rfl⟩, by omega, Mv.of [] rfl rfl rfl trivial ⟨rfl, rfl, rfl, rfl, trivial⟩⟩
     ·rw [if_neg hm] at hI
      rw [decide_eq_false hm, Bool.not_false]
      by_cases ho : out = []
      ·subst ho
       rw [if_pos rfl] at hI
       refine wR (k := ?_)
       refine drawnT Tryz.wf Tryz.tab_ok Tryz.mixed (by decide +kernel) ?_; repeat' (first |       refine qskip rfl rfl ?_ | refine qstep (r := .d (.bool true)) rfl rfl (fin_eq (congrArg (fun b => AV.d (.bool b)) (decide_eq_true (by omega)))) ?_ | refine qstep (r := .d (.bool false)) rfl rfl (fin_eq (congrArg (fun b => AV.d (.bool b)) (decide_eq_false (by omega)))) ?_ | refine qstep rfl rfl ⟨fun _ => FinMove.refl _ _ _, fun h => absurd h (by decide)⟩ ?_ | refine qstep rfl rfl ⟨fun h => absurd h (by decide), fun _ => FinMove.refl _ _ _⟩ ?_ | refine qstep rfl rfl (FinMove.refl _ _ _) ?_ |     refine qstep rfl rfl (PureC.use hc1 (FinMove.refl _ _ _)) ?_ | refine qstep rfl rfl (PureC.use hc2 (FinMove.refl _ _ _)) ?_ | refine qstep rfl rfl (PureC.use hc3 (FinMove.refl _ _ _)) ?_ |      refine qstep rfl rfl ⟨⟨oB, oB⟩, _, by assumption, by rfl, FinMove.refl _ _ _⟩ ?_ | refine qstep rfl rfl (.inl ⟨⟨oB, oB⟩, FinMove.refl _ _ _⟩) ?_ | refine qstep rfl rfl ⟨⟨oB, oB⟩, FinMove.refl _ _ _⟩ ?_ | refine qstep rfl rfl ⟨⟨oB, oB, oB⟩, FinMove.refl _ _ _⟩ ?_ | refine qstep rfl rfl ⟨⟨oB, oB, oB⟩, .inl rfl, FinMove.refl _ _ _⟩ ?_ | refine qstep rfl rfl ⟨_, rfl, _, rfl, FinMove.refl _ _ _⟩ ?_ | refine qstep rfl rfl ⟨_, rfl, FinMove.refl _ _ _⟩ ?_ | refine qstep rfl rfl ⟨_, rfl, Nat.le_refl _, FinMove.refl _ _ _⟩ ?_ | refine qstep rfl rfl ⟨Nat.le_refl _, FinMove.refl _ _ _⟩ ?_ | refine qstep rfl rfl ⟨by decide, FinMove.refl _ _ _⟩ ?_ | refine qstep rfl rfl ⟨show _ ≤ (9223372036854775807 : Nat) from oB, FinMove.refl _ _ _⟩ ?_ | fail)
       refine wR (k := ?_)
       exact ⟨_, _, _, ⟨i + 1, [] ++ txtB K[i], rfl, hlt, by rw [List.nil_append]; omega, hI, rfl, rfl⟩, by omega, Mv.of [] rfl rfl rfl trivial ⟨rfl, rfl, congrArg D.str (by simp [txtB]), rfl, trivial⟩⟩
      ·rw [if_neg ho] at hI
       have hol : (out ++ [59, 32]).length = out.length + 2 := by simp
       refine wR (k := ?_)
       refine drawnT Tryz.wf Tryz.tab_ok Tryz.mixed (by decide +kernel) ?_; repeat' (first |       refine qskip rfl rfl ?_ | refine qstep (r := .d (.bool true)) rfl rfl (fin_eq (congrArg (fun b => AV.d (.bool b)) (decide_eq_true (by omega)))) ?_ | refine qstep (r := .d (.bool false)) rfl rfl (fin_eq (congrArg (fun b => AV.d (.bool b)) (decide_eq_false (by omega)))) ?_ | refine qstep rfl rfl ⟨fun _ => FinMove.refl _ _ _, fun h => absurd h (by decide)⟩ ?_ | refine qstep rfl rfl ⟨fun h => absurd h (by decide), fun _ => FinMove.refl _ _ _⟩ ?_ | refine qstep rfl rfl (FinMove.refl _ _ _) ?_ |     refine qstep rfl rfl (PureC.use hc1 (FinMove.refl _ _ _)) ?_ | refine qstep rfl rfl (PureC.use hc2 (FinMove.refl _ _ _)) ?_ | refine qstep rfl rfl (PureC.use hc3 (FinMove.refl _ _ _)) ?_ |      refine qstep rfl rfl ⟨⟨oB, oB⟩, _, by assumption, by rfl, FinMove.refl _ _ _⟩ ?_ | refine qstep rfl rfl (.inl ⟨⟨oB, oB⟩, FinMove.refl _ _ _⟩) ?_ | refine qstep rfl rfl ⟨⟨oB, oB⟩, FinMove.refl _ _ _⟩ ?_ | refine qstep rfl rfl ⟨⟨oB, oB, oB⟩, FinMove.refl _ _ _⟩ ?_ | refine qstep rfl rfl ⟨⟨oB, oB, oB⟩, .inl rfl, FinMove.refl _ _ _⟩ ?_ | refine qstep rfl rfl ⟨_, rfl, _, rfl, FinMove.refl _ _ _⟩ ?_ | refine qstep rfl rfl ⟨_, rfl, FinMove.refl _ _ _⟩ ?_ | refine qstep rfl rfl ⟨_, rfl, Nat.le_refl _, FinMove.refl _ _ _⟩ ?_ | refine qstep rfl rfl ⟨Nat.le_refl _, FinMove.refl _ _ _⟩ ?_ | refine qstep rfl rfl ⟨by decide, FinMove.refl _ _ _⟩ ?_ | refine qstep rfl rfl ⟨show _ ≤ (9223372036854775807 : Nat) from oB, FinMove.refl _ _ _⟩ ?_ | fail)
       refine wR (k := ?_)
       exact ⟨_, _, _, ⟨i + 1, out ++ [59, 32] ++ txtB K[i], rfl, hlt, by rw [List.length_append]; omega, hI, rfl, rfl⟩, by omega, Mv.of [] rfl rfl rfl trivial ⟨rfl, rfl, congrArg D.str (by simp [txtB]), rfl, trivial⟩⟩
   ·have hi' : i = K.length := by omega
    subst hi'
    rw [List.drop_length] at hI
    refine wR (k := ?_)
    exact ⟨_, _, ⟨rfl, rfl⟩, Mv.of [] rfl rfl rfl trivial ⟨congrArg D.str hI.symm, trivial⟩⟩
  ·rintro _ _ ⟨rfl, rfl⟩
   refine E.of Tryz.wf Tryz.tab_ok ?_
   exact ⟨_, _, fin_out rfl, rfl, rfl⟩
end Go.Proofs.YtfchacihhljfhaaGreatDoor
namespace Go.Proofs.YtfchacihhljfhaaGreatDoor
open Go.Aw
set_option maxHeartbeats 1600000
set_option linter.unusedSimpArgs false
set_option linter.unusedVariables false
/-- A tree, as plain data. -/
inductive Node where
 | mk (name : List UInt8) (attrs : List (List UInt8 × List UInt8)) (text : List UInt8) (kids : List Node)
def Node.name : Node → List UInt8
 | .mk n _ _ _ => n
def Node.attrs : Node → List (List UInt8 × List UInt8)
 | .mk _ a _ _ => a
def Node.text : Node → List UInt8
 | .mk _ _ t _ => t
def Node.kids : Node → List Node
 | .mk _ _ _ k => k
def attrD (a : List UInt8 × List UInt8) : List D := [.str a.1, .str a.2]
def attrsD (l : List (List UInt8 × List UInt8)) : List (List D) := l.map attrD
mutual
def nodeD : Node → List D
 | .mk n a t k => [.str n, .sl (attrsD a), .str t, .sl (nodesD k)]
def nodesD : List Node → List (List D)
 | [] => []
 | n :: r => nodeD n :: nodesD r
end
theorem nodesD_map : ∀ l : List Node, nodesD l = l.map nodeD
 | [] => by unfold nodesD; rfl
 | n :: r => by unfold nodesD; rw [nodesD_map r]; rfl
theorem nodeD_eq (n : Node) : nodeD n = [.str n.name, .sl (attrsD n.attrs), .str n.text, .sl (nodesD n.kids)] := by
 cases n; unfold nodeD; rfl
theorem nodesD_len (l : List Node) : (nodesD l).length = l.length := by rw [nodesD_map]; simp
theorem attrsD_len (l : List (List UInt8 × List UInt8)) : (attrsD l).length = l.length := by simp [attrsD]
theorem nodesD_get (l : List Node) (k : Nat) (h : k < l.length) : (nodesD l)[((k : Nat) : Int).toNat]? = some [.str l[k].name, .sl (attrsD l[k].attrs), .str l[k].text, .sl (nodesD l[k].kids)] := by
 rw [nodesD_map, Int.toNat_natCast]; simp [h, nodeD_eq]
theorem attrsD_get (l : List (List UInt8 × List UInt8)) (k : Nat) (h : k < l.length) : (attrsD l)[((k : Nat) : Int).toNat]? = some [.str l[k].1, .str l[k].2] := by
 rw [Int.toNat_natCast]; simp [attrsD, attrD, h]
mutual
def szN : Node → Nat
 | .mk _ _ _ k => 1 + szL k
def szL : List Node → Nat
 | [] => 0
 | n :: r => szN n + szL r
end
theorem szN_eq (n : Node) : szN n = 1 + szL n.kids := by cases n; unfold szN; rfl
theorem szL_cons (n : Node) (r : List Node) : szL (n :: r) = szN n + szL r := by rw [szL]
theorem sz_mem {l : List Node} {n : Node} (h : n ∈ l) : szN n ≤ szL l := by
 induction l with
 | nil => simp at h
 | cons m r ih =>
  rw [szL_cons]
  rcases List.mem_cons.1 h with rfl | h
  ·omega
  ·have := ih h; omega
theorem kids_lt {l : List Node} {n : Node} (h : n ∈ l) : szL n.kids < szL l := by
 have := sz_mem h
 rw [szN_eq] at this; omega
def voids : List (List UInt8) := [[97, 114, 101, 97], [98, 97, 115, 101], [98, 114], [99, 111, 108], [101, 109, 98, 101, 100], [104, 114], [105, 109, 103], [105, 110, 112, 117, 116], [108, 105, 110, 107], [109, 101, 116, 97], [112, 97, 114, 97, 109], [115, 111, 117, 114, 99, 101], [116, 114, 97, 99, 107], [119, 98, 114]]
def blocks : List (List UInt8) := [[97, 100, 100, 114, 101, 115, 115], [97, 114, 116, 105, 99, 108, 101], [97, 115, 105, 100, 101], [98, 108, 111, 99, 107, 113, 117, 111, 116, 101], [100, 105, 118], [100, 108], [102, 105, 101, 108, 100, 115, 101, 116], [102, 105, 103, 117, 114, 101], [102, 111, 111, 116, 101, 114], [102, 111, 114, 109], [104, 49], [104, 50], [104, 51], [104, 52], [104, 53], [104, 54], [104, 101, 97, 100, 101, 114], [104, 114], [108, 105], [109, 97, 105, 110], [110, 97, 118], [111, 108], [112], [112, 114, 101], [115, 101, 99, 116, 105, 111, 110], [116, 97, 98, 108, 101], [117, 108]]
def raws : List (List UInt8) := [[115, 99, 114, 105, 112, 116], [115, 116, 121, 108, 101], [120, 109, 112], [105, 102, 114, 97, 109, 101], [110, 111, 101, 109, 98, 101, 100], [110, 111, 102, 114, 97, 109, 101, 115], [112, 108, 97, 105, 110, 116, 101, 120, 116]]
def softs : List (List UInt8) := [[116, 101, 120, 116, 97, 114, 101, 97], [116, 105, 116, 108, 101]]
def rawV (s : List UInt8) : AV := .tup [.d (.bool (decide (s ∈ raws) || decide (s ∈ softs))), .d (.bool (decide (s ∉ raws) && decide (s ∈ softs)))]
theorem rawV_pure (s : List UInt8) : (rawV s).pure = true := rfl
set_option maxRecDepth 100000 in
theorem Void_ok (s : List UInt8) : PureC Tryz.prog 44 [.d (.str s)] (.d (.bool (decide (s ∈ voids)))) := by
 refine pure_okT Tryz.wf Tryz.tab_ok Tryz.func44 (by decide +kernel) rfl rfl rfl rfl ?_
 have yes : ∀ σ : Store, s ∈ voids → ∃ r2 σ2, FinMove ⟨0, []⟩ (AV.d (.bool true)) σ r2 σ2 ∧ r2 = AV.d (.bool (decide (s ∈ voids))) := fun σ h => ⟨_, _, fin_out rfl, by rw [decide_eq_true h]⟩
 iterate 14 (refine ⟨fun h => yes _ (by rw [of_decide_eq_true h]; decide), fun h => ?_⟩; replace h := of_decide_eq_false h)
 refine ⟨_, _, fin_out rfl, congrArg (fun b => AV.d (.bool b)) (decide_eq_false ?_).symm⟩
 simp_all [voids]
set_option maxRecDepth 100000 in
theorem Block_ok (s : List UInt8) : PureC Tryz.prog 25 [.d (.str s)] (.d (.bool (decide (s ∈ blocks)))) := by
 refine pure_okT Tryz.wf Tryz.tab_ok Tryz.func25 (by decide +kernel) rfl rfl rfl rfl ?_
 have yes : ∀ σ : Store, s ∈ blocks → ∃ r2 σ2, FinMove ⟨0, []⟩ (AV.d (.bool true)) σ r2 σ2 ∧ r2 = AV.d (.bool (decide (s ∈ blocks))) := fun σ h => ⟨_, _, fin_out rfl, by rw [decide_eq_true h]⟩
 iterate 27 (refine ⟨fun h => yes _ (by rw [of_decide_eq_true h]; decide), fun h => ?_⟩; replace h := of_decide_eq_false h)
 refine ⟨_, _, fin_out rfl, congrArg (fun b => AV.d (.bool b)) (decide_eq_false ?_).symm⟩
 simp_all [blocks]
set_option maxRecDepth 100000 in
theorem tRaw_ok (s : List UInt8) : PureC Tryz.prog 42 [.d (.str s)] (rawV s) := by
 refine pure_okT Tryz.wf Tryz.tab_ok Tryz.func42 (by decide +kernel) rfl rfl rfl (rawV_pure s) ?_
 have yes : ∀ σ : Store, s ∈ raws → ∃ r2 σ2, FinMove ⟨0, []⟩ (AV.tup [.d (.bool true), .d (.bool false)]) σ r2 σ2 ∧ r2 = rawV s := fun σ h => ⟨_, _, fin_out rfl, by simp [rawV, h]⟩
 iterate 7 (refine ⟨fun h => yes _ (by rw [of_decide_eq_true h]; decide), fun h => ?_⟩; replace h := of_decide_eq_false h)
 have hno : s ∉ raws := by simp_all [raws]
 have yes2 : ∀ σ : Store, s ∈ softs → ∃ r2 σ2, FinMove ⟨0, []⟩ (AV.tup [.d (.bool true), .d (.bool true)]) σ r2 σ2 ∧ r2 = rawV s := fun σ h => ⟨_, _, fin_out rfl, by simp [rawV, h, hno]⟩
 iterate 2 (refine ⟨fun h => yes2 _ (by rw [of_decide_eq_true h]; decide), fun h => ?_⟩; replace h := of_decide_eq_false h)
 have hno2 : s ∉ softs := by simp_all [softs]
 have e : rawV s = .tup [.d (.bool false), .d (.bool false)] := by simp [rawV, hno, hno2]
 exact ⟨_, _, fin_out rfl, e.symm⟩
set_option maxRecDepth 100000 in
theorem has_ok (l : List (List UInt8)) (v : List UInt8) (hl : l.length ≤ 4611686018427387903) : PureC Tryz.prog 59 [.d (.sl (strsD l)), .d (.str v)] (.d (.bool (decide (v ∈ l)))) := by
 refine pure_okT Tryz.wf Tryz.tab_ok Tryz.func59 (by decide +kernel) rfl rfl rfl rfl ?_
 have hn := strsD_len l
 refine loopT Tryz.wf Tryz.tab_ok (fun n s' σ => ∃ k : Nat, n = l.length - k ∧ k ≤ l.length ∧ v ∉ l.take k ∧ s' = [(0, .d (.sl (strsD l))), (1, .d (.str v)), (5, .d (.int .i64 k))] ∧ σ = ⟨0, []⟩)
  ⟨0, rfl, Nat.zero_le _, by simp, rfl, rfl⟩ (Mv.of [] rfl rfl rfl trivial ⟨rfl, rfl, rfl, trivial⟩) ?_
 rintro _ _ _ ⟨k, rfl, hk, hI, rfl, rfl⟩
 refine ⟨fun h => ?_, fun h => ?_⟩
 ·have hlt : k < l.length := by have := of_decide_eq_true h; omega
  refine ⟨⟨by omega, by rw [hn]; omega⟩, _, strsD_get l k hlt, rfl, _, rfl, ⟨fun h1 => ?_, fun h1 => ?_⟩⟩
  ·have h1' := of_decide_eq_true h1
   exact ⟨_, _, fin_out rfl, congrArg (fun b => AV.d (.bool b)) (decide_eq_true (h1' ▸ List.getElem_mem hlt)).symm⟩
  ·have h1' := of_decide_eq_false h1
   refine .inl ⟨⟨by omega, by omega⟩, _, _, _, ⟨k + 1, rfl, hlt, ?_, rfl, rfl⟩, by omega, Mv.of [] rfl rfl rfl trivial ⟨rfl, rfl, rfl, trivial⟩⟩
   rw [List.take_succ_eq_append_getElem hlt]
   simp only [List.mem_append, not_or, List.mem_singleton]
   exact ⟨hI, fun e => h1' e.symm⟩
 ·have hk' : k = l.length := by have := of_decide_eq_false h; omega
  subst hk'
  rw [List.take_length] at hI
  exact ⟨_, _, fin_out rfl, congrArg (fun b => AV.d (.bool b)) (decide_eq_false hI).symm⟩
set_option maxRecDepth 100000 in
theorem rVoid_ok (s : List UInt8) : PureC Tryz.prog 34 [.d (.str s)] (.d (.bool (decide (s ∈ voids)))) := by
 refine pure_okT Tryz.wf Tryz.tab_ok Tryz.func34 (by decide +kernel) rfl rfl rfl rfl ?_
 refine CallsAbs.freezeTo (ds := strsD voids) (args' := [.d (.sl (strsD voids)), .d (.str s)]) 0 rfl rfl ⟨fun _ => Nat.le_refl _, trivial, trivial⟩ rfl (PureC.use (has_ok voids s (by decide)) ?_)
 exact ⟨_, _, fin_out rfl, rfl⟩
set_option maxRecDepth 100000 in
theorem rBlock_ok (s : List UInt8) : PureC Tryz.prog 35 [.d (.str s)] (.d (.bool (decide (s ∈ blocks)))) := by
 refine pure_okT Tryz.wf Tryz.tab_ok Tryz.func35 (by decide +kernel) rfl rfl rfl rfl ?_
 refine CallsAbs.freezeTo (ds := strsD blocks) (args' := [.d (.sl (strsD blocks)), .d (.str s)]) 0 rfl rfl ⟨fun _ => Nat.le_refl _, trivial, trivial⟩ rfl (PureC.use (has_ok blocks s (by decide)) ?_)
 exact ⟨_, _, fin_out rfl, rfl⟩
end Go.Proofs.YtfchacihhljfhaaGreatDoor

namespace Go.Proofs.YtfchacihhljfhaaGreatDoor
open Go.Aw
set_option maxHeartbeats 1600000
set_option linter.unusedSimpArgs false
set_option linter.unusedVariables false
def letB (c : UInt8) : Bool := decide (97 ≤ c.toNat) && decide (c.toNat ≤ 122)
def digB (c : UInt8) : Bool := decide (48 ≤ c.toNat) && decide (c.toNat ≤ 57)
/-- A small letter, and such, digits and others behind it. -/
def smallT (o : List UInt8) (s : List UInt8) : Bool := s.all fun c => letB c || (digB c || decide (c ∈ o))
def small (s o : List UInt8) : Bool := match s with
 | [] => false
 | c :: r => letB c && smallT o r
theorem idx_mem (c : UInt8) (o : List UInt8) (h : o.length ≤ 9223372036854775807) : (decide (0 ≤ idxB c o)) = decide (c ∈ o) := by
 by_cases hm : c ∈ o
 ·obtain ⟨a, b, rfl, ha⟩ := split_first hm
  rw [idxB_some ha, decide_eq_true hm, decide_eq_true (by omega)]
 ·rw [idxB_none hm, decide_eq_false hm]; rfl
/-- What holds of a text up to a place. -/
def upto (s o : List UInt8) (k : Nat) : Bool := decide (k = 0) || small (s.take k) o
theorem upto_step (s o : List UInt8) (k : Nat) (h : k < s.length) : upto s o (k + 1) = (upto s o k && (letB s[k] || decide (0 < k) && (digB s[k] || decide (s[k] ∈ o)))) := by
 cases k with
 | zero =>
  have e : s.take (0 + 1) = [s[0]] := by rw [List.take_succ_eq_append_getElem h]; rfl
  unfold upto
  rw [e]
  simp [small, smallT]
 | succ j =>
  cases s with
  | nil => simp at h
  | cons c r =>
   simp only [List.length_cons] at h
   have hj : j < r.length := by omega
   unfold upto
   simp only [List.take_succ_cons, List.getElem_cons_succ, small]
   rw [List.take_succ_eq_append_getElem hj]
   simp only [smallT, List.all_append, List.all_cons, List.all_nil, Bool.and_true]
   simp [Bool.and_assoc]
theorem upto_end (s o : List UInt8) : (upto s o s.length && !decide (s = [])) = small s o := by
 unfold upto
 cases s with
 | nil => rfl
 | cons c r => simp
theorem upto_bad : ∀ (s o : List UInt8) (k : Nat), k ≤ s.length → upto s o k = false → small s o = false := by
 intro s o k hk h
 unfold upto at h
 rw [Bool.or_eq_false_iff] at h
 have hk0 : k ≠ 0 := by simpa using h.1
 cases s with
 | nil => simp at hk; omega
 | cons c r =>
  obtain ⟨j, rfl⟩ : ∃ j, k = j + 1 := ⟨k - 1, by omega⟩
  have h2 := h.2
  simp only [List.take_succ_cons, small] at h2 ⊢
  rw [Bool.and_eq_false_iff] at h2 ⊢
  rcases h2 with h2 | h2
  ·exact .inl h2
  ·refine .inr ?_
   unfold smallT at h2 ⊢
   rw [← List.take_append_drop j r, List.all_append, h2]; rfl
set_option maxRecDepth 100000 in
theorem small_ok (s o : List UInt8) (hs : s.length ≤ 4611686018427387904) (ho : o.length ≤ 9223372036854775807) : PureC Tryz.prog 43 [.d (.str s), .d (.str o)] (.d (.bool (small s o))) := by
 refine pure_okT Tryz.wf Tryz.tab_ok Tryz.func43 (by decide +kernel) rfl rfl rfl rfl ?_
 refine loopT Tryz.wf Tryz.tab_ok (fun n s' σ => ∃ k : Nat, n = s.length - k ∧ k ≤ s.length ∧ upto s o k = true ∧ s' = [(0, .d (.str s)), (1, .d (.str o)), (8, .d (.int .i64 s.length)), (9, .d (.int .i64 k))] ∧ σ = ⟨0, []⟩)
  ⟨0, rfl, Nat.zero_le _, rfl, rfl, rfl⟩ (Mv.of [] rfl rfl rfl trivial ⟨rfl, rfl, rfl, rfl, trivial⟩) ?_
 rintro _ _ _ ⟨k, rfl, hk, hI, rfl, rfl⟩
 refine ⟨fun h => ?_, fun h => ?_⟩
 ·have hlt : k < s.length := by have := of_decide_eq_true h; omega
  clear h
  have hg := getD_at s k hlt
  have hst := upto_step s o k hlt
  rw [hI, Bool.true_and] at hst
  refine ⟨⟨by omega, by omega⟩, ?_⟩
  rw [hg]
  generalize hc : s[k] = c at *
  have hx := idx_mem c o ho
  have no : ∀ σ : Store, (letB c || decide (0 < k) && (digB c || decide (c ∈ o))) = false → ∃ r2 σ2, FinMove ⟨0, []⟩ (AV.d (.bool false)) σ r2 σ2 ∧ r2 = AV.d (.bool (small s o)) := fun σ h => ⟨_, _, fin_out rfl, by rw [upto_bad s o (k + 1) hlt (hst.trans h)]⟩
  have go : (letB c || decide (0 < k) && (digB c || decide (c ∈ o))) = true → upto s o (k + 1) = true := fun h => hst.trans h
  by_cases hl : 97 ≤ c.toNat ∧ c.toNat ≤ 122
  ·repeat (first | refine ⟨fun _ => ?_, fun h => absurd (of_decide_eq_false h) (by omega)⟩ | refine ⟨fun h => absurd (of_decide_eq_true h) (by omega), fun _ => ?_⟩ | refine ⟨fun _ => ?_, fun h => absurd (of_decide_eq_true h) (by omega)⟩ | refine ⟨fun h => absurd (of_decide_eq_false h) (by omega), fun _ => ?_⟩ | refine .inl ⟨⟨by omega, by omega⟩, ?_⟩ | refine ⟨⟨by omega, by omega⟩, ?_⟩)
   exact ⟨_, _, _, ⟨k + 1, rfl, hlt, go (by simp [letB, hl]), rfl, rfl⟩, by omega, Mv.of [] rfl rfl rfl trivial ⟨rfl, rfl, rfl, rfl, trivial⟩⟩
  ·have hlb : letB c = false := by simp [letB]; omega
   rw [hlb, Bool.false_or] at no go
   have hl2 : c.toNat < 97 ∨ 122 < c.toNat := by omega
   by_cases hk0 : k = 0
   ·subst hk0
    rcases hl2 with hl2 | hl2
    all_goals
     repeat (first | refine ⟨fun _ => ?_, fun h => absurd (of_decide_eq_false h) (by omega)⟩ | refine ⟨fun h => absurd (of_decide_eq_true h) (by omega), fun _ => ?_⟩ | refine ⟨fun _ => ?_, fun h => absurd (of_decide_eq_true h) (by omega)⟩ | refine ⟨fun h => absurd (of_decide_eq_false h) (by omega), fun _ => ?_⟩ | refine .inl ⟨⟨by omega, by omega⟩, ?_⟩ | refine ⟨⟨by omega, by omega⟩, ?_⟩)
     exact no _ rfl
   ·rw [decide_eq_true (show 0 < k by omega), Bool.true_and] at no go
    by_cases hd : 48 ≤ c.toNat ∧ c.toNat ≤ 57
    ·have hdb : digB c = true := by simp [digB, hd]
     replace hl2 : c.toNat < 97 := by omega
     repeat (first | refine ⟨fun _ => ?_, fun h => absurd (of_decide_eq_false h) (by omega)⟩ | refine ⟨fun h => absurd (of_decide_eq_true h) (by omega), fun _ => ?_⟩ | refine ⟨fun _ => ?_, fun h => absurd (of_decide_eq_true h) (by omega)⟩ | refine ⟨fun h => absurd (of_decide_eq_false h) (by omega), fun _ => ?_⟩ | refine .inl ⟨⟨by omega, by omega⟩, ?_⟩ | refine ⟨⟨by omega, by omega⟩, ?_⟩)
     exact ⟨_, _, _, ⟨k + 1, rfl, hlt, go (by rw [hdb]; rfl), rfl, rfl⟩, by omega, Mv.of [] rfl rfl rfl trivial ⟨rfl, rfl, rfl, rfl, trivial⟩⟩
    ·have hdb : digB c = false := by simp [digB]; omega
     have hd2 : c.toNat < 48 ∨ 57 < c.toNat := by omega
     rw [hdb, Bool.false_or, ← hx] at no go
     have hc1 := IndexByte_ok o c
     generalize idxB c o = x at *
     have hh : (c.toNat < 97 ∧ c.toNat < 48) ∨ (c.toNat < 97 ∧ 57 < c.toNat) ∨ (122 < c.toNat ∧ 57 < c.toNat) := by omega
     clear hl2 hd2 hl hd
     rcases hh with hh | hh | hh
     all_goals
      obtain ⟨hl2, hd2⟩ := hh
      repeat (first | refine ⟨fun _ => ?_, fun h => absurd (of_decide_eq_false h) (by omega)⟩ | refine ⟨fun h => absurd (of_decide_eq_true h) (by omega), fun _ => ?_⟩ | refine ⟨fun _ => ?_, fun h => absurd (of_decide_eq_true h) (by omega)⟩ | refine ⟨fun h => absurd (of_decide_eq_false h) (by omega), fun _ => ?_⟩ | refine .inl ⟨⟨by omega, by omega⟩, ?_⟩ | refine ⟨⟨by omega, by omega⟩, ?_⟩)
      refine PureC.use hc1 ?_
      by_cases hp : 0 ≤ x
      ·repeat (first | refine ⟨fun _ => ?_, fun h => absurd (of_decide_eq_false h) (by omega)⟩ | refine ⟨fun h => absurd (of_decide_eq_true h) (by omega), fun _ => ?_⟩ | refine ⟨fun _ => ?_, fun h => absurd (of_decide_eq_true h) (by omega)⟩ | refine ⟨fun h => absurd (of_decide_eq_false h) (by omega), fun _ => ?_⟩ | refine .inl ⟨⟨by omega, by omega⟩, ?_⟩ | refine ⟨⟨by omega, by omega⟩, ?_⟩)
       exact ⟨_, _, _, ⟨k + 1, rfl, hlt, go (decide_eq_true hp), rfl, rfl⟩, by omega, Mv.of [] rfl rfl rfl trivial ⟨rfl, rfl, rfl, rfl, trivial⟩⟩
      ·repeat (first | refine ⟨fun _ => ?_, fun h => absurd (of_decide_eq_false h) (by omega)⟩ | refine ⟨fun h => absurd (of_decide_eq_true h) (by omega), fun _ => ?_⟩ | refine ⟨fun _ => ?_, fun h => absurd (of_decide_eq_true h) (by omega)⟩ | refine ⟨fun h => absurd (of_decide_eq_false h) (by omega), fun _ => ?_⟩ | refine .inl ⟨⟨by omega, by omega⟩, ?_⟩ | refine ⟨⟨by omega, by omega⟩, ?_⟩)
       exact no _ (decide_eq_false hp)
 ·have hk' : k = s.length := by have := of_decide_eq_false h; omega
  subst hk'
  refine ⟨_, _, fin_out rfl, congrArg (fun b => AV.d (.bool b)) ?_⟩
  rw [← upto_end, hI, Bool.true_and]
def enc (n : Int) : List UInt8 := (Utf8.encode n).data.toList
def nameTab : List (List UInt8 × Int) := [([97, 109, 112], 38), ([108, 116], 60), ([103, 116], 62), ([113, 117, 111, 116], 34), ([97, 112, 111, 115], 39), ([110, 98, 115, 112], 160), ([99, 111, 112, 121], 169), ([114, 101, 103], 174), ([100, 101, 103], 176), ([109, 105, 100, 100, 111, 116], 183), ([108, 97, 113, 117, 111], 171), ([114, 97, 113, 117, 111], 187), ([116, 105, 109, 101, 115], 215), ([101, 97, 99, 117, 116, 101], 233), ([110, 100, 97, 115, 104], 8211), ([109, 100, 97, 115, 104], 8212), ([108, 115, 113, 117, 111], 8216), ([114, 115, 113, 117, 111], 8217), ([108, 100, 113, 117, 111], 8220), ([114, 100, 113, 117, 111], 8221), ([104, 101, 108, 108, 105, 112], 8230), ([101, 117, 114, 111], 8364)]
def named (s : List UInt8) : Option (List UInt8) := (nameTab.find? fun e => decide (e.1 = s)).map fun e => enc e.2
def fixN (n : Int) : Int := if n = 0 ∨ n = 13 ∨ (55296 ≤ n ∧ n ≤ 57343) ∨ 1114111 < n then 65533 else n
/-- A digit's worth. -/
def hexv (c : UInt8) : Option Nat := if 48 ≤ c.toNat ∧ c.toNat ≤ 57 then some (c.toNat - 48) else if 97 ≤ c.toNat ∧ c.toNat ≤ 102 then some (c.toNat - 87) else if 65 ≤ c.toNat ∧ c.toNat ≤ 70 then some (c.toNat - 55) else none
def digs (base : Nat) : List UInt8 → Nat → Option Nat
 | [], n => some n
 | c :: r, n => match hexv c with
  | some d => if d < base then digs base r (n * base + d) else none
  | none => none
def number (s : List UInt8) (base most : Nat) : Option Nat := if s = [] ∨ most < s.length then none else digs base s 0
def hashN (d : List UInt8) : Option Nat := match d with
 | 120 :: e => number e 16 6
 | 88 :: e => number e 16 6
 | _ => number d 10 7
def stands (s : List UInt8) : Option (List UInt8) := match s with
 | 35 :: d => (hashN d).map fun (n : Nat) => enc (fixN (n : Int))
 | _ => named s
def oneR (r : List UInt8) : Option (List UInt8 × List UInt8) :=
 if r.findIdx (fun c => decide (c = 59)) ≤ 10 ∧ r.findIdx (fun c => decide (c = 59)) < r.length then
  (stands (r.take (r.findIdx fun c => decide (c = 59)))).map fun t => (t, r.drop (r.findIdx (fun c => decide (c = 59)) + 1))
 else none
def rsv : Nat → List UInt8 → List UInt8
 | 0, _ => []
 | _ + 1, [] => []
 | n + 1, c :: r => if c = 38 then (match oneR r with
   | some (t, r') => t ++ rsv n r'
   | none => 38 :: rsv n r) else c :: rsv n r
def resolve (s : List UInt8) : List UInt8 := rsv s.length s
/-- How many bytes the right sequence has that a text begins with. -/
def lead (c : UInt8) : Nat × Nat × Nat :=
 if 194 ≤ c.toNat ∧ c.toNat ≤ 223 then (2, 128, 191)
 else if 224 ≤ c.toNat ∧ c.toNat ≤ 239 then (3, if c.toNat = 224 then 160 else 128, if c.toNat = 237 then 159 else 191)
 else if 240 ≤ c.toNat ∧ c.toNat ≤ 244 then (4, if c.toNat = 240 then 144 else 128, if c.toNat = 244 then 143 else 191)
 else (0, 128, 191)
def goesB (c : UInt8) : Bool := decide (128 ≤ c.toNat) && decide (c.toNat ≤ 191)
def right (s : List UInt8) : Nat := match s with
 | [] => 0
 | c :: r => if c.toNat < 128 then 1 else
  if (lead c).1 = 0 ∨ s.length < (lead c).1 ∨ (r.getD 0 0).toNat < (lead c).2.1 ∨ (lead c).2.2 < (r.getD 0 0).toNat then 0 else
  if ((r.drop 1).take ((lead c).1 - 2)).all goesB then (lead c).1 else 0
def rawB (s : List UInt8) : Bool := decide (s ∈ raws) || decide (s ∈ softs)
def attrsFrom : List (List UInt8) → List (List UInt8 × List UInt8) → Bool
 | _, [] => true
 | seen, a :: r => (small a.1 [45, 95, 58] && !decide (a.1 ∈ seen)) && attrsFrom (seen ++ [a.1]) r
def ownB (n : Node) : Bool := !(rawB n.name || !small n.name [45] || !decide (n.text = []) || decide (n.name ∈ voids) && !decide (n.kids = [])) && attrsFrom [] n.attrs
theorem rawV_fst (s : List UInt8) : rawV s = .tup [.d (.bool (rawB s)), .d (.bool (decide (s ∉ raws) && decide (s ∈ softs)))] := rfl
set_option maxRecDepth 100000 in
theorem rRaw_ok (s : List UInt8) : PureC Tryz.prog 56 [.d (.str s)] (rawV s) := by
 refine pure_okT Tryz.wf Tryz.tab_ok Tryz.func56 (by decide +kernel) rfl rfl rfl (rawV_pure s) ?_
 refine loopT Tryz.wf Tryz.tab_ok (fun n s' σ => ∃ k : Nat, n = raws.length - k ∧ k ≤ raws.length ∧ s ∉ raws.take k ∧ s' = [(0, .d (.str s)), (4, .own 0 0 7), (5, .d (.int .i64 k))] ∧ σ = ⟨1, [(0, .rows (1, 9) (raws.map fun x => [AV.d (.str x)]))]⟩)
  ⟨0, rfl, Nat.zero_le _, by simp, rfl, rfl⟩ (Mv.of [.old 0] rfl rfl rfl ⟨⟨rfl, .inl ⟨rfl, fun row h => by obtain ⟨x, _, rfl⟩ := List.mem_map.1 h; rfl⟩⟩, trivial⟩ ⟨rfl, ⟨rfl, rfl, rfl⟩, rfl, trivial⟩) ?_
 rintro _ _ _ ⟨k, rfl, hk, hI, rfl, rfl⟩
 have hrl : raws.length = 7 := rfl
 refine ⟨fun h => ?_, fun h => ?_⟩
 ·have hlt : k < raws.length := by have := of_decide_eq_true h; rw [hrl]; omega
  have hrow : (raws.map fun x => [AV.d (.str x)])[((k : Nat) : Int).toNat]? = some [AV.d (.str raws[k])] := by rw [Int.toNat_natCast]; simp [hlt]
  refine ⟨⟨by omega, by omega⟩, _, hrow, _, rfl, ?_⟩
  refine ⟨fun h1 => ?_, fun h1 => ?_⟩
  ·have h1' := of_decide_eq_true h1
   have hm : s ∈ raws := h1' ▸ List.getElem_mem hlt
   refine ⟨_, _, fin_out rfl, ?_⟩
   show AV.tup [.d (.bool true), .d (.bool false)] = rawV s
   simp [rawV, hm]
  ·have h1' := of_decide_eq_false h1
   refine .inl ⟨⟨by omega, by omega⟩, _, _, _, ⟨k + 1, rfl, hlt, ?_, rfl, rfl⟩, by omega, Mv.of [.old 0] rfl rfl rfl ⟨⟨rfl, .inl ⟨rfl, fun row h => by obtain ⟨x, _, rfl⟩ := List.mem_map.1 h; rfl⟩⟩, trivial⟩ ⟨rfl, ⟨rfl, rfl, rfl⟩, rfl, trivial⟩⟩
   rw [List.take_succ_eq_append_getElem hlt]
   simp only [List.mem_append, not_or, List.mem_singleton]
   exact ⟨hI, fun e => h1' e.symm⟩
 ·have hk' : k = raws.length := by have := of_decide_eq_false h; rw [hrl] at hk ⊢; omega
  subst hk'
  rw [List.take_length] at hI
  have yes2 : ∀ σ : Store, s ∈ softs → ∃ r2 σ2, FinMove ⟨0, []⟩ (AV.tup [.d (.bool true), .d (.bool true)]) σ r2 σ2 ∧ r2 = rawV s := fun σ h => ⟨_, _, fin_out rfl, by simp [rawV, h, hI]⟩
  have e1 : (s ∈ softs) ↔ (s = [116, 101, 120, 116, 97, 114, 101, 97] ∨ s = [116, 105, 116, 108, 101]) := by simp [softs]
  by_cases h1 : s = [116, 101, 120, 116, 97, 114, 101, 97]
  ·subst h1
   repeat (first | refine ⟨fun _ => ?_, fun h => absurd h (by decide)⟩ | refine ⟨fun h => absurd h (by decide), fun _ => ?_⟩)
   exact ⟨_, _, fin_out rfl, rfl⟩
  ·refine ⟨fun _ => ?_, fun h => absurd (of_decide_eq_true h) h1⟩
   refine ⟨_, _, fin_out rfl, ?_⟩
   have e2 : decide (s ∈ softs) = decide (s = [116, 105, 116, 108, 101]) := by rw [decide_eq_decide, e1]; simp [h1]
   show AV.tup [.d (.bool (decide (s = [116, 105, 116, 108, 101]))), .d (.bool (decide (s = [116, 105, 116, 108, 101])))] = rawV s
   rw [← e2]
   simp [rawV, hI]
theorem others_step (c : UInt8) (o : List UInt8) (k : Nat) (h : k < o.length) : decide (c ∈ o.take (k + 1)) = (decide (c ∈ o.take k) || decide (c = o[k])) := by
 rw [List.take_succ_eq_append_getElem h, ← Bool.decide_or, decide_eq_decide, List.mem_append, List.mem_singleton]
set_option maxRecDepth 100000 in
theorem rname_ok (s o : List UInt8) (hs : s.length ≤ 4611686018427387904) (ho : o.length ≤ 4611686018427387904) : PureC Tryz.prog 57 [.d (.str s), .d (.str o)] (.d (.bool (small s o))) := by
 refine PureC.of rfl rfl (fn_okTE Tryz.wf Tryz.tab_ok Tryz.func57 (by decide +kernel) rfl rfl ?_)
 refine E.seq (E.of Tryz.wf Tryz.tab_ok ?_)
 refine E.seq (E.of Tryz.wf Tryz.tab_ok ?_)
 refine loopE (fun n s' σ => ∃ k : Nat, n = s.length - k ∧ k ≤ s.length ∧ upto s o k = true ∧ s' = [(0, .d (.str s)), (1, .d (.str o)), (5, .d (.int .i64 k))] ∧ σ = ⟨0, []⟩)
  ⟨0, rfl, Nat.zero_le _, rfl, rfl, rfl⟩ (Mv.of [] rfl rfl rfl trivial ⟨rfl, rfl, rfl, trivial⟩) ?_
 rintro _ _ _ ⟨k, rfl, hk, hI, rfl, rfl⟩
 refine E.seq (E.of Tryz.wf Tryz.tab_ok ?_)
 refine ⟨fun h => ?_, fun h => ?_⟩
 ·have hlt : k < s.length := by have := of_decide_eq_true h; omega
  clear h
  have hg := getD_at s k hlt
  have hst := upto_step s o k hlt
  rw [hI, Bool.true_and] at hst
  refine E.seq (blockE ?_)
  refine E.seq (E.of Tryz.wf Tryz.tab_ok ?_)
  refine ⟨⟨by omega, by omega⟩, ?_⟩
  rw [hg]
  generalize hc : s[k] = c at *
  refine midT Tryz.wf Tryz.tab_ok (fun s' σ => s' = [(0, .d (.str s)), (1, .d (.str o)), (5, .d (.int .i64 k)), (6, .d (.int .u8 c.toNat)), (7, .d (.bool (letB c || (decide (0 < k) && digB c))))] ∧ σ = ⟨0, []⟩) ?_ ?_
  ·have go : ∀ b : Bool, (letB c || (decide (0 < k) && digB c)) = b → vrelS (phi 0 []) [(0, .d (.str s)), (1, .d (.str o)), (5, .d (.int .i64 k)), (6, .d (.int .u8 c.toNat)), (7, .d (.bool b))] [(0, .d (.str s)), (1, .d (.str o)), (5, .d (.int .i64 k)), (6, .d (.int .u8 c.toNat)), (7, .d (.bool (letB c || (decide (0 < k) && digB c))))] := fun b h => by
    rw [h]; exact ⟨rfl, rfl, rfl, rfl, rfl, trivial⟩
   have d1 : (decide (((c.toNat : Nat) : Int) ≤ 57)) = decide (c.toNat ≤ 57) := by rw [decide_eq_decide]; omega
   by_cases hl : 97 ≤ c.toNat ∧ c.toNat ≤ 122
   ·repeat (first | refine ⟨fun _ => ?_, fun h => absurd (of_decide_eq_false h) (by omega)⟩ | refine ⟨fun h => absurd (of_decide_eq_true h) (by omega), fun _ => ?_⟩ | refine ⟨fun _ => ?_, fun h => absurd (of_decide_eq_true h) (by omega)⟩ | refine ⟨fun h => absurd (of_decide_eq_false h) (by omega), fun _ => ?_⟩ | refine .inl ⟨⟨by omega, by omega⟩, ?_⟩ | refine ⟨⟨by omega, by omega⟩, ?_⟩)
    exact ⟨_, _, ⟨rfl, rfl⟩, Mv.of [] rfl rfl rfl trivial (go _ (by simp [letB, hl]))⟩
   ·have hlb : letB c = false := by simp [letB]; omega
    by_cases hk0 : 0 < k
    ·by_cases hd : 48 ≤ c.toNat
     ·have e : (letB c || (decide (0 < k) && digB c)) = decide (((c.toNat : Nat) : Int) ≤ 57) := by rw [hlb, decide_eq_true hk0, d1]; simp [digB, hd]
      have hl2 : c.toNat < 97 ∨ 122 < c.toNat := by omega
      rcases hl2 with hl2 | hl2
      all_goals
       repeat (first | refine ⟨fun _ => ?_, fun h => absurd (of_decide_eq_false h) (by omega)⟩ | refine ⟨fun h => absurd (of_decide_eq_true h) (by omega), fun _ => ?_⟩ | refine ⟨fun _ => ?_, fun h => absurd (of_decide_eq_true h) (by omega)⟩ | refine ⟨fun h => absurd (of_decide_eq_false h) (by omega), fun _ => ?_⟩ | refine .inl ⟨⟨by omega, by omega⟩, ?_⟩ | refine ⟨⟨by omega, by omega⟩, ?_⟩)
       exact ⟨_, _, ⟨rfl, rfl⟩, Mv.of [] rfl rfl rfl trivial (go _ (e.trans (by first | rfl | (simp; omega))))⟩
     ·have e : (letB c || (decide (0 < k) && digB c)) = false := by rw [hlb, decide_eq_true hk0]; simp [digB, hd]
      replace hl : c.toNat < 97 := by omega
      repeat (first | refine ⟨fun _ => ?_, fun h => absurd (of_decide_eq_false h) (by omega)⟩ | refine ⟨fun h => absurd (of_decide_eq_true h) (by omega), fun _ => ?_⟩ | refine ⟨fun _ => ?_, fun h => absurd (of_decide_eq_true h) (by omega)⟩ | refine ⟨fun h => absurd (of_decide_eq_false h) (by omega), fun _ => ?_⟩ | refine .inl ⟨⟨by omega, by omega⟩, ?_⟩ | refine ⟨⟨by omega, by omega⟩, ?_⟩)
      exact ⟨_, _, ⟨rfl, rfl⟩, Mv.of [] rfl rfl rfl trivial (go _ e)⟩
    ·have e : (letB c || (decide (0 < k) && digB c)) = false := by rw [hlb, decide_eq_false hk0]; rfl
     have hl2 : c.toNat < 97 ∨ 122 < c.toNat := by omega
     rcases hl2 with hl2 | hl2
     all_goals
      repeat (first | refine ⟨fun _ => ?_, fun h => absurd (of_decide_eq_false h) (by omega)⟩ | refine ⟨fun h => absurd (of_decide_eq_true h) (by omega), fun _ => ?_⟩ | refine ⟨fun _ => ?_, fun h => absurd (of_decide_eq_true h) (by omega)⟩ | refine ⟨fun h => absurd (of_decide_eq_false h) (by omega), fun _ => ?_⟩ | refine .inl ⟨⟨by omega, by omega⟩, ?_⟩ | refine ⟨⟨by omega, by omega⟩, ?_⟩)
      exact ⟨_, _, ⟨rfl, rfl⟩, Mv.of [] rfl rfl rfl trivial (go _ e)⟩
  rintro _ _ ⟨rfl, rfl⟩
  generalize hb0 : (letB c || (decide (0 < k) && digB c)) = b0 at *
  refine midE (fun s' σ => s' = [(0, .d (.str s)), (1, .d (.str o)), (5, .d (.int .i64 k)), (7, .d (.bool (b0 || (decide (0 < k) && decide (c ∈ o)))))] ∧ σ = ⟨0, []⟩) ?_ ?_
  ·refine E.seq (E.of Tryz.wf Tryz.tab_ok ?_)
   refine blockE (loopE (fun n s' σ => ∃ j : Nat, n = o.length - j ∧ j ≤ o.length ∧ s' = [(0, .d (.str s)), (1, .d (.str o)), (5, .d (.int .i64 k)), (6, .d (.int .u8 c.toNat)), (7, .d (.bool (b0 || (decide (0 < k) && decide (c ∈ o.take j))))), (8, .d (.int .i64 j))] ∧ σ = ⟨0, []⟩)
    ⟨0, rfl, Nat.zero_le _, rfl, rfl⟩ (Mv.of [] rfl rfl rfl trivial ⟨rfl, rfl, rfl, rfl, congrArg D.bool (show (b0 || (decide (0 < k) && decide (c ∈ o.take 0))) = b0 by simp), rfl, trivial⟩) ?_)
   rintro _ _ _ ⟨j, rfl, hj, rfl, rfl⟩
   refine E.seq (E.of Tryz.wf Tryz.tab_ok ?_)
   have out : ∀ b : Bool, (b0 || (decide (0 < k) && decide (c ∈ o))) = b → vrelS (phi 0 []) [(0, .d (.str s)), (1, .d (.str o)), (5, .d (.int .i64 k)), (7, .d (.bool b))] [(0, .d (.str s)), (1, .d (.str o)), (5, .d (.int .i64 k)), (7, .d (.bool (b0 || (decide (0 < k) && decide (c ∈ o)))))] := fun b h => by
    rw [h]; exact ⟨rfl, rfl, rfl, rfl, trivial⟩
   by_cases hk0 : 0 < k
   ·by_cases hjl : j < o.length
    ·have hst2 := others_step c o j hjl
     have hg2 := getD_at o j hjl
     have nx : ∀ b : Bool, (b0 || (decide (0 < k) && decide (c ∈ o.take (j + 1)))) = b → vrelS (phi 0 []) [(0, .d (.str s)), (1, .d (.str o)), (5, .d (.int .i64 k)), (6, .d (.int .u8 c.toNat)), (7, .d (.bool b)), (8, .d (.int .i64 (j + 1)))] [(0, .d (.str s)), (1, .d (.str o)), (5, .d (.int .i64 k)), (6, .d (.int .u8 c.toNat)), (7, .d (.bool (b0 || (decide (0 < k) && decide (c ∈ o.take (j + 1)))))), (8, .d (.int .i64 ((j + 1 : Nat) : Int)))] := fun b h => by
      rw [h]; exact ⟨rfl, rfl, rfl, rfl, rfl, rfl, trivial⟩
     have key : (b0 || (decide (0 < k) && decide (c ∈ o.take (j + 1)))) = ((b0 || (decide (0 < k) && decide (c ∈ o.take j))) || decide (c = o[j])) := by
      rw [hst2, decide_eq_true hk0, Bool.true_and, Bool.true_and, Bool.or_assoc]
     repeat (first | refine ⟨fun _ => ?_, fun h => absurd (of_decide_eq_false h) (by omega)⟩ | refine ⟨fun h => absurd (of_decide_eq_true h) (by omega), fun _ => ?_⟩ | refine ⟨fun _ => ?_, fun h => absurd (of_decide_eq_true h) (by omega)⟩ | refine ⟨fun h => absurd (of_decide_eq_false h) (by omega), fun _ => ?_⟩ | refine .inl ⟨⟨by omega, by omega⟩, ?_⟩ | refine ⟨⟨by omega, by omega⟩, ?_⟩)
     generalize (b0 || (decide (0 < k) && decide (c ∈ o.take j))) = X at *
     cases X with
     | true =>
      refine E.of Tryz.wf Tryz.tab_ok ?_
      repeat (first | refine ⟨fun _ => ?_, fun h => absurd h (by decide)⟩ | refine ⟨fun h => absurd h (by decide), fun _ => ?_⟩)
      refine .inl ⟨⟨by omega, by omega⟩, ?_⟩
      exact ⟨_, _, _, ⟨j + 1, rfl, hjl, rfl, rfl⟩, by omega, Mv.of [] rfl rfl rfl trivial (nx _ key)⟩
     | false =>
      refine E.of Tryz.wf Tryz.tab_ok ?_
      repeat (first | refine ⟨fun _ => ?_, fun h => absurd h (by decide)⟩ | refine ⟨fun h => absurd h (by decide), fun _ => ?_⟩)
      refine ⟨⟨by omega, by omega⟩, ?_⟩
      refine .inl ⟨⟨by omega, by omega⟩, ?_⟩
      have e8 : decide (((c.toNat : Nat) : Int) = (((o.getD ((j : Nat) : Int).toNat 0).toNat : Nat) : Int)) = decide (c = o[j]) := by
       rw [hg2, decide_eq_decide]
       constructor
       ·intro h; exact UInt8.toNat_inj.1 (by omega)
       ·intro h; rw [h]
      exact ⟨_, _, _, ⟨j + 1, rfl, hjl, rfl, rfl⟩, by omega, Mv.of [] rfl rfl rfl trivial (nx _ (key.trans ((Bool.false_or _).trans e8.symm)))⟩
    ·have e : o.take j = o := List.take_of_length_le (by omega)
     repeat (first | refine ⟨fun _ => ?_, fun h => absurd (of_decide_eq_false h) (by omega)⟩ | refine ⟨fun h => absurd (of_decide_eq_true h) (by omega), fun _ => ?_⟩ | refine ⟨fun _ => ?_, fun h => absurd (of_decide_eq_true h) (by omega)⟩ | refine ⟨fun h => absurd (of_decide_eq_false h) (by omega), fun _ => ?_⟩ | refine .inl ⟨⟨by omega, by omega⟩, ?_⟩ | refine ⟨⟨by omega, by omega⟩, ?_⟩)
     exact ⟨_, _, ⟨rfl, rfl⟩, Mv.of [] rfl rfl rfl trivial (out _ (by rw [e]))⟩
   ·by_cases hjl : j < o.length
    ·repeat (first | refine ⟨fun _ => ?_, fun h => absurd (of_decide_eq_false h) (by omega)⟩ | refine ⟨fun h => absurd (of_decide_eq_true h) (by omega), fun _ => ?_⟩ | refine ⟨fun _ => ?_, fun h => absurd (of_decide_eq_true h) (by omega)⟩ | refine ⟨fun h => absurd (of_decide_eq_false h) (by omega), fun _ => ?_⟩ | refine .inl ⟨⟨by omega, by omega⟩, ?_⟩ | refine ⟨⟨by omega, by omega⟩, ?_⟩)
     exact ⟨_, _, ⟨rfl, rfl⟩, Mv.of [] rfl rfl rfl trivial (out _ (by rw [decide_eq_false hk0]; rfl))⟩
    ·repeat (first | refine ⟨fun _ => ?_, fun h => absurd (of_decide_eq_false h) (by omega)⟩ | refine ⟨fun h => absurd (of_decide_eq_true h) (by omega), fun _ => ?_⟩ | refine ⟨fun _ => ?_, fun h => absurd (of_decide_eq_true h) (by omega)⟩ | refine ⟨fun h => absurd (of_decide_eq_false h) (by omega), fun _ => ?_⟩ | refine .inl ⟨⟨by omega, by omega⟩, ?_⟩ | refine ⟨⟨by omega, by omega⟩, ?_⟩)
     exact ⟨_, _, ⟨rfl, rfl⟩, Mv.of [] rfl rfl rfl trivial (out _ (by rw [decide_eq_false hk0]; rfl))⟩
  rintro _ _ ⟨rfl, rfl⟩
  have e1 : upto s o (k + 1) = (b0 || (decide (0 < k) && decide (c ∈ o))) := by
   rw [hst, ← hb0]; cases letB c <;> cases digB c <;> cases decide (0 < k) <;> simp
  generalize (b0 || (decide (0 < k) && decide (c ∈ o))) = b1 at *
  refine E.of Tryz.wf Tryz.tab_ok ?_
  cases b1 with
  | false =>
   repeat (first | refine ⟨fun _ => ?_, fun h => absurd h (by decide)⟩ | refine ⟨fun h => absurd h (by decide), fun _ => ?_⟩)
   exact ⟨_, _, fin_out rfl, (congrArg (fun b => AV.d (.bool b)) (upto_bad s o (k + 1) hlt e1)).symm, rfl⟩
  | true =>
   repeat (first | refine ⟨fun _ => ?_, fun h => absurd h (by decide)⟩ | refine ⟨fun h => absurd h (by decide), fun _ => ?_⟩)
   refine E.of Tryz.wf Tryz.tab_ok ?_
   repeat (first | refine ⟨fun _ => ?_, fun h => absurd (of_decide_eq_false h) (by omega)⟩ | refine ⟨fun h => absurd (of_decide_eq_true h) (by omega), fun _ => ?_⟩ | refine ⟨fun _ => ?_, fun h => absurd (of_decide_eq_true h) (by omega)⟩ | refine ⟨fun h => absurd (of_decide_eq_false h) (by omega), fun _ => ?_⟩ | refine .inl ⟨⟨by omega, by omega⟩, ?_⟩ | refine ⟨⟨by omega, by omega⟩, ?_⟩)
   exact ⟨_, _, _, ⟨k + 1, rfl, hlt, e1, rfl, rfl⟩, by omega, Mv.of [] rfl rfl rfl trivial ⟨rfl, rfl, rfl, trivial⟩⟩
 ·have hk' : k = s.length := by have := of_decide_eq_false h; omega
  subst hk'
  refine E.of Tryz.wf Tryz.tab_ok ?_
  refine ⟨_, _, fin_out rfl, congrArg (fun b => AV.d (.bool b)) ?_, rfl⟩
  rw [← upto_end, hI, Bool.true_and]
  cases s <;> simp
set_option maxRecDepth 100000 in
theorem Element_ok (s : List UInt8) (hs : s.length ≤ 4611686018427387904) : PureC Tryz.prog 32 [.d (.str s)] (.d (.bool (small s [45] && !rawB s))) := by
 refine pure_okT Tryz.wf Tryz.tab_ok Tryz.func32 (by decide +kernel) rfl rfl rfl rfl ?_
 have c1 := rRaw_ok s
 rw [rawV_fst] at c1
 refine PureC.use c1 (PureC.use (rname_ok s [45] hs (by decide)) ?_)
 generalize small s [45] = a
 generalize rawB s = b
 cases a
 all_goals
  repeat (first | refine ⟨fun _ => ?_, fun h => absurd h (by decide)⟩ | refine ⟨fun h => absurd h (by decide), fun _ => ?_⟩)
  exact ⟨_, _, fin_out rfl, rfl⟩
set_option maxRecDepth 100000 in
theorem Attribute_ok (s : List UInt8) (hs : s.length ≤ 4611686018427387904) : PureC Tryz.prog 58 [.d (.str s)] (.d (.bool (small s [45, 95, 58]))) := by
 refine pure_okT Tryz.wf Tryz.tab_ok Tryz.func58 (by decide +kernel) rfl rfl rfl rfl ?_
 exact PureC.use (rname_ok s [45, 95, 58] hs (by decide)) ⟨_, _, fin_out rfl, rfl⟩
def Short (l : List (List UInt8 × List UInt8)) : Prop := l.length ≤ 1000000000 ∧ ∀ a ∈ l, a.1.length ≤ 1000000000 ∧ a.2.length ≤ 1000000000
set_option maxRecDepth 100000 in
theorem rattrs_ok (l : List (List UInt8 × List UInt8)) (hl : Short l) : PureC Tryz.prog 33 [.d (.sl (attrsD l))] (.d (.bool (attrsFrom [] l))) := by
 refine pure_okT Tryz.wf Tryz.tab_ok Tryz.func33 (by decide +kernel) rfl rfl rfl rfl ?_
 have hn := attrsD_len l
 refine loopT Tryz.wf Tryz.tab_ok (fun n s' σ => ∃ k : Nat, n = l.length - k ∧ k ≤ l.length ∧ attrsFrom ((l.take k).map Prod.fst) (l.drop k) = attrsFrom [] l ∧ s' = [(0, .d (.sl (attrsD l))), (3, .d (.int .i64 k))] ∧ σ = ⟨0, []⟩)
  ⟨0, rfl, Nat.zero_le _, rfl, rfl, rfl⟩ (Mv.of [] rfl rfl rfl trivial ⟨rfl, rfl, trivial⟩) ?_
 rintro _ _ _ ⟨k, rfl, hk, hI, rfl, rfl⟩
 have hl1 := hl.1
 refine ⟨fun h => ?_, fun h => ?_⟩
 ·have hlt : k < l.length := by have := of_decide_eq_true h; rw [hn] at this; omega
  clear h
  rw [List.drop_eq_getElem_cons hlt, attrsFrom] at hI
  refine ⟨⟨by omega, by rw [hn]; omega⟩, _, attrsD_get l k hlt, rfl, _, rfl, ?_⟩
  refine PureC.use (Attribute_ok l[k].1 (by have := (hl.2 _ (List.getElem_mem hlt)).1; omega)) ?_
  have hsm : attrsFrom ((l.take (k + 1)).map Prod.fst) (l.drop (k + 1)) = attrsFrom ((l.take k).map Prod.fst ++ [l[k].1]) (l.drop (k + 1)) := by rw [List.take_succ_eq_append_getElem hlt, List.map_append]; rfl
  generalize small l[k].1 [45, 95, 58] = b1 at *
  cases b1 with
  | false =>
   repeat (first | refine ⟨fun _ => ?_, fun h => absurd h (by decide)⟩ | refine ⟨fun h => absurd h (by decide), fun _ => ?_⟩)
   exact ⟨_, _, fin_out rfl, congrArg (fun b => AV.d (.bool b)) (show false = attrsFrom [] l from hI)⟩
  | true =>
   repeat (first | refine ⟨fun _ => ?_, fun h => absurd h (by decide)⟩ | refine ⟨fun h => absurd h (by decide), fun _ => ?_⟩)
   refine loopT Tryz.wf Tryz.tab_ok (fun n s' σ => ∃ j : Nat, n = k - j ∧ j ≤ k ∧ l[k].1 ∉ (l.take j).map Prod.fst ∧ s' = [(0, .d (.sl (attrsD l))), (3, .d (.int .i64 k)), (4, .d (.int .i64 j))] ∧ σ = ⟨0, []⟩)
    ⟨0, rfl, Nat.zero_le _, by simp, rfl, rfl⟩ (Mv.of [] rfl rfl rfl trivial ⟨rfl, rfl, rfl, trivial⟩) ?_
   rintro _ _ _ ⟨j, rfl, hj, hJ, rfl, rfl⟩
   refine ⟨fun h => ?_, fun h => ?_⟩
   ·have hlt2 : j < k := by have := of_decide_eq_true h; omega
    have hlt3 : j < l.length := by omega
    clear h
    refine drawnT Tryz.wf Tryz.tab_ok Tryz.mixed (by decide +kernel) ?_
    repeat (first | refine qstep rfl rfl (FinMove.refl _ _ _) ?_ | refine qstep rfl rfl ⟨_, rfl, FinMove.refl _ _ _⟩ ?_)
    refine qstep rfl rfl ⟨⟨by omega, by rw [hn]; omega⟩, _, attrsD_get l k hlt, rfl, FinMove.refl _ _ _⟩ ?_
    repeat (first | refine qstep rfl rfl (FinMove.refl _ _ _) ?_ | refine qstep rfl rfl ⟨_, rfl, FinMove.refl _ _ _⟩ ?_)
    refine qstep rfl rfl ⟨⟨by omega, by rw [hn]; omega⟩, _, attrsD_get l j hlt3, rfl, FinMove.refl _ _ _⟩ ?_
    repeat (first | refine qstep rfl rfl (FinMove.refl _ _ _) ?_ | refine qstep rfl rfl ⟨_, rfl, FinMove.refl _ _ _⟩ ?_)
    refine ⟨fun h => ?_, fun h => ?_⟩
    ·have h' := of_decide_eq_true h
     have hm : l[k].1 ∈ (l.take k).map Prod.fst := by
      refine List.mem_map.2 ⟨l[j], ?_, h'.symm⟩
      rw [List.mem_iff_getElem]
      exact ⟨j, by simp; omega, by simp⟩
     rw [decide_eq_true hm] at hI
     exact ⟨_, _, fin_out rfl, congrArg (fun b => AV.d (.bool b)) (show false = attrsFrom [] l from hI)⟩
    ·have h' := of_decide_eq_false h
     repeat (first | refine ⟨fun _ => ?_, fun h => absurd (of_decide_eq_false h) (by omega)⟩ | refine ⟨fun h => absurd (of_decide_eq_true h) (by omega), fun _ => ?_⟩ | refine ⟨fun _ => ?_, fun h => absurd (of_decide_eq_true h) (by omega)⟩ | refine ⟨fun h => absurd (of_decide_eq_false h) (by omega), fun _ => ?_⟩ | refine .inl ⟨⟨by omega, by omega⟩, ?_⟩ | refine ⟨⟨by omega, by omega⟩, ?_⟩)
     refine ⟨_, _, _, ⟨j + 1, rfl, hlt2, ?_, rfl, rfl⟩, by omega, Mv.of [] rfl rfl rfl trivial ⟨rfl, rfl, rfl, trivial⟩⟩
     rw [List.take_succ_eq_append_getElem hlt3, List.map_append, List.mem_append, not_or]
     exact ⟨hJ, fun e => h' (List.mem_singleton.1 e)⟩
   ·have hj' : j = k := by have := of_decide_eq_false h; omega
    subst hj'
    repeat (first | refine ⟨fun _ => ?_, fun h => absurd (of_decide_eq_false h) (by omega)⟩ | refine ⟨fun h => absurd (of_decide_eq_true h) (by omega), fun _ => ?_⟩ | refine ⟨fun _ => ?_, fun h => absurd (of_decide_eq_true h) (by omega)⟩ | refine ⟨fun h => absurd (of_decide_eq_false h) (by omega), fun _ => ?_⟩ | refine .inl ⟨⟨by omega, by omega⟩, ?_⟩ | refine ⟨⟨by omega, by omega⟩, ?_⟩)
    refine ⟨_, _, _, ⟨j + 1, rfl, hlt, ?_, rfl, rfl⟩, by omega, Mv.of [] rfl rfl rfl trivial ⟨rfl, rfl, trivial⟩⟩
    rw [hsm, ← hI, decide_eq_false hJ]; rfl
 ·have hk' : k = l.length := by have := of_decide_eq_false h; rw [hn] at this; omega
  subst hk'
  refine ⟨_, _, fin_out rfl, congrArg (fun b => AV.d (.bool b)) ?_⟩
  rw [← hI, List.drop_length]; rfl
/-- A policy, as plain data. -/
structure Pol where
 ep : Int
 el : List (List UInt8)
 at' : List (List UInt8)
 sc : List (List UInt8)
 cl : List (List UInt8)
 pr : List (List UInt8)
 dp : Int
 nd : Int
 by' : Int
deriving DecidableEq
def polD (p : Pol) : List D := [.int .i64 p.ep, .sl (strsD p.el), .sl (strsD p.at'), .sl (strsD p.sc), .sl (strsD p.cl), .sl (strsD p.pr), .int .i64 p.dp, .int .i64 p.nd, .int .i64 p.by']
def polA (p : Pol) : AV := .agg ((polD p).map .d)
def FitsL (l : List (List UInt8)) : Prop := l.length ≤ 1000000 ∧ ∀ s ∈ l, s.length ≤ 1000000
structure Fits (p : Pol) : Prop where
 el : FitsL p.el
 at' : FitsL p.at'
 sc : FitsL p.sc
 cl : FitsL p.cl
 pr : FitsL p.pr
/-- The policy's own cell, and the cell of the function that looks into its elements. -/
def boxO (p : Pol) : Ob := .rows (9, 24) [(polD p).map .d]
theorem box_pure (p : Pol) : ∀ row ∈ [(polD p).map AV.d], pureL row = true := fun row h => by rw [List.mem_singleton.1 h]; rfl
set_option maxRecDepth 100000 in
theorem rHas_ok (l : List (List UInt8)) (v : List UInt8) (hl : l.length ≤ 4611686018427387903) : PureC Tryz.prog 22 [.d (.sl (strsD l)), .d (.str v)] (.d (.bool (decide (v ∈ l)))) := by
 refine pure_okT Tryz.wf Tryz.tab_ok Tryz.func22 (by decide +kernel) rfl rfl rfl rfl ?_
 have hn := strsD_len l
 refine wR (k := ?_)
 refine loopT Tryz.wf Tryz.tab_ok (fun n s' σ => ∃ k : Nat, n = l.length - k ∧ k ≤ l.length ∧ v ∉ l.take k ∧ s' = [(0, .d (.sl (strsD l))), (1, .d (.str v)), (5, .d (.int .i64 k))] ∧ σ = ⟨0, []⟩)
  ⟨0, rfl, Nat.zero_le _, by simp, rfl, rfl⟩ (Mv.of [] rfl rfl rfl trivial ⟨rfl, rfl, rfl, trivial⟩) ?_
 rintro _ _ _ ⟨k, rfl, hk, hI, rfl, rfl⟩
 refine ⟨fun h => ?_, fun h => ?_⟩
 ·have hlt : k < l.length := by have := of_decide_eq_true h; omega
  clear h
  have hg := strsD_get l k hlt
  repeat' (first |                        refine ⟨fun _ => ?_, fun h => absurd h (by decide)⟩ | refine ⟨fun h => absurd h (by decide), fun _ => ?_⟩ | (refine ⟨fun h => ?_, fun h => ?_⟩ <;> (try simp only [wS, List.length_cons, List.length_nil] at h) <;> (try exact wX h)) | refine ⟨⟨oB, oB⟩, _, by assumption, by rfl, ?_⟩ | refine .inl ⟨⟨oB, oB⟩, ?_⟩ | refine ⟨⟨oB, oB⟩, ?_⟩ | refine ⟨⟨oB, oB, oB⟩, ?_⟩ | refine ⟨.inl rfl, ?_⟩ | refine ⟨.inr (.inl oB), ?_⟩ | refine ⟨_, rfl, rfl, oL, ?_⟩ | refine ⟨_, rfl, oL, ?_⟩ | refine ⟨oL, ?_⟩ | refine ⟨show _ ≤ (9223372036854775807 : Nat) from oB, ?_⟩ | refine ⟨show _ ≠ (0 : Int) from oB, ?_⟩ | refine ⟨_, rfl, _, rfl, ?_⟩ | refine ⟨_, by assumption, Nat.le_of_ble_eq_true rfl, ?_⟩ | refine ⟨_, by assumption, _, rfl, ?_⟩ | refine ⟨_, rfl, ?_⟩ | fail)
  ·exact ⟨_, _, fin_out rfl, congrArg (fun b => AV.d (.bool b)) (decide_eq_true (h ▸ List.getElem_mem hlt)).symm⟩
  ·refine ⟨_, _, _, ⟨k + 1, rfl, hlt, ?_, rfl, rfl⟩, by omega, Mv.of [] rfl rfl rfl trivial ⟨rfl, rfl, rfl, trivial⟩⟩
   rw [List.take_succ_eq_append_getElem hlt]
   simp only [List.mem_append, not_or, List.mem_singleton]
   exact ⟨hI, fun e => h e.symm⟩
 ·have hk' : k = l.length := by have := of_decide_eq_false h; omega
  subst hk'
  rw [List.take_length] at hI
  exact ⟨_, _, fin_out rfl, congrArg (fun b => AV.d (.bool b)) (decide_eq_false hI).symm⟩
def sp (c : UInt8) : Bool := decide (c.toNat ≤ 32)
def trimL (s : List UInt8) : List UInt8 := s.dropWhile sp
def trimR (s : List UInt8) : List UInt8 := (s.reverse.dropWhile sp).reverse
def kept (c : UInt8) : Bool := !(decide (c.toNat = 9) || decide (c.toNat = 10) || decide (c.toNat = 13))
def bare (s : List UInt8) : List UInt8 := (trimR (trimL s)).filter kept
theorem trimR_snoc (t : List UInt8) (c : UInt8) : trimR (t ++ [c]) = if sp c then trimR t else t ++ [c] := by
 unfold trimR
 rw [List.reverse_append]
 simp only [List.reverse_cons, List.reverse_nil, List.nil_append, List.singleton_append, List.dropWhile_cons]
 split <;> simp
theorem split_last (t : List UInt8) (h : t ≠ []) : t = t.take (t.length - 1) ++ [t.getD (t.length - 1) 0] := by
 have hl : t.length - 1 < t.length := by have := List.length_pos_iff.2 h; omega
 have := List.take_succ_eq_append_getElem hl
 rw [List.getD_eq_getElem?_getD, List.getElem?_eq_getElem hl, Option.getD_some, ← this, List.take_of_length_le (by omega)]
set_option maxRecDepth 10000 in
theorem Bare_ok (s : List UInt8) (hs : s.length ≤ 9223372036854775807) (hs2 : s.length ≤ 140737488355328) : PureC Tryz.prog 53 [.d (.str s)] (.d (.str (bare s))) := by
  refine PureC.of rfl rfl (fn_okTE Tryz.wf Tryz.tab_ok Tryz.func53 (by decide +kernel) rfl rfl ?_)
  refine E.seq (E.of Tryz.wf Tryz.tab_ok ?_)
  refine scopeE ?_
  refine midT Tryz.wf Tryz.tab_ok (fun s' σ => ∃ t : List UInt8, t.length ≤ s.length ∧ t = trimL s ∧ s' = [(0, .d (.str t))] ∧ σ = ⟨0, []⟩) ?_ ?_
  · refine loopT Tryz.wf Tryz.tab_ok (fun n s' σ => ∃ t : List UInt8, n = t.length ∧ t.length ≤ s.length ∧ trimL t = trimL s ∧ s' = [(0, .d (.str t))] ∧ σ = ⟨0, []⟩) ⟨s, rfl, Nat.le_refl _, rfl, rfl, rfl⟩ (Mv.of [] rfl rfl rfl trivial ⟨rfl, trivial⟩) ?_
    rintro _ _ _ ⟨t, rfl, hl, ht, rfl, rfl⟩
    refine ⟨fun h => ?_, fun h => ?_⟩
    · have h' : t ≠ [] := by intro e; subst e; exact absurd h (by decide)
      obtain ⟨c, r, rfl⟩ : ∃ c r, t = c :: r := by cases t with | nil => exact absurd rfl h' | cons c r => exact ⟨c, r, rfl⟩
      refine ⟨⟨by omega, by simp⟩, ⟨fun h2 => ?_, fun h2 => ?_⟩⟩
      · have hsp : sp c = true := by have := of_decide_eq_true h2; simp [sp] at this ⊢; omega
        refine ⟨⟨by omega, by simp; omega, by simp⟩, _, _, _, ⟨r, rfl, by simp at hl; omega, ?_, rfl, rfl⟩, by simp, Mv.of [] rfl rfl rfl trivial ⟨?_, trivial⟩⟩
        · rw [← ht]; simp [trimL, List.dropWhile_cons, hsp]
        · exact congrArg D.str (by simp)
      · have hsp : sp c = false := by have := of_decide_eq_false h2; simp [sp] at this ⊢; omega
        refine ⟨_, _, ⟨c :: r, hl, ?_, rfl, rfl⟩, Mv.of [] rfl rfl rfl trivial ⟨rfl, trivial⟩⟩
        rw [← ht]; simp [trimL, List.dropWhile_cons, hsp]
    · have h' : t = [] := by have : decide (t = []) = true := by simpa using h
                             exact of_decide_eq_true this
      subst h'
      exact ⟨_, _, ⟨[], Nat.zero_le _, ht, rfl, rfl⟩, Mv.of [] rfl rfl rfl trivial ⟨rfl, trivial⟩⟩
  rintro _ _ ⟨t0, hl0, rfl, rfl, rfl⟩
  refine midT Tryz.wf Tryz.tab_ok (fun s' σ => ∃ t : List UInt8, t.length ≤ s.length ∧ t = trimR (trimL s) ∧ s' = [(0, .d (.str t))] ∧ σ = ⟨0, []⟩) ?_ ?_
  · refine loopT Tryz.wf Tryz.tab_ok (fun n s' σ => ∃ t : List UInt8, n = t.length ∧ t.length ≤ s.length ∧ trimR t = trimR (trimL s) ∧ s' = [(0, .d (.str t))] ∧ σ = ⟨0, []⟩) ⟨trimL s, rfl, hl0, rfl, rfl, rfl⟩ (Mv.of [] rfl rfl rfl trivial ⟨rfl, trivial⟩) ?_
    rintro _ _ _ ⟨t, rfl, hl, ht, rfl, rfl⟩
    refine ⟨fun h => ?_, fun h => ?_⟩
    · have h' : t ≠ [] := by intro e; subst e; exact absurd h (by decide)
      have hpos := List.length_pos_iff.2 h'
      have e1 : ((t.length : Int) - 1).toNat = t.length - 1 := by omega
      refine .inl ⟨⟨by omega, by omega⟩, ⟨by omega, by omega⟩, ⟨fun h2 => ?_, fun h2 => ?_⟩⟩
      · have hsp : sp (t.getD (t.length - 1) 0) = true := by have := of_decide_eq_true h2; rw [e1] at this; simp [sp] at this ⊢; omega
        refine .inl ⟨⟨by omega, by omega⟩, ⟨by omega, by omega, by omega⟩, _, _, _, ⟨t.take (t.length - 1), rfl, by simp; omega, ?_, rfl, rfl⟩, by simp; omega, Mv.of [] rfl rfl rfl trivial ⟨?_, trivial⟩⟩
        · have := trimR_snoc (t.take (t.length - 1)) (t.getD (t.length - 1) 0)
          rw [← split_last t h', hsp] at this
          rw [if_pos rfl] at this
          rw [← this]; exact ht
        · exact congrArg D.str (by rw [e1]; rfl)
      · have hsp : sp (t.getD (t.length - 1) 0) = false := by have := of_decide_eq_false h2; rw [e1] at this; simp [sp] at this ⊢; omega
        refine ⟨_, _, ⟨t, hl, ?_, rfl, rfl⟩, Mv.of [] rfl rfl rfl trivial ⟨rfl, trivial⟩⟩
        have := trimR_snoc (t.take (t.length - 1)) (t.getD (t.length - 1) 0)
        rw [← split_last t h', hsp] at this
        rw [← ht, this]; rfl
    · have h' : t = [] := by have : decide (t = []) = true := by simpa using h
                             exact of_decide_eq_true this
      subst h'
      exact ⟨_, _, ⟨[], Nat.zero_le _, ht, rfl, rfl⟩, Mv.of [] rfl rfl rfl trivial ⟨rfl, trivial⟩⟩
  rintro _ _ ⟨t, hl, ht, rfl, rfl⟩
  refine E.of Tryz.wf Tryz.tab_ok ?_
  refine loopT Tryz.wf Tryz.tab_ok (fun n s' σ => ∃ k : Nat, n = t.length - k ∧ k ≤ t.length ∧ s' = [(0, .d (.str t)), (3, .ref 0 0 0), (30, .d (.int .i64 t.length)), (31, .d (.int .i64 k))] ∧ σ = ⟨1, [(0, .bld 75 5 ((t.take k).filter kept))]⟩)
    ⟨0, rfl, Nat.zero_le _, rfl, rfl⟩ (Mv.of [.old 0] rfl rfl rfl ⟨⟨rfl, rfl, rfl⟩, trivial⟩ ⟨rfl, ⟨rfl, rfl, rfl⟩, rfl, rfl, trivial⟩) ?_
  rintro _ _ _ ⟨k, rfl, hk, rfl, rfl⟩
  refine ⟨fun h => ?_, fun h => ?_⟩
  · have hlt : k < t.length := by have := of_decide_eq_true h; omega
    have hg : t.getD ((k : Nat) : Int).toNat 0 = t[k] := by rw [Int.toNat_natCast, List.getD_eq_getElem?_getD, List.getElem?_eq_getElem hlt, Option.getD_some]
    have step : ∀ b, kept t[k] = b → (t.take (k + 1)).filter kept = (t.take k).filter kept ++ (if b then [t[k]] else []) := by
      intro b hb
      rw [List.take_succ_eq_append_getElem hlt, List.filter_append]
      cases b <;> simp [hb]
    have skip : ∀ {s0 : St} {σ0 : Store}, kept t[k] = false → True := fun _ => trivial
    refine ⟨⟨by omega, by omega⟩, ⟨fun h9 => ?_, fun h9 => ?_⟩⟩
    · have hkp : kept t[k] = false := by have := of_decide_eq_true h9; rw [hg] at this; simp [kept]; omega
      refine .inl ⟨⟨by omega, by omega⟩, _, _, _, ⟨k + 1, rfl, hlt, rfl, rfl⟩, by omega, Mv.of [.old 0] rfl rfl rfl ⟨⟨rfl, rfl, ?_⟩, trivial⟩ ⟨rfl, ⟨rfl, rfl, rfl⟩, rfl, rfl, trivial⟩⟩
      rw [step _ hkp]; simp
    · refine ⟨fun h10 => ?_, fun h10 => ?_⟩
      · have hkp : kept t[k] = false := by have := of_decide_eq_true h10; rw [hg] at this; simp [kept]; omega
        refine .inl ⟨⟨by omega, by omega⟩, _, _, _, ⟨k + 1, rfl, hlt, rfl, rfl⟩, by omega, Mv.of [.old 0] rfl rfl rfl ⟨⟨rfl, rfl, ?_⟩, trivial⟩ ⟨rfl, ⟨rfl, rfl, rfl⟩, rfl, rfl, trivial⟩⟩
        rw [step _ hkp]; simp
      · refine ⟨fun h13 => ?_, fun h13 => ?_⟩
        · have hkp : kept t[k] = false := by have := of_decide_eq_true h13; rw [hg] at this; simp [kept]; omega
          refine .inl ⟨⟨by omega, by omega⟩, _, _, _, ⟨k + 1, rfl, hlt, rfl, rfl⟩, by omega, Mv.of [.old 0] rfl rfl rfl ⟨⟨rfl, rfl, ?_⟩, trivial⟩ ⟨rfl, ⟨rfl, rfl, rfl⟩, rfl, rfl, trivial⟩⟩
          rw [step _ hkp]; simp
        · have hkp : kept t[k] = true := by
            have h1 := of_decide_eq_false h9; have h2 := of_decide_eq_false h10; have h3 := of_decide_eq_false h13
            rw [hg] at h1 h2 h3; simp [kept]; omega
          have hlen : ((t.take k).filter kept).length ≤ k := Nat.le_trans (List.length_filter_le _ _) (by simp; omega)
          refine ⟨⟨by omega, by omega⟩, CallsAbs.frame (WriteByte_ok ((t.take k).filter kept) (t.getD ((k : Nat) : Int).toNat 0) (by omega)) [.old 0] ⟨Nat.zero_le _, rfl, rfl, ⟨⟨rfl, rfl, rfl⟩, trivial⟩⟩ ⟨⟨rfl, rfl, rfl⟩, rfl, trivial⟩ ?_⟩
          rintro _ _ ⟨rfl, rfl⟩
          refine ⟨.nili, [(0, .bld 75 5 ((t.take (k + 1)).filter kept))], ⟨⟨rfl, rfl, ?_⟩, trivial⟩, rfl, trivial, ?_⟩
          · rw [step _ hkp, hg]; rfl
          · exact .inl ⟨⟨by omega, by omega⟩, _, _, _, ⟨k + 1, rfl, hlt, rfl, rfl⟩, by omega, Mv.of [.old 0] rfl rfl rfl ⟨⟨rfl, rfl, rfl⟩, trivial⟩ ⟨rfl, ⟨rfl, rfl, rfl⟩, rfl, rfl, trivial⟩⟩
  · have hk' : k = t.length := by have := of_decide_eq_false h; omega
    subst hk'
    rw [List.take_length]
    have hlen : (t.filter kept).length ≤ t.length := List.length_filter_le _ _
    refine CallsAbs.frame (String_ok (t.filter kept) (by omega)) [.old 0] ⟨Nat.zero_le _, rfl, rfl, ⟨⟨rfl, rfl, rfl⟩, trivial⟩⟩ ⟨⟨rfl, rfl, rfl⟩, trivial⟩ ?_
    rintro _ _ ⟨rfl, rfl⟩
    refine ⟨.d (.str (t.filter kept)), [(0, .dead)], ⟨trivial, trivial⟩, rfl, rfl, ?_⟩
    refine ⟨.d (.str (bare s)), ⟨0, []⟩, fin_mv [] rfl rfl rfl trivial ?_, rfl, rfl⟩
    exact congrArg D.str (by rw [bare, ← ht])
theorem trimL_drop (s : List UInt8) (k : Nat) (h : k < s.length) : trimL (s.drop k) = if sp s[k] then trimL (s.drop (k + 1)) else s.drop k := by
 unfold trimL
 rw [List.drop_eq_getElem_cons h, List.dropWhile_cons]
theorem cut_snoc (s : List UInt8) (k e : Nat) (h1 : k < e) (h2 : e ≤ s.length) : (s.take e).drop k = (s.take (e - 1)).drop k ++ [s[e - 1]] := by
 have h3 : e - 1 < s.length := by omega
 have := List.take_succ_eq_append_getElem h3
 rw [show e - 1 + 1 = e by omega] at this
 rw [this, List.drop_append_of_le_length (by simp; omega)]
theorem cut_snoc1 (s : List UInt8) (k i : Nat) (h1 : k ≤ i) (h2 : i < s.length) : (s.take (i + 1)).drop k = (s.take i).drop k ++ [s[i]] := by
 rw [List.take_succ_eq_append_getElem h2, List.drop_append_of_le_length (by simp; omega)]
set_option maxRecDepth 10000 in
theorem rBare_ok (s : List UInt8) (hs : s.length ≤ 4611686018427387903) : PureC Tryz.prog 64 [.d (.str s)] (.d (.str (bare s))) := by
 refine PureC.of rfl rfl (fn_okTE Tryz.wf Tryz.tab_ok Tryz.func64 (by decide +kernel) rfl rfl ?_)
 refine E.seq (E.of Tryz.wf Tryz.tab_ok ?_)
 refine E.seq (E.of Tryz.wf Tryz.tab_ok ?_)
 refine midT Tryz.wf Tryz.tab_ok (fun s' σ => ∃ k : Nat, k ≤ s.length ∧ s.drop k = trimL s ∧ s' = [(0, .d (.str s)), (3, .d (.int .i64 k))] ∧ σ = ⟨0, []⟩) ?_ ?_
 ·refine loopT Tryz.wf Tryz.tab_ok (fun n s' σ => ∃ k : Nat, n = s.length - k ∧ k ≤ s.length ∧ trimL (s.drop k) = trimL s ∧ s' = [(0, .d (.str s)), (3, .d (.int .i64 k))] ∧ σ = ⟨0, []⟩) ⟨0, rfl, Nat.zero_le _, rfl, rfl, rfl⟩ (Mv.of [] rfl rfl rfl trivial ⟨rfl, rfl, trivial⟩) ?_
  rintro _ _ _ ⟨k, rfl, hk, ht, rfl, rfl⟩
  refine ⟨fun h => ?_, fun h => ?_⟩
  ·have hlt : k < s.length := by have := of_decide_eq_true h; omega
   rw [trimL_drop s k hlt] at ht
   refine ⟨⟨by omega, by omega⟩, ⟨fun h2 => ?_, fun h2 => ?_⟩⟩
   ·have h3 := of_decide_eq_true h2
    rw [getD_at s k hlt] at h3
    have hsp : sp s[k] = true := by simp [sp]; omega
    rw [if_pos hsp] at ht
    exact .inl ⟨⟨by omega, by omega⟩, _, _, _, ⟨k + 1, rfl, hlt, ht, rfl, rfl⟩, by omega, Mv.of [] rfl rfl rfl trivial ⟨rfl, rfl, trivial⟩⟩
   ·have h3 := of_decide_eq_false h2
    rw [getD_at s k hlt] at h3
    have hsp : ¬ sp s[k] = true := by simp [sp]; omega
    rw [if_neg hsp] at ht
    exact ⟨_, _, ⟨k, hk, ht, rfl, rfl⟩, Mv.of [] rfl rfl rfl trivial ⟨rfl, rfl, trivial⟩⟩
  ·have hk' : k = s.length := by have := of_decide_eq_false h; omega
   subst hk'
   refine ⟨_, _, ⟨s.length, hk, ?_, rfl, rfl⟩, Mv.of [] rfl rfl rfl trivial ⟨rfl, rfl, trivial⟩⟩
   rw [← ht]; simp [trimL]
 rintro _ _ ⟨k, hk, hkt, rfl, rfl⟩
 refine E.seq (E.of Tryz.wf Tryz.tab_ok ?_)
 refine midT Tryz.wf Tryz.tab_ok (fun s' σ => ∃ e : Nat, k ≤ e ∧ e ≤ s.length ∧ (s.take e).drop k = trimR (trimL s) ∧ s' = [(0, .d (.str s)), (3, .d (.int .i64 k)), (4, .d (.int .i64 e))] ∧ σ = ⟨0, []⟩) ?_ ?_
 ·refine loopT Tryz.wf Tryz.tab_ok (fun n s' σ => ∃ e : Nat, n = 0 + e ∧ k ≤ e ∧ e ≤ s.length ∧ trimR ((s.take e).drop k) = trimR (trimL s) ∧ s' = [(0, .d (.str s)), (3, .d (.int .i64 k)), (4, .d (.int .i64 e))] ∧ σ = ⟨0, []⟩) ⟨s.length, rfl, hk, Nat.le_refl _, by rw [List.take_length, hkt], rfl, rfl⟩ (Mv.of [] rfl rfl rfl trivial ⟨rfl, rfl, rfl, trivial⟩) ?_
  rintro _ _ _ ⟨e, rfl, hke, he, ht, rfl, rfl⟩
  refine ⟨fun h => ?_, fun h => ?_⟩
  ·have hlt : k < e := by have := of_decide_eq_true h; omega
   have e1 : ((e : Nat) : Int) - 1 = ((e - 1 : Nat) : Int) := by omega
   have hget := getD_at s (e - 1) (by omega)
   rw [← e1] at hget
   refine .inl ⟨⟨by omega, by omega⟩, ⟨by omega, by omega⟩, ⟨fun h2 => ?_, fun h2 => ?_⟩⟩
   ·have h3 := of_decide_eq_true h2
    rw [hget] at h3
    have hsp : sp s[e - 1] = true := by simp [sp]; omega
    rw [cut_snoc s k e hlt he, trimR_snoc, if_pos hsp] at ht
    exact .inl ⟨⟨by omega, by omega⟩, _, _, _, ⟨e - 1, rfl, by omega, by omega, ht, rfl, rfl⟩, by omega, Mv.of [] rfl rfl rfl trivial ⟨rfl, rfl, congrArg (D.int .i64) e1.symm, trivial⟩⟩
   ·have h3 := of_decide_eq_false h2
    rw [hget] at h3
    have hsp : ¬ sp s[e - 1] = true := by simp [sp]; omega
    rw [cut_snoc s k e hlt he, trimR_snoc, if_neg hsp, ← cut_snoc s k e hlt he] at ht
    exact ⟨_, _, ⟨e, hke, he, ht, rfl, rfl⟩, Mv.of [] rfl rfl rfl trivial ⟨rfl, rfl, rfl, trivial⟩⟩
  ·have hk' : e = k := by have := of_decide_eq_false h; omega
   subst hk'
   refine ⟨_, _, ⟨e, hke, he, ?_, rfl, rfl⟩, Mv.of [] rfl rfl rfl trivial ⟨rfl, rfl, rfl, trivial⟩⟩
   have h0 : (s.take e).drop e = [] := List.drop_eq_nil_of_le (by simp; omega)
   rw [h0] at ht ⊢
   rw [← ht]; rfl
 rintro _ _ ⟨e, hke, he, het, rfl, rfl⟩
 refine E.of Tryz.wf Tryz.tab_ok ?_
 refine loopT Tryz.wf Tryz.tab_ok (fun n s' σ => ∃ i : Nat, n = e - i ∧ k ≤ i ∧ i ≤ e ∧ s' = [(0, .d (.str s)), (4, .d (.int .i64 e)), (5, .d (.str (((s.take i).drop k).filter kept))), (6, .d (.int .i64 i))] ∧ σ = ⟨0, []⟩)
  ⟨k, rfl, Nat.le_refl _, hke, rfl, rfl⟩ (Mv.of [] rfl rfl rfl trivial ⟨rfl, rfl, congrArg D.str (by rw [List.drop_eq_nil_of_le (by simp; omega)]; rfl), rfl, trivial⟩) ?_
 rintro _ _ _ ⟨i, rfl, hki, hie, rfl, rfl⟩
 refine ⟨fun h => ?_, fun h => ?_⟩
 ·have hlt : i < e := by have := of_decide_eq_true h; omega
  have hg := getD_at s i (by omega)
  have step : ∀ b, kept s[i] = b → ((s.take (i + 1)).drop k).filter kept = ((s.take i).drop k).filter kept ++ (if b then [s[i]] else []) := by
   intro b hb
   rw [cut_snoc1 s k i hki (by omega), List.filter_append]
   cases b <;> simp [hb]
  refine ⟨⟨by omega, by omega⟩, ⟨fun h9 => ?_, fun h9 => ?_⟩⟩
  ·refine ⟨⟨by omega, by omega⟩, ⟨fun h10 => ?_, fun h10 => ?_⟩⟩
   ·refine ⟨⟨by omega, by omega⟩, ⟨fun h13 => ?_, fun h13 => ?_⟩⟩
    ·have hkp : kept s[i] = true := by
      rw [hg] at h9 h10 h13
      simp at h9 h10 h13
      simp [kept]; omega
     have hlen : (((s.take i).drop k).filter kept).length ≤ s.length := Nat.le_trans (List.length_filter_le _ _) (by simp; omega)
     have e2 : ((s.take ((i : Int) + 1).toNat).drop ((i : Nat) : Int).toNat) = [s[i]] := by
      rw [Int.toNat_natCast, show ((i : Int) + 1).toNat = i + 1 by omega, cut_snoc1 s i i (Nat.le_refl _) (by omega)]
      simp
     refine .inl ⟨⟨by omega, by omega⟩, ⟨by omega, by omega, by omega⟩, ?_, .inl ⟨⟨by omega, by omega⟩, _, _, _, ⟨i + 1, rfl, by omega, hlt, rfl, rfl⟩, by omega, Mv.of [] rfl rfl rfl trivial ⟨rfl, rfl, congrArg D.str ?_, rfl, trivial⟩⟩⟩
     ·rw [e2]; simp; omega
     ·rw [step _ hkp]; show _ = _ ++ _; rw [e2]; rfl
    ·have hkp : kept s[i] = false := by
      rw [hg] at h13
      simp at h13
      simp [kept]; omega
     exact .inl ⟨⟨by omega, by omega⟩, _, _, _, ⟨i + 1, rfl, by omega, hlt, rfl, rfl⟩, by omega, Mv.of [] rfl rfl rfl trivial ⟨rfl, rfl, congrArg D.str (by rw [step _ hkp]; simp), rfl, trivial⟩⟩
   ·have hkp : kept s[i] = false := by
     rw [hg] at h10
     simp at h10
     simp [kept]; omega
    exact .inl ⟨⟨by omega, by omega⟩, _, _, _, ⟨i + 1, rfl, by omega, hlt, rfl, rfl⟩, by omega, Mv.of [] rfl rfl rfl trivial ⟨rfl, rfl, congrArg D.str (by rw [step _ hkp]; simp), rfl, trivial⟩⟩
  ·have hkp : kept s[i] = false := by
    rw [hg] at h9
    simp at h9
    simp [kept]; omega
   exact .inl ⟨⟨by omega, by omega⟩, _, _, _, ⟨i + 1, rfl, by omega, hlt, rfl, rfl⟩, by omega, Mv.of [] rfl rfl rfl trivial ⟨rfl, rfl, congrArg D.str (by rw [step _ hkp]; simp), rfl, trivial⟩⟩
 ·have hie' : i = e := by have := of_decide_eq_false h; omega
  subst hie'
  refine ⟨.d (.str (bare s)), ⟨0, []⟩, fin_mv [] rfl rfl rfl trivial (congrArg D.str ?_), rfl, rfl⟩
  rw [bare, ← het]
def letter (c : UInt8) : Bool := decide (97 ≤ c.toNat) && decide (c.toNat ≤ 122)
def tailc (c : UInt8) : Bool := (decide (48 ≤ c.toNat) && decide (c.toNat ≤ 57)) || decide (c.toNat = 43) || decide (c.toNat = 45) || decide (c.toNat = 46)
def scan (acc : List UInt8) : List UInt8 → Option (List UInt8)
 | [] => none
 | c :: r => if letter c then scan (acc ++ [c]) r else if acc = [] then none else if c.toNat = 58 then some acc else if tailc c then scan (acc ++ [c]) r else none
def schemeO (s : List UInt8) : Option (List UInt8) := scan [] (lower (bare s))
def schemeS (s : List UInt8) : List UInt8 := (schemeO s).getD []
def schemeB (s : List UInt8) : Bool := (schemeO s).isSome
theorem bare_len (s : List UInt8) : (bare s).length ≤ s.length := by
 have h1 : (trimL s).length ≤ s.length := (List.dropWhile_suffix _).length_le
 have h2 : (trimR (trimL s)).length ≤ (trimL s).length := by
  unfold trimR
  rw [List.length_reverse]
  exact Nat.le_trans (List.dropWhile_suffix _).length_le (by simp)
 exact Nat.le_trans (List.length_filter_le _ _) (Nat.le_trans h2 h1)
theorem lower_len (s : List UInt8) : (lower s).length = s.length := by simp [lower]
/-- What the scan does at a place. -/
theorem scan_at (b : List UInt8) (k : Nat) (h : k < b.length) : scan (b.take k) (b.drop k) =
  if letter b[k] then scan (b.take (k + 1)) (b.drop (k + 1)) else if k = 0 then none else if b[k].toNat = 58 then some (b.take k) else if tailc b[k] then scan (b.take (k + 1)) (b.drop (k + 1)) else none := by
 rw [List.drop_eq_getElem_cons h, scan, ← List.take_succ_eq_append_getElem h]
 have : b.take k = [] ↔ k = 0 := by
  rw [List.take_eq_nil_iff]
  constructor
  ·rintro (h | h)
   ·exact h
   ·subst h; simp at h
  ·exact .inl
 simp only [this]
theorem scan_end (b : List UInt8) : scan (b.take b.length) (b.drop b.length) = none := by
 rw [List.drop_length]; rfl
def schemeV (s : List UInt8) : AV := .tup [.d (.str (schemeS s)), .d (.bool (schemeB s))]
theorem schemeV_none {s : List UInt8} (h : schemeO s = none) : schemeV s = .tup [.d (.str []), .d (.bool false)] := by simp [schemeV, schemeS, schemeB, h]
theorem schemeV_some {s x : List UInt8} (h : schemeO s = some x) : schemeV s = .tup [.d (.str x), .d (.bool true)] := by simp [schemeV, schemeS, schemeB, h]
set_option maxRecDepth 10000 in
theorem Scheme_ok (s : List UInt8) (hs : s.length ≤ 140737488355328) : PureC Tryz.prog 52 [.d (.str s)] (schemeV s) := by
 refine pure_okT Tryz.wf Tryz.tab_ok Tryz.func52 (by decide +kernel) rfl rfl rfl rfl ?_
 refine PureC.use (Bare_ok s (by omega) hs) (PureC.use (Lower_ok (bare s) (by have := bare_len s; omega)) ?_)
 generalize hb : lower (bare s) = b
 have hO : schemeO s = scan [] b := by rw [schemeO, hb]
 have hbl : b.length ≤ 140737488355328 := by rw [← hb, lower_len]; have := bare_len s; omega
 refine loopT Tryz.wf Tryz.tab_ok (fun n s' σ => ∃ k : Nat, n = b.length - k ∧ k ≤ b.length ∧ schemeO s = scan (b.take k) (b.drop k) ∧ s' = [(4, .d (.str b)), (11, .d (.int .i64 b.length)), (12, .d (.int .i64 k))] ∧ σ = ⟨0, []⟩)
  ⟨0, rfl, Nat.zero_le _, hO, rfl, rfl⟩ (Mv.of [] rfl rfl rfl trivial ⟨rfl, rfl, rfl, trivial⟩) ?_
 rintro _ _ _ ⟨k, rfl, hk, hI, rfl, rfl⟩
 have no : schemeO s = none → ∃ r2 σ2, FinMove ⟨0, []⟩ (.tup [.d (.str []), .d (.bool false)]) ⟨0, []⟩ r2 σ2 ∧ r2 = schemeV s := fun h => ⟨_, _, FinMove.refl _ _ _, (schemeV_none h).symm⟩
 refine ⟨fun h => ?_, fun h => ?_⟩
 ·have hlt : k < b.length := by have := of_decide_eq_true h; omega
  have hg := getD_at b k hlt
  have hu := b[k].toNat_lt
  rw [scan_at b k hlt] at hI
  have go : schemeO s = scan (b.take (k + 1)) (b.drop (k + 1)) → (∃ k' : Nat, b.length - (k + 1) = b.length - k' ∧ k' ≤ b.length ∧ schemeO s = scan (b.take k') (b.drop k') ∧ [(4, .d (.str b)), (11, .d (.int .i64 b.length)), (12, .d (.int .i64 ((k + 1 : Nat) : Int)))] = [(4, AV.d (.str b)), (11, .d (.int .i64 b.length)), (12, .d (.int .i64 k'))] ∧ (⟨0, []⟩ : Store) = ⟨0, []⟩) :=
   fun h => ⟨k + 1, rfl, hlt, h, rfl, rfl⟩
  -- behind the test for a letter
  have rest : letter b[k] = false → schemeO s = if k = 0 then none else if b[k].toNat = 58 then some (b.take k) else if tailc b[k] then scan (b.take (k + 1)) (b.drop (k + 1)) else none := fun hle => by rw [hI]; simp [hle]
  have hT : ∀ {p : Int → Prop} [DecidablePred p], decide (p ((b.getD ((k : Nat) : Int).toNat 0).toNat : Int)) = true → p (b[k].toNat : Int) := fun {p} _ h => by rw [hg] at h; exact of_decide_eq_true h
  have hF : ∀ {p : Int → Prop} [DecidablePred p], decide (p ((b.getD ((k : Nat) : Int).toNat 0).toNat : Int)) = false → ¬ p (b[k].toNat : Int) := fun {p} _ h => by rw [hg] at h; exact of_decide_eq_false h
  refine ⟨⟨by omega, by omega⟩, ⟨fun h1 => ⟨fun h2 => ?_, fun h2 => ?_⟩, fun h1 => ?_⟩⟩
  ·have h1' := hT (p := fun x => 97 ≤ x) h1
   have h2' := hT (p := fun x => x ≤ 122) h2
   have hle : letter b[k] = true := by simp [letter]; omega
   rw [if_pos hle] at hI
   exact .inl ⟨⟨by omega, by omega⟩, _, _, _, go hI, by omega, Mv.of [] rfl rfl rfl trivial ⟨rfl, rfl, rfl, trivial⟩⟩
  all_goals
   have hr := rest (by first | (have := hT (p := fun x => 97 ≤ x) h1; have := hF (p := fun x => x ≤ 122) h2; simp [letter]; omega) | (have := hF (p := fun x => 97 ≤ x) h1; simp [letter]; omega))
   refine ⟨fun h0 => ?_, fun h0 => ?_⟩
   ·have h0' := of_decide_eq_true h0
    exact no (by rw [hr, if_pos (by omega)])
   ·have h0' := of_decide_eq_false h0
    rw [if_neg (by omega)] at hr
    refine ⟨fun h58 => ?_, fun h58 => ?_⟩
    ·have h58' := hT (p := fun x => x = 58) h58
     rw [if_pos (by omega)] at hr
     exact ⟨⟨by omega, by omega, by omega⟩, _, _, FinMove.refl _ _ _, (schemeV_some hr).symm⟩
    ·have h58' := hF (p := fun x => x = 58) h58
     rw [if_neg (by omega)] at hr
     refine ⟨fun h48 => ⟨fun h57 => ⟨fun h43 => ⟨fun h45 => ⟨fun h46 => ?_, fun h46 => ?_⟩, fun h45 => ?_⟩, fun h43 => ?_⟩, fun h57 => ?_⟩, fun h48 => ⟨fun h43 => ⟨fun h45 => ⟨fun h46 => ?_, fun h46 => ?_⟩, fun h45 => ?_⟩, fun h43 => ?_⟩⟩
     ·have := hT (p := fun x => x = 46) h46
      exact .inl ⟨⟨by omega, by omega⟩, _, _, _, go (by rw [hr, if_pos (by simp [tailc]; omega)]), by omega, Mv.of [] rfl rfl rfl trivial ⟨rfl, rfl, rfl, trivial⟩⟩
     ·have := hF (p := fun x => x = 46) h46; have := hF (p := fun x => x = 45) h45; have := hF (p := fun x => x = 43) h43; have := hF (p := fun x => x ≤ 57) h57
      exact no (by rw [hr, if_neg (by simp [tailc]; omega)])
     ·have := hT (p := fun x => x = 45) h45
      exact .inl ⟨⟨by omega, by omega⟩, _, _, _, go (by rw [hr, if_pos (by simp [tailc]; omega)]), by omega, Mv.of [] rfl rfl rfl trivial ⟨rfl, rfl, rfl, trivial⟩⟩
     ·have := hT (p := fun x => x = 43) h43
      exact .inl ⟨⟨by omega, by omega⟩, _, _, _, go (by rw [hr, if_pos (by simp [tailc]; omega)]), by omega, Mv.of [] rfl rfl rfl trivial ⟨rfl, rfl, rfl, trivial⟩⟩
     ·have := hT (p := fun x => x ≤ 57) h57; have := hT (p := fun x => 48 ≤ x) h48
      exact .inl ⟨⟨by omega, by omega⟩, _, _, _, go (by rw [hr, if_pos (by simp [tailc]; omega)]), by omega, Mv.of [] rfl rfl rfl trivial ⟨rfl, rfl, rfl, trivial⟩⟩
     ·have := hT (p := fun x => x = 46) h46
      exact .inl ⟨⟨by omega, by omega⟩, _, _, _, go (by rw [hr, if_pos (by simp [tailc]; omega)]), by omega, Mv.of [] rfl rfl rfl trivial ⟨rfl, rfl, rfl, trivial⟩⟩
     ·have := hF (p := fun x => x = 46) h46; have := hF (p := fun x => x = 45) h45; have := hF (p := fun x => x = 43) h43; have := hF (p := fun x => 48 ≤ x) h48
      exact no (by rw [hr, if_neg (by simp [tailc]; omega)])
     ·have := hT (p := fun x => x = 45) h45
      exact .inl ⟨⟨by omega, by omega⟩, _, _, _, go (by rw [hr, if_pos (by simp [tailc]; omega)]), by omega, Mv.of [] rfl rfl rfl trivial ⟨rfl, rfl, rfl, trivial⟩⟩
     ·have := hT (p := fun x => x = 43) h43
      exact .inl ⟨⟨by omega, by omega⟩, _, _, _, go (by rw [hr, if_pos (by simp [tailc]; omega)]), by omega, Mv.of [] rfl rfl rfl trivial ⟨rfl, rfl, rfl, trivial⟩⟩
 ·have hk' : k = b.length := by have := of_decide_eq_false h; omega
  subst hk'
  exact no (hI.trans (scan_end b))
def stop (c : UInt8) (k : Nat) : Bool := !letter c && (decide (k = 0) || !tailc c)
set_option maxRecDepth 10000 in
theorem rScheme_ok (s : List UInt8) (hs : s.length ≤ 140737488355328) : PureC Tryz.prog 63 [.d (.str s)] (schemeV s) := by
 refine pure_okT Tryz.wf Tryz.tab_ok Tryz.func63 (by decide +kernel) rfl rfl rfl rfl ?_
 refine PureC.use (rBare_ok s (by omega)) (PureC.use (rLower_ok (bare s) (by have := bare_len s; omega)) ?_)
 generalize hb : lower (bare s) = b
 have hO : schemeO s = scan [] b := by rw [schemeO, hb]
 have hbl : b.length ≤ 140737488355328 := by rw [← hb, lower_len]; have := bare_len s; omega
 refine loopE (fun n s' σ => ∃ k : Nat, n = b.length - k ∧ k ≤ b.length ∧ schemeO s = scan (b.take k) (b.drop k) ∧ s' = [(4, .d (.str b)), (5, .d (.int .i64 k))] ∧ σ = ⟨0, []⟩)
  ⟨0, rfl, Nat.zero_le _, hO, rfl, rfl⟩ (Mv.of [] rfl rfl rfl trivial ⟨rfl, rfl, trivial⟩) ?_
 rintro _ _ _ ⟨k, rfl, hk, hI, rfl, rfl⟩
 have no : schemeO s = none → ∃ r2 σ2, FinMove ⟨0, []⟩ (.tup [.d (.str []), .d (.bool false)]) ⟨0, []⟩ r2 σ2 ∧ r2 = schemeV s := fun h => ⟨_, _, FinMove.refl _ _ _, (schemeV_none h).symm⟩
 refine E.seq (E.of Tryz.wf Tryz.tab_ok ?_)
 refine ⟨fun h => ?_, fun h => ?_⟩
 ·have hlt : k < b.length := by have := of_decide_eq_true h; omega
  have hg := getD_at b k hlt
  have hu := b[k].toNat_lt
  rw [scan_at b k hlt] at hI
  clear h
  refine E.seq (blockE ?_)
  refine E.seq (E.of Tryz.wf Tryz.tab_ok ?_)
  refine ⟨⟨by omega, by omega⟩, ?_⟩
  refine midT Tryz.wf Tryz.tab_ok (fun s' σ => s' = [(4, .d (.str b)), (5, .d (.int .i64 k)), (6, .d (.int .u8 b[k].toNat)), (7, .d (.bool (letter b[k])))] ∧ σ = ⟨0, []⟩) ?_ ?_
  ·refine ⟨fun h1 => ?_, fun h1 => ?_⟩
   ·rw [hg] at h1
    have := of_decide_eq_true h1
    refine ⟨_, _, ⟨rfl, rfl⟩, Mv.of [] rfl rfl rfl trivial ⟨rfl, rfl, congrArg (fun x : UInt8 => D.int .u8 x.toNat) hg.symm, congrArg D.bool (Bool.eq_iff_iff.2 ?_), trivial⟩⟩
    rw [hg]; simp [letter]; omega
   ·rw [hg] at h1
    have := of_decide_eq_false h1
    refine ⟨_, _, ⟨rfl, rfl⟩, Mv.of [] rfl rfl rfl trivial ⟨rfl, rfl, congrArg (fun x : UInt8 => D.int .u8 x.toNat) hg.symm, congrArg D.bool ?_, trivial⟩⟩
    simp [letter]; omega
  rintro _ _ ⟨rfl, rfl⟩
  refine midT Tryz.wf Tryz.tab_ok (fun s' σ => ¬ (b[k].toNat = 58 ∧ 0 < k) ∧ s' = [(4, .d (.str b)), (5, .d (.int .i64 k)), (6, .d (.int .u8 b[k].toNat)), (7, .d (.bool (letter b[k])))] ∧ σ = ⟨0, []⟩) ?_ ?_
  ·refine ⟨fun h1 => ⟨fun h2 => ?_, fun h2 => ?_⟩, fun h1 => ?_⟩
   ·have h1' := of_decide_eq_true h1
    have h2' := of_decide_eq_true h2
    have hr : schemeO s = some (b.take k) := by rw [hI, if_neg (by simp [letter]; omega), if_neg (by omega), if_pos (by omega)]
    exact ⟨⟨by omega, by omega, by omega⟩, _, _, FinMove.refl _ _ _, (schemeV_some hr).symm⟩
   ·have h2' := of_decide_eq_false h2
    exact ⟨_, _, ⟨by omega, rfl, rfl⟩, Mv.of [] rfl rfl rfl trivial ⟨rfl, rfl, rfl, rfl, trivial⟩⟩
   ·have h1' := of_decide_eq_false h1
    exact ⟨_, _, ⟨by omega, rfl, rfl⟩, Mv.of [] rfl rfl rfl trivial ⟨rfl, rfl, rfl, rfl, trivial⟩⟩
  rintro _ _ ⟨hn, rfl, rfl⟩
  refine midK Tryz.wf Tryz.tab_ok (fun s' σ => s' = [(4, .d (.str b)), (5, .d (.int .i64 k)), (61, .d (.bool (stop b[k] k)))] ∧ σ = ⟨0, []⟩) ?_ ?_
  ·intro K' _ hK
   refine ⟨fun n => ⟨fun z => ⟨fun d48 => ⟨fun d57 => ⟨fun e43 => ⟨fun e45 => ?_, fun e45 => ?_⟩, fun e43 => ?_⟩, fun d57 => ?_⟩, fun d48 => ⟨fun e43 => ⟨fun e45 => ?_, fun e45 => ?_⟩, fun e43 => ?_⟩⟩, fun z => ?_⟩, fun n => ?_⟩
   all_goals
    simp only [Bool.not_eq_true', Bool.not_eq_false', Bool.not_eq_eq_eq_not, Bool.not_true, Bool.not_false] at n
    try simp only [decide_eq_true_eq, decide_eq_false_iff_not] at z
    try simp only [decide_eq_true_eq, decide_eq_false_iff_not] at d48
    try simp only [decide_eq_true_eq, decide_eq_false_iff_not, Bool.not_eq_true', Bool.not_eq_false', Bool.not_eq_eq_eq_not, Bool.not_true, Bool.not_false] at d57
    try simp only [decide_eq_true_eq, decide_eq_false_iff_not, Bool.not_eq_true', Bool.not_eq_false', Bool.not_eq_eq_eq_not, Bool.not_true, Bool.not_false] at e43
    try simp only [decide_eq_true_eq, decide_eq_false_iff_not, Bool.not_eq_true', Bool.not_eq_false', Bool.not_eq_eq_eq_not, Bool.not_true, Bool.not_false] at e45
    refine hK _ _ _ _ ⟨rfl, rfl⟩ (Mv.of [] rfl rfl rfl trivial ⟨rfl, rfl, congrArg D.bool (Bool.eq_iff_iff.2 ?_), trivial⟩)
    simp [stop, tailc, n]
    try omega
  rintro _ _ ⟨rfl, rfl⟩
  refine E.of Tryz.wf Tryz.tab_ok ?_
  refine ⟨fun h => ?_, fun h => ?_⟩
  ·refine no ?_
   simp only [stop, Bool.and_eq_true, Bool.or_eq_true, Bool.not_eq_true', decide_eq_true_eq] at h
   rw [hI, h.1, if_neg (by simp)]
   rcases h.2 with h2 | h2
   ·rw [if_pos h2]
   ·by_cases hk0 : k = 0
    ·rw [if_pos hk0]
    ·rw [if_neg hk0, if_neg (by omega), h2, if_neg (by simp)]
  ·have hnx : schemeO s = scan (b.take (k + 1)) (b.drop (k + 1)) := by
    rw [hI]
    cases hl : letter b[k] with
    | true => rfl
    | false =>
     simp only [stop, hl, Bool.not_false, Bool.true_and, Bool.or_eq_false_iff, Bool.not_eq_false', decide_eq_false_iff_not] at h
     rw [if_neg (by simp), if_neg h.1, if_neg (by omega), h.2, if_pos rfl]
   refine E.of Tryz.wf Tryz.tab_ok ?_
   exact .inl ⟨⟨by omega, by omega⟩, _, _, _, ⟨k + 1, rfl, hlt, hnx, rfl, rfl⟩, by omega, Mv.of [] rfl rfl rfl trivial ⟨rfl, rfl, trivial⟩⟩
 ·have hk' : k = b.length := by have := of_decide_eq_false h; omega
  subst hk'
  exact no (hI.trans (scan_end b))
def badc (c : UInt8) : Bool := decide (c.toNat < 32) || decide (c.toNat = 92) || decide (c.toNat = 127)
def allowed (s : List UInt8) (l : List (List UInt8)) : Bool := if schemeB s then decide (schemeS s ∈ l) else !hasPre (bare s) [47, 47] && (bare s).all fun c => !badc c
theorem all_split (b : List UInt8) (k : Nat) (h : k < b.length) : (b.drop k).all (fun c => !badc c) = (!badc b[k] && (b.drop (k + 1)).all fun c => !badc c) := by
 rw [List.drop_eq_getElem_cons h, List.all_cons]
set_option maxRecDepth 10000 in
theorem Allowed_ok (s : List UInt8) (l : List (List UInt8)) (hs : s.length ≤ 140737488355328) (hl : l.length ≤ 4611686018427387903) : PureC Tryz.prog 30 [.d (.str s), .d (.sl (strsD l))] (.d (.bool (allowed s l))) := by
 refine pure_okT Tryz.wf Tryz.tab_ok Tryz.func30 (by decide +kernel) rfl rfl rfl rfl ?_
 refine PureC.use (Scheme_ok s hs) ⟨fun h => ?_, fun h => ?_⟩
 ·have hb : schemeB s = true := h
  exact PureC.use (Contains_ok l (schemeS s) hl) ⟨_, _, FinMove.refl _ _ _, congrArg (fun b => AV.d (.bool b)) (by rw [allowed, if_pos hb])⟩
 ·have hb : ¬ schemeB s = true := by rw [show schemeB s = false from h]; simp
  have hal : allowed s l = (!hasPre (bare s) [47, 47] && (bare s).all fun c => !badc c) := by rw [allowed, if_neg hb]
  have hbl := bare_len s
  refine PureC.use (Bare_ok s (by omega) hs) (PureC.use (HasPrefix_ok (bare s) [47, 47]) ⟨fun h2 => ?_, fun h2 => ?_⟩)
  ·exact ⟨_, _, FinMove.refl _ _ _, congrArg (fun b => AV.d (.bool b)) (by rw [hal, h2]; rfl)⟩
  ·rw [h2] at hal
   generalize bare s = b at *
   refine loopT Tryz.wf Tryz.tab_ok (fun n s' σ => ∃ k : Nat, n = b.length - k ∧ k ≤ b.length ∧ allowed s l = ((b.drop k).all fun c => !badc c) ∧ s' = [(7, .d (.str b)), (23, .d (.int .i64 b.length)), (24, .d (.int .i64 k))] ∧ σ = ⟨0, []⟩)
    ⟨0, rfl, Nat.zero_le _, by rw [hal]; simp, rfl, rfl⟩ (Mv.of [] rfl rfl rfl trivial ⟨rfl, rfl, rfl, trivial⟩) ?_
   rintro _ _ _ ⟨k, rfl, hk, hI, rfl, rfl⟩
   have no : allowed s l = false → ∃ r2 σ2, FinMove ⟨0, []⟩ (.d (.bool false)) ⟨0, []⟩ r2 σ2 ∧ r2 = AV.d (.bool (allowed s l)) := fun h => ⟨_, _, FinMove.refl _ _ _, by rw [h]⟩
   refine ⟨fun h3 => ?_, fun h3 => ?_⟩
   ·have hlt : k < b.length := by have := of_decide_eq_true h3; omega
    have hg := getD_at b k hlt
    rw [all_split b k hlt] at hI
    clear h3
    refine ⟨⟨by omega, by omega⟩, ⟨fun a => ⟨⟨by omega, by omega⟩, ⟨fun c => ⟨⟨by omega, by omega⟩, ⟨fun d => ?_, fun d => ?_⟩⟩, fun c => ?_⟩⟩, fun a => ?_⟩⟩
    all_goals
     try simp only [hg, decide_eq_true_eq, decide_eq_false_iff_not] at a
     try simp only [hg, decide_eq_true_eq, decide_eq_false_iff_not] at c
     try simp only [hg, decide_eq_true_eq, decide_eq_false_iff_not] at d
    ·exact no (by rw [hI]; simp [badc]; omega)
    ·refine .inl ⟨⟨by omega, by omega⟩, _, _, _, ⟨k + 1, rfl, hlt, ?_, rfl, rfl⟩, by omega, Mv.of [] rfl rfl rfl trivial ⟨rfl, rfl, rfl, trivial⟩⟩
     have : badc b[k] = false := by simp [badc]; omega
     rw [hI, this]; rfl
    ·exact no (by rw [hI]; simp [badc]; omega)
    ·exact no (by rw [hI]; simp [badc]; omega)
   ·have hk' : k = b.length := by have := of_decide_eq_false h3; omega
    subst hk'
    exact ⟨_, _, FinMove.refl _ _ _, congrArg (fun b => AV.d (.bool b)) (by rw [hI]; simp)⟩
set_option maxRecDepth 10000 in
theorem rAllowed_ok (s : List UInt8) (l : List (List UInt8)) (hs : s.length ≤ 140737488355328) (hl : l.length ≤ 4611686018427387903) : PureC Tryz.prog 40 [.d (.str s), .d (.sl (strsD l))] (.d (.bool (allowed s l))) := by
  refine pure_okT Tryz.wf Tryz.tab_ok Tryz.func40 (by decide +kernel) rfl rfl rfl rfl ?_
  have hn := strsD_len l
  refine PureC.use (rScheme_ok s hs) ⟨fun h => ?_, fun h => ?_⟩
  · have hb : schemeB s = true := h
    have hal : allowed s l = decide (schemeS s ∈ l) := by rw [allowed, if_pos hb]
    refine loopT Tryz.wf Tryz.tab_ok (fun n s' σ => ∃ k : Nat, n = l.length - k ∧ k ≤ l.length ∧ (∀ j (h : j < k) (h2 : j < l.length), l[j] ≠ schemeS s) ∧ s' = [(1, .d (.sl (strsD l))), (5, .d (.str (schemeS s))), (7, .d (.int .i64 k))] ∧ σ = ⟨0, []⟩)
      ⟨0, rfl, Nat.zero_le _, fun j h => absurd h (by omega), rfl, rfl⟩ (Mv.of [] rfl rfl rfl trivial ⟨rfl, rfl, rfl, trivial⟩) ?_
    rintro _ _ _ ⟨k, rfl, hk, hI, rfl, rfl⟩
    refine ⟨fun h3 => ?_, fun h3 => ?_⟩
    · have hlt : k < l.length := by have := of_decide_eq_true h3; rw [hn] at this; omega
      refine ⟨⟨by omega, by rw [hn]; omega⟩, _, strsD_get l k hlt, rfl, _, rfl, ⟨fun h1 => ?_, fun h1 => ?_⟩⟩
      · have h1' := of_decide_eq_true h1
        refine ⟨_, _, FinMove.refl _ _ _, congrArg (fun b => AV.d (.bool b)) ?_⟩
        rw [hal, ← h1']; simp
      · have h1' := of_decide_eq_false h1
        exact .inl ⟨⟨by omega, by omega⟩, _, _, _, ⟨k + 1, rfl, hlt, fun j hj h2 => by
          by_cases e : j = k
          · subst e; exact h1'
          · exact hI j (by omega) h2, rfl, rfl⟩, by omega, Mv.of [] rfl rfl rfl trivial ⟨rfl, rfl, rfl, trivial⟩⟩
    · have hk' : k = l.length := by have := of_decide_eq_false h3; rw [hn] at this; omega
      subst hk'
      refine ⟨_, _, FinMove.refl _ _ _, congrArg (fun b => AV.d (.bool b)) ?_⟩
      rw [hal]
      refine (decide_eq_false fun hm => ?_).symm
      obtain ⟨j, hj, e⟩ := List.mem_iff_getElem.1 hm
      exact hI j hj hj e
  · have hb : ¬ schemeB s = true := by rw [show schemeB s = false from h]; simp
    have hal : allowed s l = (!hasPre (bare s) [47, 47] && (bare s).all fun c => !badc c) := by rw [allowed, if_neg hb]
    have hbl := bare_len s
    refine PureC.use (rBare_ok s (by omega)) ?_
    generalize bare s = b at *
    have no : allowed s l = false → ∃ r2 σ2, FinMove ⟨0, []⟩ (.d (.bool false)) ⟨0, []⟩ r2 σ2 ∧ r2 = AV.d (.bool (allowed s l)) := fun h => ⟨_, _, FinMove.refl _ _ _, by rw [h]⟩
    refine ⟨fun h2 => ⟨⟨by omega, by omega, ?_⟩, ⟨fun h4 => ?_, fun h4 => ?_⟩⟩, fun h2 => ?_⟩
    · have := of_decide_eq_true h2; omega
    · have h4' := of_decide_eq_true h4
      have h2' := of_decide_eq_true h2
      refine no ?_
      have : hasPre b [47, 47] = true := by
        simp only [hasPre, Bool.and_eq_true, decide_eq_true_eq]
        exact ⟨by show 2 ≤ b.length; omega, h4'⟩
      rw [hal, this]; rfl
    all_goals
      have hpre : hasPre b [47, 47] = false := by
        first
        | (have h4' := of_decide_eq_false h4
           simp only [hasPre, Bool.and_eq_false_iff, decide_eq_false_iff_not]
           exact .inr h4')
        | (have h2' := of_decide_eq_false h2
           simp only [hasPre, Bool.and_eq_false_iff, decide_eq_false_iff_not]
           exact .inl (by show ¬ 2 ≤ b.length; omega))
      rw [hpre] at hal
      refine loopT Tryz.wf Tryz.tab_ok (fun n s' σ => ∃ k : Nat, n = b.length - k ∧ k ≤ b.length ∧ allowed s l = ((b.drop k).all fun c => !badc c) ∧ s' = [(8, .d (.str b)), (9, .d (.int .i64 k))] ∧ σ = ⟨0, []⟩)
        ⟨0, rfl, Nat.zero_le _, by rw [hal]; simp, rfl, rfl⟩ (Mv.of [] rfl rfl rfl trivial ⟨rfl, rfl, trivial⟩) ?_
      rintro _ _ _ ⟨k, rfl, hk, hI, rfl, rfl⟩
      refine ⟨fun h3 => ?_, fun h3 => ?_⟩
      · have hlt : k < b.length := by have := of_decide_eq_true h3; omega
        have hg := getD_at b k hlt
        rw [all_split b k hlt] at hI
        clear h3
        refine ⟨⟨by omega, by omega⟩, ⟨fun a => ⟨⟨by omega, by omega⟩, ⟨fun c => ⟨⟨by omega, by omega⟩, ⟨fun d => ?_, fun d => ?_⟩⟩, fun c => ?_⟩⟩, fun a => ?_⟩⟩
        all_goals
          try simp only [hg, decide_eq_true_eq, decide_eq_false_iff_not] at a
          try simp only [hg, decide_eq_true_eq, decide_eq_false_iff_not] at c
          try simp only [hg, decide_eq_true_eq, decide_eq_false_iff_not] at d
        · exact no (by rw [hI]; simp [badc]; omega)
        · refine .inl ⟨⟨by omega, by omega⟩, _, _, _, ⟨k + 1, rfl, hlt, ?_, rfl, rfl⟩, by omega, Mv.of [] rfl rfl rfl trivial ⟨rfl, rfl, trivial⟩⟩
          have : badc b[k] = false := by simp [badc]; omega
          rw [hI, this]; rfl
        · exact no (by rw [hI]; simp [badc]; omega)
        · exact no (by rw [hI]; simp [badc]; omega)
      · have hk' : k = b.length := by have := of_decide_eq_false h3; omega
        subst hk'
        exact ⟨_, _, FinMove.refl _ _ _, congrArg (fun b => AV.d (.bool b)) (by rw [hI]; simp)⟩
def attrP (p : Pol) (el a : List UInt8) : Bool := decide (el ∈ p.el) && (decide ([42, 46] ++ a ∈ p.at') || decide (el ++ [46] ++ a ∈ p.at'))
set_option maxRecDepth 100000 in
theorem Elem_ok (p : Pol) (nm : List UInt8) (hp : Fits p) : PureC Tryz.prog 19 [polA p, .d (.str nm)] (.d (.bool (decide (nm ∈ p.el)))) := by
 have hc1 := Contains_ok p.el nm (by have := hp.el.1; omega)
 refine pure_okT Tryz.wf Tryz.tab_ok Tryz.func19 (by decide +kernel) rfl rfl rfl rfl ?_
 refine wR (k := ?_)
 exact ⟨_, _, fin_out rfl, rfl⟩
set_option maxRecDepth 100000 in
theorem Attr_ok (p : Pol) (el a : List UInt8) (hp : Fits p) (he : el.length ≤ 1000000) (ha : a.length ≤ 1000000) : PureC Tryz.prog 27 [polA p, .d (.str el), .d (.str a)] (.d (.bool (attrP p el a))) := by
 have hc1 := Elem_ok p el hp
 have hc2 := Contains_ok p.at' ([42, 46] ++ a) (by have := hp.at'.1; omega)
 have hc3 := Contains_ok p.at' (el ++ [46] ++ a) (by have := hp.at'.1; omega)
 unfold attrP
 by_cases h1 : el ∈ p.el
 ·rw [decide_eq_true h1] at hc1 ⊢
  by_cases h2 : [42, 46] ++ a ∈ p.at'
  ·rw [decide_eq_true h2] at hc2 ⊢
   refine pure_okT Tryz.wf Tryz.tab_ok Tryz.func27 (by decide +kernel) rfl rfl rfl rfl ?_
   refine wR (k := ?_)
   exact ⟨_, _, fin_out rfl, rfl⟩
  ·rw [decide_eq_false h2] at hc2 ⊢
   refine pure_okT Tryz.wf Tryz.tab_ok Tryz.func27 (by decide +kernel) rfl rfl rfl rfl ?_
   refine wR (k := ?_)
   exact ⟨_, _, fin_out rfl, congrArg (fun b => AV.d (.bool b)) (by simp)⟩
 ·rw [decide_eq_false h1] at hc1 ⊢
  refine pure_okT Tryz.wf Tryz.tab_ok Tryz.func27 (by decide +kernel) rfl rfl rfl rfl ?_
  refine wR (k := ?_)
  exact ⟨_, _, fin_out rfl, rfl⟩
set_option maxRecDepth 100000 in
theorem rAttr_ok (p : Pol) (el a : List UInt8) (hp : Fits p) (he : el.length ≤ 1000000) (ha : a.length ≤ 1000000) : PureC Tryz.prog 37 [polA p, .d (.str el), .d (.str a)] (.d (.bool (attrP p el a))) := by
 have hc1 := rHas_ok p.el el (by have := hp.el.1; omega)
 have hc2 := rHas_ok p.at' ([42, 46] ++ a) (by have := hp.at'.1; omega)
 have hc3 := rHas_ok p.at' (el ++ [46] ++ a) (by have := hp.at'.1; omega)
 unfold attrP
 by_cases h1 : el ∈ p.el
 ·rw [decide_eq_true h1] at hc1 ⊢
  by_cases h2 : [42, 46] ++ a ∈ p.at'
  ·rw [decide_eq_true h2] at hc2 ⊢
   refine pure_okT Tryz.wf Tryz.tab_ok Tryz.func37 (by decide +kernel) rfl rfl rfl rfl ?_
   refine wR (k := ?_)
   exact ⟨_, _, fin_out rfl, rfl⟩
  ·rw [decide_eq_false h2] at hc2 ⊢
   refine pure_okT Tryz.wf Tryz.tab_ok Tryz.func37 (by decide +kernel) rfl rfl rfl rfl ?_
   refine wR (k := ?_)
   exact ⟨_, _, fin_out rfl, congrArg (fun b => AV.d (.bool b)) (by simp)⟩
 ·rw [decide_eq_false h1] at hc1 ⊢
  refine pure_okT Tryz.wf Tryz.tab_ok Tryz.func37 (by decide +kernel) rfl rfl rfl rfl ?_
  refine wR (k := ?_)
  exact ⟨_, _, fin_out rfl, rfl⟩
def clsB (l : List (List UInt8)) : List (List UInt8) → List (List UInt8) → Bool
 | _, [] => true
 | seen, c :: r => (!decide (c ∈ seen) && decide (c ∈ l)) && clsB l (c :: seen) r
def seenR : List (List UInt8) → List (AV × AV)
 | [] => []
 | c :: r => mput c (.d (.bool true)) (seenR r)
theorem seenR_keys : ∀ q, strKeys (seenR q)
 | [] => fun e h => by simp [seenR] at h
 | p :: r => strKeys_mputS _ _ _ (seenR_keys r)
theorem seenR_pure : ∀ q, ∀ e ∈ seenR q, e.1.pure = true ∧ e.2.pure = true
 | [] => fun e h => by simp [seenR] at h
 | p :: r => pure_mputS _ _ rfl _ (seenR_pure r)
theorem seenR_look (x : List UInt8) : ∀ q, (mlook x (seenR q)).getD (.d (.bool false)) = .d (.bool (decide (x ∈ q)))
 | [] => rfl
 | p :: r => by
  rw [seenR, mlook_mputS _ _ _ _ (seenR_keys r)]
  by_cases h : x = p
  ·rw [if_pos h, h]; simp
  ·rw [if_neg h, seenR_look x r]; simp [h]
set_option maxRecDepth 100000 in
set_option maxHeartbeats 1000000 in
theorem classes_ok (v : List UInt8) (l : List (List UInt8)) (hv : v.length ≤ 1000000) (hl : l.length ≤ 1000000) : PureC Tryz.prog 28 [.d (.str v), .d (.sl (strsD l))] (.d (.bool (clsB l [] (splitB 32 v)))) := by
 have hc1 := Split_ok 32 v (by omega)
 have hn := strsD_len (splitB 32 v)
 have hcnt := splitB_len 32 v
 have hcl := List.count_le_length (a := 32) (l := v)
 generalize splitB 32 v = ps at *
 refine pure_okT Tryz.wf Tryz.tab_ok Tryz.func28 (by decide +kernel) rfl rfl rfl rfl ?_
 refine wR (k := ?_)
 refine loopT Tryz.wf Tryz.tab_ok (fun n s' σ => ∃ (k : Nat) (q : List (List UInt8)), n = ps.length - k ∧ k ≤ ps.length ∧ clsB l [] ps = clsB l q (ps.drop k) ∧ s' = [(1, .d (.sl (strsD l))), (5, .mp 0), (10, .d (.sl (strsD ps))), (11, .d (.int .i64 ps.length)), (12, .d (.int .i64 k))] ∧ σ = ⟨1, [(0, .map (seenR q))]⟩)
  ⟨0, [], rfl, Nat.zero_le _, rfl, rfl, rfl⟩ (Mv.of [.old 0] rfl rfl rfl ⟨.inl ⟨rfl, seenR_pure _⟩, trivial⟩ ⟨rfl, rfl, rfl, congrArg (fun n : Nat => D.int .i64 n) hn.symm, rfl, trivial⟩) ?_
 rintro _ _ _ ⟨k, q, rfl, hk, hI, rfl, rfl⟩
 by_cases hlt : k < ps.length
 ·have hg := strsD_get ps k hlt
  rw [List.drop_eq_getElem_cons hlt, clsB] at hI
  have hc2 := Contains_ok l ps[k] (by omega)
  generalize ps[k] = p at *
  refine wR (k := ?_)
  refine ⟨_, _, rfl, seenR_keys q, rfl, rfl, ?_⟩
  rw [seenR_look]
  by_cases hin : p ∈ q
  ·rw [decide_eq_true hin] at hI ⊢
   refine wR (k := ?_)
   exact ⟨_, _, fin_out rfl, congrArg (fun b => AV.d (.bool b)) hI.symm⟩
  ·rw [decide_eq_false hin] at hI ⊢
   by_cases hin2 : p ∈ l
   ·rw [decide_eq_true hin2] at hI hc2
    refine wR (k := ?_)
    refine ⟨seenR_keys _, ?_⟩
    refine wR (k := ?_)
    exact ⟨_, _, _, ⟨k + 1, p :: q, rfl, hlt, hI, rfl, rfl⟩, by omega, Mv.of [.old 0] rfl rfl rfl ⟨.inl ⟨rfl, seenR_pure _⟩, trivial⟩ ⟨rfl, rfl, rfl, rfl, rfl, trivial⟩⟩
   ·rw [decide_eq_false hin2] at hI hc2
    refine wR (k := ?_)
    exact ⟨_, _, fin_out rfl, congrArg (fun b => AV.d (.bool b)) hI.symm⟩
 ·have hk' : k = ps.length := by omega
  subst hk'
  rw [List.drop_length] at hI
  rw [hI]
  refine wR (k := ?_)
  exact ⟨_, _, fin_out rfl, rfl⟩
end Go.Proofs.YtfchacihhljfhaaGreatDoor
