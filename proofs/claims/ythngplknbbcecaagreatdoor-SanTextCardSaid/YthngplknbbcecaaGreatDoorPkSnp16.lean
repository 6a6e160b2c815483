/- What is proved here serves the claim: the walk over the code and the plain laws, part 16 of 18. -/
import Derived.Test.YthngplknbbcecaaGreatDoorPkSnp15
import Derived.Shelf.Strings.Search3
namespace Go.Proofs.YthngplknbbcecaaGreatDoor
open Go.Aw
set_option maxHeartbeats 1600000
set_option linter.unusedSimpArgs false
set_option linter.unusedVariables false
def ren : Go.Shelf.Ren := ⟨fun | 143 => 152 | 217 => 100 | 219 => 145 | 224 => 176 | 225 => 175 | 266 => 148 | 267 => 177 | 314 => 190 | n => n, fun | 3 => 3 | 4 => 4 | 5 => 5 | 9 => 9 | 46 => 169 | 51 => 160 | 146 => 177 | n => n, fun | 1 => 0 | n => n⟩
theorem lays143 : Go.Proofs.Lays.n143 Tryz.prog ren where
 mixed := by kernel_rfl
 f143 := Tryz.func152.trans (congrArg some (by kernel_rfl))
 f217 := Tryz.func100.trans (congrArg some (by kernel_rfl))
 f219 := Tryz.func145.trans (congrArg some (by kernel_rfl))
 f224 := Tryz.func176.trans (congrArg some (by kernel_rfl))
 f225 := Tryz.func175.trans (congrArg some (by kernel_rfl))
 f266 := Tryz.func148.trans (congrArg some (by kernel_rfl))
 f267 := Tryz.func177.trans (congrArg some (by kernel_rfl))
 f314 := Tryz.func190.trans (congrArg some (by kernel_rfl))
 t3 := Tryz.underlying3
 a3 := Tryz.isAgg3
 z3 := Tryz.sizeOf3
 v3 := Tryz.zeroValue3
 t4 := Tryz.underlying4
 a4 := Tryz.isAgg4
 z4 := Tryz.sizeOf4
 v4 := Tryz.zeroValue4
 t5 := Tryz.underlying5
 a5 := Tryz.isAgg5
 z5 := Tryz.sizeOf5
 v5 := Tryz.zeroValue5
 t9 := Tryz.underlying9
 a9 := Tryz.isAgg9
 z9 := Tryz.sizeOf9
 v9 := Tryz.zeroValue9
 t46 := Tryz.underlying169
 a46 := Tryz.isAgg169
 z46 := Tryz.sizeOf169
 v46 := Tryz.zeroValue169
 t51 := Tryz.underlying160
 a51 := Tryz.isAgg160
 z51 := Tryz.sizeOf160
 v51 := Tryz.zeroValue160
 t146 := Tryz.underlying177
 a146 := Tryz.isAgg177
 z146 := Tryz.sizeOf177
 v146 := Tryz.zeroValue177
 g1 := by kernel_rfl
theorem gl_len : Gl Tryz.prog 0 := by unfold Gl; kernel_rfl
def idxT (s t : List UInt8) : Int := if runN (fun x => !hasPre x t) s = s.length then -1 else runN (fun x => !hasPre x t) s
theorem pre_eq (s t : List UInt8) : t.isPrefixOf s = hasPre s t := by
 rw [Bool.eq_iff_iff, List.isPrefixOf_iff_prefix, List.prefix_iff_eq_take]
 simp only [hasPre, Bool.and_eq_true, decide_eq_true_eq]
 constructor
 ·intro h
  refine ⟨?_, h.symm⟩
  have := congrArg List.length h
  rw [List.length_take] at this
  omega
 ·exact fun h => h.2.symm
theorem idxT_eq (s t : List UInt8) (ht : t ≠ []) : Go.Lib.index s t = idxT s t := by
 have hle := runN_le (fun x => !hasPre x t) s
 unfold idxT
 split
 ·rename_i h
  refine Go.Lib.index_none fun j hj => ?_
  unfold Go.Lib.occAt
  rw [pre_eq]
  rcases Nat.lt_or_ge j s.length with h1 | h1
  ·have := runN_in (fun x => !hasPre x t) s j (by omega)
   simpa using this
  ·have : s.drop j = [] := List.drop_eq_nil_iff.2 h1
   rw [this]
   cases t with
   | nil => exact absurd rfl ht
   | cons a r => simp [hasPre]
 ·rename_i h
  refine Go.Lib.index_first hle ?_ fun j hj => ?_
  ·unfold Go.Lib.occAt
   rw [pre_eq]
   have := runN_stop (fun x => !hasPre x t) s (by omega)
   simpa using this
  ·unfold Go.Lib.occAt
   rw [pre_eq]
   have := runN_in (fun x => !hasPre x t) s j hj
   simpa using this
theorem Index_any (s t : List UInt8) (hs : s.length < 4294967281) (ht : t ≠ []) : PureC Tryz.prog 152 [.d (.str s), .d (.str t)] (.d (.int .i64 (idxT s t))) := fun σ => by
 refine .inl ⟨⟨_, Tryz.func152, by decide +kernel, rfl⟩, fun g w vs R hL => ?_⟩
 obtain ⟨v, r, rfl, h1, h2⟩ := hL.uncons
 obtain ⟨u, r, rfl, h3, h4⟩ := h2.uncons
 rw [h4.unnil]
 obtain ⟨_, m, hm⟩ := R.glob _ gl_len
 cases h1 with
 | d h1 =>
 cases h1
 cases h3 with
 | d h3 =>
 cases h3
 refine (Go.Proofs.Any.strings_Index lays143 ⟨s.toArray⟩ ⟨t.toArray⟩ m w hs hm).mono fun e w' ⟨he, hw⟩ => ?_
 subst he; subst hw
 refine ⟨_, g, σ, .d (.int .i64 (idxT s t)), rfl, Ext.refl _ _ _, R, ?_, rfl, rfl⟩
 rw [show (ByteArray.mk s.toArray).data.toList = s from rfl, show (ByteArray.mk t.toArray).data.toList = t from rfl, idxT_eq s t ht]
 exact .d (.int _ _)
def rdO2 (s : List UInt8) (n : Nat) (m : Nat) : Ob := .rows (3, 88) [[.d (.str s), .d (.int .i64 n), .own 2 0 m]]
abbrev rdS2 (s : List UInt8) (n : Nat) (l : List Tok) : Store := ⟨3, [(2, outO l), (0, rdO2 s n l.length)]⟩
theorem toks_snoc (l : List Tok) (t : Tok) : ((toksD l).map fun r => r.map AV.d) ++ [(tokD t).map AV.d] = (toksD (l ++ [t])).map fun r => r.map AV.d := by simp [toksD]
theorem toksRows (l : List Tok) : ∀ row ∈ (toksD l).map (fun r => r.map AV.d), row.length = 5 ∧ ∀ a ∈ row, a.one = true := by
 intro row h
 obtain ⟨r, hr, rfl⟩ := List.mem_map.1 h
 obtain ⟨t, _, rfl⟩ := List.mem_map.1 hr
 exact ⟨rfl, fun a ha => by obtain ⟨d, _, rfl⟩ := List.mem_map.1 ha; rfl⟩
theorem toksA_len (l : List Tok) : ((toksD l).map fun r => r.map AV.d).length = l.length := by rw [List.length_map, toksD_len]
theorem plain_any (s : List UInt8) (n : Nat) (l : List Tok) (hn : n < s.length) (σ : Store) (h0 : σ.get 0 = rdO s n l.length) (h1 : σ.get 1 = outO l) : CallsAbs Tryz.prog 106 [.ref 0 0 0] σ fun r σ' => r = .d (.bool (plainB (s.drop n))) ∧ σ' = σ := by
 refine PureC.borrow 1 (plain_pure s n l hn) rfl ?_
 have e := see_own (n := 0) (len := l.length) h1 (toksD_len l).symm
 unfold rdO at h0
 simp only [optL, seeV, h0, e, seeD_d, List.getElem?_cons_zero, Option.map_some, rdR]
theorem left_any (s : List UInt8) (n : Nat) (l : List Tok) (hn : n ≤ s.length) (σ : Store) (h0 : σ.get 0 = rdO s n l.length) (h1 : σ.get 1 = outO l) : CallsAbs Tryz.prog 105 [.ref 0 0 0] σ fun r σ' => r = .d (.str (s.drop n)) ∧ σ' = σ := by
 refine PureC.borrow 1 (left_pure s n l hn) rfl ?_
 have e := see_own (n := 0) (len := l.length) h1 (toksD_len l).symm
 unfold rdO at h0
 simp only [optL, seeV, h0, e, seeD_d, List.getElem?_cons_zero, Option.map_some, rdR]
theorem tok_sub (k : Int) (nm tx : List UInt8) (σ : Store) : FinMove σ (.agg [.d (.int .i64 k), .d (.str nm), .nil, .d (.bool false), .d (.str tx)]) σ (.agg ((tokD ⟨k, nm, [], false, tx⟩).map .d)) σ :=
 fin_sub (Sub.agg rfl (fun i a b ha hb => by
  rcases i with _ | _ | _ | _ | _ | i
  ·cases ha; cases hb; exact Sub.refl _
  ·cases ha; cases hb; exact Sub.refl _
  ·cases ha; cases hb; exact Sub.nil
  ·cases ha; cases hb; exact Sub.refl _
  ·cases ha; cases hb; exact Sub.refl _
  ·cases ha))
theorem out_app (l : List Tok) (t : Tok) (σ : Store) (K : AV → Store → Prop) (h1 : σ.get 1 = outO l) (hl : l.length ≤ 1000000) (hK : K (.own σ.n 0 (l ++ [t]).length) ⟨σ.n + 1, (σ.n, outO (l ++ [t])) :: (1, .dead) :: σ.objs⟩) :
  aappend Tryz.tab σ [41, 41] (.own 1 0 l.length) (.d (.sl [tokD t])) K := by
 have hml := toksA_len l
 have e1 := toks_snoc l t
 have e2 : ((toksD l).map fun r => r.map AV.d).length + 1 = (l ++ [t]).length := by simp [toksD]
 refine ⟨(toksD l).map (fun r : List D => List.map AV.d r), [(tokD t).map AV.d], ?_, rfl, (show srcLen (.own 1 0 l.length) _ from hml), trivial, (by rw [hml]; show (l.length + 1) * 72 ≤ 140737488355328; omega), Nat.le_of_ble_eq_true rfl, Nat.le_of_ble_eq_true rfl, rfl, rfl, toksRows l, toksRows [t], ?_⟩
 ·show (match σ.get 1 with | .rows _ rs => some ((rs.drop 0).take l.length) | _ => none) = _
  rw [h1]
  exact congrArg some (takeAll hml)
 ·show chk (isRowsE 5 45 (σ.get 1)) _
  rw [h1]
  show K (.own σ.n 0 (((toksD l).map fun r => r.map AV.d).length + 1)) ⟨σ.n + 1, (σ.n, .rows (5, 45) (((toksD l).map fun r => r.map AV.d) ++ [(tokD t).map AV.d])) :: (1, .dead) :: σ.objs⟩
  rw [e1, e2]
  exact hK
set_option maxRecDepth 100000 in
theorem text_ok (s : List UInt8) (n : Nat) (l : List Tok) (hn : n ≤ s.length) (hs : s.length ≤ 1000000) (hl : l.length ≤ 1000000) :
  CallsAbs Tryz.prog 107 [.ref 0 0 0] (rdS s n l) fun r σ' => r = .tup [] ∧ σ' = rdS2 s (n + runN plainB (s.drop n)) (l ++ [textT (resolve ((s.drop n).take (runN plainB (s.drop n))))]) := by
 refine fn_okT Tryz.wf Tryz.tab_ok Tryz.func107 (by decide +kernel) rfl rfl ?_
 repeat' (first | refine PureC.use hc1 ?_ | refine CallsAbs.use1 hd1 ?_ | refine wO ?_ | (refine ⟨fun h => ?_, fun h => ?_⟩ <;> (try simp only [wS, List.length_cons, List.length_nil] at h) <;> (try exact wX h)) | refine wP ?_ | fail)
 have hdl : (s.drop n).length = s.length - n := by simp
 have hle := runN_le plainB (s.drop n)
 refine loopT Tryz.wf Tryz.tab_ok (fun m s' σ => ∃ k : Nat, m = s.length - (n + k) ∧ k ≤ runN plainB (s.drop n) ∧ s' = [(0, .ref 0 0 0), (2, .d (.int .i64 n))] ∧ σ = rdS s (n + k) l)
  ⟨0, rfl, Nat.zero_le _, rfl, rfl⟩ (Mv.of [] rfl rfl rfl ⟨⟨rfl, .inl ⟨rfl, dataA_pure _⟩⟩, ⟨rfl, .inr ⟨⟨rfl, rfl, ⟨rfl, rfl, rfl⟩, trivial⟩, trivial⟩⟩, trivial⟩ ⟨⟨rfl, rfl, rfl⟩, rfl, trivial⟩) ?_
 rintro _ _ _ ⟨k, rfl, hk, rfl, rfl⟩
 by_cases hgo : n + k < s.length ∧ plainB (s.drop (n + k)) = true
 ·obtain ⟨hlt, hp⟩ := hgo
  have hd1 := plain_any s (n + k) l hlt (rdS s (n + k) l) rfl rfl
  rw [hp] at hd1
  have hk1 := runN_more plainB (s.drop n) k hk (by omega) (by rw [List.drop_drop]; exact hp)
  clear hp
  repeat' (first | refine PureC.use hc1 ?_ | refine CallsAbs.use1 hd1 ?_ | refine wO ?_ | (refine ⟨fun h => ?_, fun h => ?_⟩ <;> (try simp only [wS, List.length_cons, List.length_nil] at h) <;> (try exact wX h)) | refine wP ?_ | fail)
  refine drawnT Tryz.wf Tryz.tab_ok Tryz.mixed (by decide +kernel) ?_
  repeat' (first | refine qO ?_ | refine qstep rfl rfl (CallsAbs.use1 hd1 (FinMove.refl _ _ _)) ?_ | refine qP ?_ | fail)
  repeat' (first | refine PureC.use hc1 ?_ | refine CallsAbs.use1 hd1 ?_ | refine wO ?_ | (refine ⟨fun h => ?_, fun h => ?_⟩ <;> (try simp only [wS, List.length_cons, List.length_nil] at h) <;> (try exact wX h)) | refine wP ?_ | fail)
  exact ⟨_, _, _, ⟨k + 1, rfl, hk1, rfl, rfl⟩, by omega, Mv.of [] rfl rfl rfl ⟨⟨rfl, .inl ⟨rfl, dataA_pure _⟩⟩, ⟨rfl, .inr ⟨⟨rfl, congrArg (D.int .i64) (show ((n + (k + 1) : Nat) : Int) = ((n + k : Nat) : Int) + 1 by omega), ⟨rfl, rfl, rfl⟩, trivial⟩, trivial⟩⟩, trivial⟩ ⟨⟨rfl, rfl, rfl⟩, rfl, trivial⟩⟩
 ·have hk1 := runN_done plainB (s.drop n) k hk (fun h => by
   rw [List.drop_drop]
   by_cases hp : plainB (s.drop (n + k)) = true
   ·exact absurd ⟨by omega, hp⟩ hgo
   ·simpa using hp)
  have hrl := (resolve_len ((s.drop n).take k).length ((s.drop n).take k) (Nat.le_refl _))
  have hc1 := Resolve_ok ((s.take ((n + k : Nat) : Int).toNat).drop ((n : Nat) : Int).toNat) (by simp; omega)
  have hsl : (s.take ((n + k : Nat) : Int).toNat).drop ((n : Nat) : Int).toNat = (s.drop n).take k := by
   rw [Int.toNat_natCast, Int.toNat_natCast, List.drop_take, Nat.add_sub_cancel_left]
  rw [← hk1]
  have hb1 := tok_sub 1 [] (resolve ((s.drop n).take k))
  rw [hsl] at hc1
  have hd1 : n + k < s.length → CallsAbs Tryz.prog 106 [.ref 0 0 0] (rdS s (n + k) l) fun r σ' => r = .d (.bool false) ∧ σ' = rdS s (n + k) l := fun hlt => by
   have h := plain_any s (n + k) l hlt (rdS s (n + k) l) rfl rfl
   rwa [show plainB (s.drop (n + k)) = false by cases h : plainB (s.drop (n + k)) with | true => exact absurd ⟨hlt, h⟩ hgo | false => rfl] at h
  by_cases hlt : n + k < s.length
  ·replace hd1 := hd1 hlt
   repeat' (first | refine PureC.use hc1 ?_ | refine CallsAbs.use1 hd1 ?_ | refine wO ?_ | (refine ⟨fun h => ?_, fun h => ?_⟩ <;> (try simp only [wS, List.length_cons, List.length_nil] at h) <;> (try exact wX h)) | refine wP ?_ | fail)
   refine drawnT Tryz.wf Tryz.tab_ok Tryz.mixed (by decide +kernel) ?_
   repeat' (first | refine qO ?_ | refine qstep rfl rfl (CallsAbs.use1 hd1 (FinMove.refl _ _ _)) ?_ | refine qP ?_ | fail)
   repeat' (first | refine PureC.use hc1 ?_ | refine CallsAbs.use1 hd1 ?_ | refine wO ?_ | (refine ⟨fun h => ?_, fun h => ?_⟩ <;> (try simp only [wS, List.length_cons, List.length_nil] at h) <;> (try exact wX h)) | refine wP ?_ | fail)
   generalize hx : resolve ((s.drop n).take k) = x at *
   refine drawnZ Tryz.wf Tryz.tab_ok [18, 21] (fun t => match t with
    | 0 => rdS s (n + k) l
    | 1 => ⟨3, [(2, outO (l ++ [textT x])), (0, rdO s (n + k) l.length)]⟩
    | _ => rdS2 s (n + k) (l ++ [textT x])) rfl Tryz.mixed (by decide +kernel) ?_
   iterate 14 (first | refine zblind (by decide +kernel) rfl rfl (fun _ => FinMove.refl _ _ _) ?_ | refine zreadL [0] (by decide +kernel) rfl rfl ⟨⟨_, rfl, _, rfl, FinMove.refl _ _ _⟩, trivial⟩ ?_)
   refine zblind (r := .d (.str ((s.drop n).take k))) (by decide +kernel) rfl rfl (fun _ => ⟨⟨by (first | omega | (simp only [lenS]; omega)), by (first | omega | (simp only [lenS]; omega)), by (first | omega | (simp only [lenS]; omega))⟩, fin_eq (congrArg (fun x => AV.d (.str x)) hsl)⟩) ?_
   refine zblind (by decide +kernel) rfl rfl (fun _ => PureC.use hc1 (FinMove.refl _ _ _)) ?_
   refine zblind (by decide +kernel) rfl rfl (fun _ => hb1 _) ?_
   refine zreadL (r := .d (.sl [tokD (textT x)])) [0] (by decide +kernel) rfl rfl ⟨fin_lit rfl rfl rfl ⟨⟨rfl, .inl ⟨rfl, dataA_pure _⟩⟩, ⟨rfl, .inr ⟨⟨rfl, rfl, ⟨rfl, rfl, rfl⟩, trivial⟩, trivial⟩⟩, trivial⟩, trivial⟩ ?_
   refine zeff (r := .own 2 0 (l ++ [textT x]).length) rfl rfl rfl ?_ ?_
   ·refine out_app l (textT x) (rdS s (n + k) l) (fun v σ' => FinMove (rdS s (n + k) l) v σ' (.own 2 0 (l ++ [textT x]).length) ⟨3, [(2, outO (l ++ [textT x])), (0, rdO s (n + k) l.length)]⟩) rfl hl ?_
    exact fin_mv [.old 2] rfl rfl rfl ⟨⟨rfl, .inl ⟨rfl, dataA_pure _⟩⟩, ⟨rfl, .inr ⟨⟨rfl, rfl, ⟨rfl, rfl, rfl⟩, trivial⟩, trivial⟩⟩, trivial⟩ ⟨rfl, rfl, rfl⟩
   iterate 2 refine zblind (by decide +kernel) rfl rfl (fun _ => FinMove.refl _ _ _) ?_
   refine zeff rfl rfl rfl ⟨_, rfl, rfl, Nat.le_of_ble_eq_true rfl, fin_mv (r' := .top) [] rfl rfl rfl ⟨⟨rfl, .inl ⟨rfl, dataA_pure _⟩⟩, ⟨rfl, .inr ⟨⟨rfl, rfl, ⟨rfl, rfl, rfl⟩, trivial⟩, trivial⟩⟩, trivial⟩ trivial⟩ ?_
   repeat' (first | refine PureC.use hc1 ?_ | refine CallsAbs.use1 hd1 ?_ | refine wO ?_ | (refine ⟨fun h => ?_, fun h => ?_⟩ <;> (try simp only [wS, List.length_cons, List.length_nil] at h) <;> (try exact wX h)) | refine wP ?_ | fail)
   exact ⟨_, _, FinMove.refl _ _ _, rfl, rfl⟩
  ·clear hd1
   repeat' (first | refine PureC.use hc1 ?_ | refine CallsAbs.use1 hd1 ?_ | refine wO ?_ | (refine ⟨fun h => ?_, fun h => ?_⟩ <;> (try simp only [wS, List.length_cons, List.length_nil] at h) <;> (try exact wX h)) | refine wP ?_ | fail)
   refine drawnT Tryz.wf Tryz.tab_ok Tryz.mixed (by decide +kernel) ?_
   repeat' (first | refine qO ?_ | refine qstep rfl rfl (CallsAbs.use1 hd1 (FinMove.refl _ _ _)) ?_ | refine qP ?_ | fail)
   repeat' (first | refine PureC.use hc1 ?_ | refine CallsAbs.use1 hd1 ?_ | refine wO ?_ | (refine ⟨fun h => ?_, fun h => ?_⟩ <;> (try simp only [wS, List.length_cons, List.length_nil] at h) <;> (try exact wX h)) | refine wP ?_ | fail)
   generalize hx : resolve ((s.drop n).take k) = x at *
   refine drawnZ Tryz.wf Tryz.tab_ok [18, 21] (fun t => match t with
    | 0 => rdS s (n + k) l
    | 1 => ⟨3, [(2, outO (l ++ [textT x])), (0, rdO s (n + k) l.length)]⟩
    | _ => rdS2 s (n + k) (l ++ [textT x])) rfl Tryz.mixed (by decide +kernel) ?_
   iterate 14 (first | refine zblind (by decide +kernel) rfl rfl (fun _ => FinMove.refl _ _ _) ?_ | refine zreadL [0] (by decide +kernel) rfl rfl ⟨⟨_, rfl, _, rfl, FinMove.refl _ _ _⟩, trivial⟩ ?_)
   refine zblind (r := .d (.str ((s.drop n).take k))) (by decide +kernel) rfl rfl (fun _ => ⟨⟨by (first | omega | (simp only [lenS]; omega)), by (first | omega | (simp only [lenS]; omega)), by (first | omega | (simp only [lenS]; omega))⟩, fin_eq (congrArg (fun x => AV.d (.str x)) hsl)⟩) ?_
   refine zblind (by decide +kernel) rfl rfl (fun _ => PureC.use hc1 (FinMove.refl _ _ _)) ?_
   refine zblind (by decide +kernel) rfl rfl (fun _ => hb1 _) ?_
   refine zreadL (r := .d (.sl [tokD (textT x)])) [0] (by decide +kernel) rfl rfl ⟨fin_lit rfl rfl rfl ⟨⟨rfl, .inl ⟨rfl, dataA_pure _⟩⟩, ⟨rfl, .inr ⟨⟨rfl, rfl, ⟨rfl, rfl, rfl⟩, trivial⟩, trivial⟩⟩, trivial⟩, trivial⟩ ?_
   refine zeff (r := .own 2 0 (l ++ [textT x]).length) rfl rfl rfl ?_ ?_
   ·refine out_app l (textT x) (rdS s (n + k) l) (fun v σ' => FinMove (rdS s (n + k) l) v σ' (.own 2 0 (l ++ [textT x]).length) ⟨3, [(2, outO (l ++ [textT x])), (0, rdO s (n + k) l.length)]⟩) rfl hl ?_
    exact fin_mv [.old 2] rfl rfl rfl ⟨⟨rfl, .inl ⟨rfl, dataA_pure _⟩⟩, ⟨rfl, .inr ⟨⟨rfl, rfl, ⟨rfl, rfl, rfl⟩, trivial⟩, trivial⟩⟩, trivial⟩ ⟨rfl, rfl, rfl⟩
   iterate 2 refine zblind (by decide +kernel) rfl rfl (fun _ => FinMove.refl _ _ _) ?_
   refine zeff rfl rfl rfl ⟨_, rfl, rfl, Nat.le_of_ble_eq_true rfl, fin_mv (r' := .top) [] rfl rfl rfl ⟨⟨rfl, .inl ⟨rfl, dataA_pure _⟩⟩, ⟨rfl, .inr ⟨⟨rfl, rfl, ⟨rfl, rfl, rfl⟩, trivial⟩, trivial⟩⟩, trivial⟩ trivial⟩ ?_
   repeat' (first | refine PureC.use hc1 ?_ | refine CallsAbs.use1 hd1 ?_ | refine wO ?_ | (refine ⟨fun h => ?_, fun h => ?_⟩ <;> (try simp only [wS, List.length_cons, List.length_nil] at h) <;> (try exact wX h)) | refine wP ?_ | fail)
   exact ⟨_, _, FinMove.refl _ _ _, rfl, rfl⟩
theorem hasPre_len {s t : List UInt8} (h : hasPre s t = true) : t.length ≤ s.length := by
 simp only [hasPre, Bool.and_eq_true, decide_eq_true_eq] at h
 exact h.1
def toN (t s : List UInt8) : Nat := runN (fun x => !hasPre x t) s
theorem toN_lt {t s : List UInt8} (h : toN t s ≠ s.length) : toN t s + t.length ≤ s.length := by
 have h1 := runN_le (fun x => !hasPre x t) s
 have h2 := runN_stop (fun x => !hasPre x t) s (by unfold toN at h; omega)
 have h3 : hasPre (s.drop (runN (fun x => !hasPre x t) s)) t = true := by simpa using h2
 have h4 := hasPre_len h3
 rw [List.length_drop] at h4
 unfold toN at h ⊢
 omega
theorem store_out (s : List UInt8) (n n' : Nat) (l : List Tok) (v : Int) (h : v = n') : orel (phi 2 []) (outO l) (outO l) ∧ orel (phi 2 []) (rdO s n' l.length) (.rows (3, 88) [[.d (.str s), .d (.int .i64 v), .own 1 0 l.length]]) ∧ True := by
 subst h
 exact ⟨⟨rfl, .inl ⟨rfl, dataA_pure _⟩⟩, ⟨rfl, .inr ⟨⟨rfl, rfl, ⟨rfl, rfl, rfl⟩, trivial⟩, trivial⟩⟩, trivial⟩
set_option maxRecDepth 100000 in
theorem over_ok (s : List UInt8) (n : Nat) (l : List Tok) (t : List UInt8) (ht : t ≠ []) (htl : t.length ≤ 1000) (hn : n ≤ s.length) (hs : s.length ≤ 1000000) :
  CallsAbs Tryz.prog 108 [.ref 0 0 0, .d (.str t)] (rdS s n l) fun r σ' => r = .d (.str ((s.drop n).take (toN t (s.drop n)))) ∧ σ' = rdS s (s.length - ((s.drop n).drop (toN t (s.drop n) + t.length)).length) l := by
 have hd1 := left_any s n l hn (rdS s n l) rfl rfl
 have hc1 := Index_any (s.drop n) t (by simp; omega) ht
 have hdl : (s.drop n).length = s.length - n := by simp
 have hle : toN t (s.drop n) ≤ (s.drop n).length := runN_le _ _
 have hlt := @toN_lt t (s.drop n)
 unfold idxT at hc1
 rw [show runN (fun x => !hasPre x t) (s.drop n) = toN t (s.drop n) from rfl] at hc1
 have hdr : ((s.drop n).drop (toN t (s.drop n) + t.length)).length = s.length - n - (toN t (s.drop n) + t.length) := by rw [List.length_drop, hdl]
 rw [hdr]
 generalize hm : toN t (s.drop n) = m at *
 generalize hr : s.drop n = r at *
 refine fn_okT Tryz.wf Tryz.tab_ok Tryz.func108 (by decide +kernel) rfl rfl ?_
 by_cases h : m = r.length
 ·rw [if_pos h] at hc1
  clear hlt
  repeat' (first | refine PureC.use hc1 ?_ | refine CallsAbs.use1 hd1 ?_ | refine wO ?_ | (refine ⟨fun h => ?_, fun h => ?_⟩ <;> (try simp only [wS, List.length_cons, List.length_nil] at h) <;> (try exact wX h)) | refine wP ?_ | fail)
  refine ⟨.d (.str (r.take m)), rdS s (s.length - (s.length - n - (m + t.length))) l, ?_, rfl, rfl⟩
  rw [h, List.take_length]
  exact fin_mv [] rfl rfl rfl (store_out s n _ l _ (by omega)) rfl
 ·rw [if_neg h] at hc1
  have h1 := hlt h
  clear hlt
  repeat' (first | refine PureC.use hc1 ?_ | refine CallsAbs.use1 hd1 ?_ | refine wO ?_ | (refine ⟨fun h => ?_, fun h => ?_⟩ <;> (try simp only [wS, List.length_cons, List.length_nil] at h) <;> (try exact wX h)) | refine wP ?_ | fail)
  refine ⟨.d (.str (r.take m)), rdS s (s.length - (s.length - n - (m + t.length))) l, ?_, rfl, rfl⟩
  exact fin_mv [] rfl rfl rfl (store_out s n _ l _ (by omega)) (congrArg D.str (by rw [Int.toNat_natCast]; rfl))
def sepL : List UInt8 := [9, 10, 12, 13, 32, 47, 62]
theorem sep_mem (c : UInt8) : decide (c ∈ sepL) = (blkB c || (decide (c = 47) || decide (c = 62))) := by
 have e1 := u8eq c 47 (by decide)
 have e2 := u8eq c 62 (by decide)
 have e3 := u8eq c 9 (by decide)
 have e4 := u8eq c 10 (by decide)
 have e5 := u8eq c 12 (by decide)
 have e6 := u8eq c 13 (by decide)
 have e7 := u8eq c 32 (by decide)
 rw [decide_eq_decide] at e1 e2 e3 e4 e5 e6 e7
 unfold blkB
 rw [Bool.eq_iff_iff]
 simp only [sepL, List.mem_cons, List.not_mem_nil, or_false, Bool.or_eq_true, decide_eq_true_eq]
 rw [show (9 : UInt8) = UInt8.ofNat 9 from rfl, show (10 : UInt8) = UInt8.ofNat 10 from rfl, show (12 : UInt8) = UInt8.ofNat 12 from rfl, show (13 : UInt8) = UInt8.ofNat 13 from rfl, show (32 : UInt8) = UInt8.ofNat 32 from rfl, show (47 : UInt8) = UInt8.ofNat 47 from rfl, show (62 : UInt8) = UInt8.ofNat 62 from rfl, e1, e2, e3, e4, e5, e6, e7]
 omega
theorem rawEnd_eq (nm r : List UInt8) : rawEnd nm r = (!decide (nm = plaintext) && (hasPre r [60, 47] && (decide ((2 : Int) + nm.length < r.length) && (decide (lower ((r.take ((2 : Int) + (nm.length : Nat)).toNat).drop (2 : Int).toNat) = nm) && decide (0 ≤ idxB (r.getD ((2 : Int) + (nm.length : Nat)).toNat 0) sepL))))) := by
 unfold rawEnd
 have e0 : ((2 : Int) + (nm.length : Nat)).toNat = nm.length + 2 := by omega
 have e1 : (r.take ((2 : Int) + (nm.length : Nat)).toNat).drop (2 : Int).toNat = (r.drop 2).take nm.length := by
  rw [e0, show (2 : Int).toNat = 2 from rfl, List.drop_take, Nat.add_sub_cancel]
 have e2 : decide ((2 : Int) + nm.length < r.length) = decide (nm.length + 2 < r.length) := by rw [decide_eq_decide]; omega
 rw [e1, e2, e0, idx_mem _ _ (by decide), sep_mem]
 by_cases h : nm.length + 2 < r.length
 ·rw [hd_drop _ r (nm.length + 2) h, List.getD_eq_getElem?_getD, List.getElem?_eq_getElem h, Option.getD_some]
 ·rw [decide_eq_false h, Bool.false_and, Bool.false_and]
theorem rrel_app {f : Nat → Option VE} : ∀ (a : List (List AV)) {b b' : List (List AV)}, (∀ row ∈ a, pureL row = true) → rrel f b b' → rrel f (a ++ b) (a ++ b')
 | [], b, b', _, h => h
 | x :: a, b, b', hp, h => ⟨vrelL_self x (hp x (by simp)), rrel_app a (fun row hr => hp row (by simp [hr])) h⟩
theorem orel_outN (f : Nat → Option VE) (l : List Tok) (t : Tok) (row : List AV) (h : vrelL f ((tokD t).map AV.d) row) : orel f (outO (l ++ [t])) (.rows (5, 45) (((toksD l).map fun r => r.map AV.d) ++ [row])) := by
 refine ⟨rfl, .inr ?_⟩
 rw [← toks_snoc]
 exact rrel_app _ (dataA_pure _) ⟨h, trivial⟩
theorem len_snoc (l : List Tok) (t : Tok) : (l ++ [t]).length = ((toksD l).map fun r => r.map AV.d).length + 1 := by simp [toksD]
def rawX (b : Bool) (nm s : List UInt8) : List UInt8 := if b then resolve (s.take (rawN nm s)) else s.take (rawN nm s)
set_option maxRecDepth 100000 in
theorem raw_ok (s : List UInt8) (n : Nat) (l : List Tok) (nm : List UInt8) (b : Bool) (hn : n ≤ s.length) (hs : s.length ≤ 1000000) (hl : l.length ≤ 1000000) (hnm : nm.length ≤ 1000000) :
    CallsAbs Tryz.prog 111 [.ref 0 0 0, .d (.str nm), .d (.bool b)] (rdS s n l) fun r σ' => r = .tup [] ∧
      ((rawX b nm (s.drop n) = [] ∧ σ' = rdS s (n + rawN nm (s.drop n)) l) ∨ (rawX b nm (s.drop n) ≠ [] ∧ σ' = rdS2 s (n + rawN nm (s.drop n)) (l ++ [textT (rawX b nm (s.drop n))]))) := by
  refine fn_okT Tryz.wf Tryz.tab_ok Tryz.func111 (by decide +kernel) rfl rfl ?_
  repeat' (first | refine PureC.use hc1 ?_ | refine PureC.use hc2 ?_ | refine PureC.use hc3 ?_ | refine CallsAbs.use1 hd1 ?_ | refine wO ?_ | (refine ⟨fun h => ?_, fun h => ?_⟩ <;> (try simp only [wS, List.length_cons, List.length_nil] at h) <;> (try exact wX h)) | refine wP ?_ | fail)
  have hdl : (s.drop n).length = s.length - n := by simp
  have hle : rawN nm (s.drop n) ≤ (s.drop n).length := runN_le _ _
  refine loopT Tryz.wf Tryz.tab_ok (fun m s' σ => ∃ k : Nat, m = s.length - (n + k) ∧ k ≤ rawN nm (s.drop n) ∧ s' = [(0, .ref 0 0 0), (1, .d (.str nm)), (2, .d (.bool b)), (6, .d (.int .i64 n))] ∧ σ = rdS s (n + k) l)
    ⟨0, rfl, Nat.zero_le _, rfl, rfl⟩ (Mv.of [] rfl rfl rfl ⟨⟨rfl, .inl ⟨rfl, dataA_pure _⟩⟩, ⟨rfl, .inr ⟨⟨rfl, rfl, ⟨rfl, rfl, rfl⟩, trivial⟩, trivial⟩⟩, trivial⟩ ⟨⟨rfl, rfl, rfl⟩, rfl, rfl, rfl, trivial⟩) ?_
  rintro _ _ _ ⟨k, rfl, hk, rfl, rfl⟩
  by_cases hlt : n + k < s.length
  · have hd1 := left_any s (n + k) l (by omega) (rdS s (n + k) l) rfl rfl
    have hrl : (s.drop (n + k)).length = s.length - (n + k) := by simp
    have hmore : rawEnd nm (s.drop (n + k)) = false → k + 1 ≤ rawN nm (s.drop n) := fun h => runN_more _ (s.drop n) k hk (by omega) (by rw [List.drop_drop, h]; rfl)
    have hdone : rawEnd nm (s.drop (n + k)) = true → k = rawN nm (s.drop n) := fun h => runN_done _ (s.drop n) k hk (fun _ => by rw [List.drop_drop, h]; rfl)
    rw [rawEnd_eq] at hmore hdone
    have hc1 := HasPrefix_ok (s.drop (n + k)) [60, 47]
    have hc2 := Lower_ok (((s.drop (n + k)).take ((2 : Int) + (nm.length : Nat)).toNat).drop (2 : Int).toNat) (by simp; omega)
    have hc3 := IndexByte_ok sepL ((s.drop (n + k)).getD ((2 : Int) + (nm.length : Nat)).toNat 0)
    unfold plaintext sepL at *
    generalize s.drop (n + k) = r at *
    generalize hasPre r [60, 47] = b2 at *
    generalize idxB (r.getD ((2 : Int) + (nm.length : Nat)).toNat 0) [9, 10, 12, 13, 32, 47, 62] = ix at *
    generalize lower ((r.take ((2 : Int) + (nm.length : Nat)).toNat).drop (2 : Int).toNat) = y at *
    repeat' (first | refine PureC.use hc1 ?_ | refine PureC.use hc2 ?_ | refine PureC.use hc3 ?_ | refine CallsAbs.use1 hd1 ?_ | refine wO ?_ | (refine ⟨fun h => ?_, fun h => ?_⟩ <;> (try simp only [wS, List.length_cons, List.length_nil] at h) <;> (try exact wX h)) | refine wP ?_ | fail)
    refine drawnT Tryz.wf Tryz.tab_ok Tryz.mixed (by decide +kernel) ?_
    repeat' (first | refine qO ?_ | refine qstep rfl rfl (CallsAbs.use1 hd1 (FinMove.refl _ _ _)) ?_ | refine qP ?_ | fail)
    repeat' (first | refine PureC.use hc1 ?_ | refine PureC.use hc2 ?_ | refine PureC.use hc3 ?_ | refine CallsAbs.use1 hd1 ?_ | refine wO ?_ | (refine ⟨fun h => ?_, fun h => ?_⟩ <;> (try simp only [wS, List.length_cons, List.length_nil] at h) <;> (try exact wX h)) | refine wP ?_ | fail)
    all_goals first
      | exact ⟨_, _, _, ⟨k + 1, rfl, hmore (by first | (simp_all; done) | (simp_all; omega)), rfl, rfl⟩, by omega, Mv.of [] rfl rfl rfl ⟨⟨rfl, .inl ⟨rfl, dataA_pure _⟩⟩, ⟨rfl, .inr ⟨⟨rfl, congrArg (D.int .i64) (show ((n + (k + 1) : Nat) : Int) = ((n + k : Nat) : Int) + 1 by omega), ⟨rfl, rfl, rfl⟩, trivial⟩, trivial⟩⟩, trivial⟩ ⟨⟨rfl, rfl, rfl⟩, rfl, rfl, rfl, trivial⟩⟩
      | skip
    have hkk := hdone (by simp_all)
    clear hdone hmore hc1 hc2 hc3 hd1
    have hsl : (s.take ((n + k : Nat) : Int).toNat).drop ((n : Nat) : Int).toNat = (s.drop n).take k := by
      rw [Int.toNat_natCast, Int.toNat_natCast, List.drop_take, Nat.add_sub_cancel_left]
    have hX : rawX b nm (s.drop n) = if b then resolve ((s.take ((n + k : Nat) : Int).toNat).drop ((n : Nat) : Int).toNat) else (s.take ((n + k : Nat) : Int).toNat).drop ((n : Nat) : Int).toNat := by
      unfold rawX; rw [hsl, hkk]
    have hc1 := Resolve_ok ((s.take ((n + k : Nat) : Int).toNat).drop ((n : Nat) : Int).toNat) (by rw [hsl]; simp; omega)
    rw [← hkk]
    generalize hy : (s.take ((n + k : Nat) : Int).toNat).drop ((n : Nat) : Int).toNat = y at *
    refine drawnT Tryz.wf Tryz.tab_ok Tryz.mixed (by decide +kernel) ?_
    iterate 9 (first | refine qstep rfl rfl (FinMove.refl _ _ _) ?_ | refine qstep rfl rfl ⟨_, rfl, _, rfl, FinMove.refl _ _ _⟩ ?_)
    refine qstep (r := .d (.str y)) rfl rfl ⟨⟨by (first | omega | (simp only [lenS]; omega)), by (first | omega | (simp only [lenS]; omega)), by (first | omega | (simp only [lenS]; omega))⟩, fin_eq (congrArg (fun x => AV.d (.str x)) hy)⟩ ?_
    refine qstep rfl rfl (FinMove.refl _ _ _) ?_
    repeat' (first | refine PureC.use hc1 ?_ | refine PureC.use hc2 ?_ | refine PureC.use hc3 ?_ | refine CallsAbs.use1 hd1 ?_ | refine wO ?_ | (refine ⟨fun h => ?_, fun h => ?_⟩ <;> (try simp only [wS, List.length_cons, List.length_nil] at h) <;> (try exact wX h)) | refine wP ?_ | fail)
    all_goals first
      | (have hx : rawX b nm (s.drop n) = [] := by simp_all
         exact ⟨_, _, FinMove.refl _ _ _, rfl, .inl ⟨hx, rfl⟩⟩)
      | (have hx : rawX b nm (s.drop n) ≠ [] := by simp_all
         refine ⟨(toksD l).map (fun r : List D => List.map AV.d r), [_], congrArg some (takeAll (toksA_len l)), rfl, (show srcLen (.own 1 0 l.length) _ from toksA_len l), rfl, (by rw [toksA_len]; show (l.length + 1) * 72 ≤ 140737488355328; omega), Nat.le_of_ble_eq_true rfl, Nat.le_of_ble_eq_true rfl, rfl, rfl, toksRows l, rowsOne rfl rfl, ?_⟩
         repeat' (first | refine PureC.use hc1 ?_ | refine PureC.use hc2 ?_ | refine PureC.use hc3 ?_ | refine CallsAbs.use1 hd1 ?_ | refine wO ?_ | (refine ⟨fun h => ?_, fun h => ?_⟩ <;> (try simp only [wS, List.length_cons, List.length_nil] at h) <;> (try exact wX h)) | refine wP ?_ | fail)
         refine ⟨.tup [], rdS2 s (n + k) (l ++ [textT (rawX b nm (s.drop n))]), fin_mv [.old 3] rfl rfl rfl ⟨orel_outN _ l _ _ ⟨rfl, rfl, rfl, rfl, congrArg D.str (by first | exact hX.trans (if_pos (by assumption)) | exact hX.trans (if_neg (by simp_all))), trivial⟩, ⟨rfl, .inr ⟨⟨rfl, rfl, ⟨rfl, rfl, len_snoc l _⟩, trivial⟩, trivial⟩⟩, trivial⟩ trivial, rfl, .inr ⟨hx, rfl⟩⟩)
  · have hkk : k = rawN nm (s.drop n) := runN_done _ (s.drop n) k hk (fun _ => by omega)
    repeat' (first | refine PureC.use hc1 ?_ | refine PureC.use hc2 ?_ | refine PureC.use hc3 ?_ | refine CallsAbs.use1 hd1 ?_ | refine wO ?_ | (refine ⟨fun h => ?_, fun h => ?_⟩ <;> (try simp only [wS, List.length_cons, List.length_nil] at h) <;> (try exact wX h)) | refine wP ?_ | fail)
    refine drawnT Tryz.wf Tryz.tab_ok Tryz.mixed (by decide +kernel) ?_
    repeat' (first | refine qO ?_ | refine qstep rfl rfl (CallsAbs.use1 hd1 (FinMove.refl _ _ _)) ?_ | refine qP ?_ | fail)
    repeat' (first | refine PureC.use hc1 ?_ | refine PureC.use hc2 ?_ | refine PureC.use hc3 ?_ | refine CallsAbs.use1 hd1 ?_ | refine wO ?_ | (refine ⟨fun h => ?_, fun h => ?_⟩ <;> (try simp only [wS, List.length_cons, List.length_nil] at h) <;> (try exact wX h)) | refine wP ?_ | fail)
    have hsl : (s.take ((n + k : Nat) : Int).toNat).drop ((n : Nat) : Int).toNat = (s.drop n).take k := by
      rw [Int.toNat_natCast, Int.toNat_natCast, List.drop_take, Nat.add_sub_cancel_left]
    have hX : rawX b nm (s.drop n) = if b then resolve ((s.take ((n + k : Nat) : Int).toNat).drop ((n : Nat) : Int).toNat) else (s.take ((n + k : Nat) : Int).toNat).drop ((n : Nat) : Int).toNat := by
      unfold rawX; rw [hsl, hkk]
    have hc1 := Resolve_ok ((s.take ((n + k : Nat) : Int).toNat).drop ((n : Nat) : Int).toNat) (by rw [hsl]; simp; omega)
    rw [← hkk]
    generalize hy : (s.take ((n + k : Nat) : Int).toNat).drop ((n : Nat) : Int).toNat = y at *
    refine drawnT Tryz.wf Tryz.tab_ok Tryz.mixed (by decide +kernel) ?_
    iterate 9 (first | refine qstep rfl rfl (FinMove.refl _ _ _) ?_ | refine qstep rfl rfl ⟨_, rfl, _, rfl, FinMove.refl _ _ _⟩ ?_)
    refine qstep (r := .d (.str y)) rfl rfl ⟨⟨by (first | omega | (simp only [lenS]; omega)), by (first | omega | (simp only [lenS]; omega)), by (first | omega | (simp only [lenS]; omega))⟩, fin_eq (congrArg (fun x => AV.d (.str x)) hy)⟩ ?_
    refine qstep rfl rfl (FinMove.refl _ _ _) ?_
    repeat' (first | refine PureC.use hc1 ?_ | refine PureC.use hc2 ?_ | refine PureC.use hc3 ?_ | refine CallsAbs.use1 hd1 ?_ | refine wO ?_ | (refine ⟨fun h => ?_, fun h => ?_⟩ <;> (try simp only [wS, List.length_cons, List.length_nil] at h) <;> (try exact wX h)) | refine wP ?_ | fail)
    all_goals first
      | (have hx : rawX b nm (s.drop n) = [] := by simp_all
         exact ⟨_, _, FinMove.refl _ _ _, rfl, .inl ⟨hx, rfl⟩⟩)
      | (have hx : rawX b nm (s.drop n) ≠ [] := by simp_all
         refine ⟨(toksD l).map (fun r : List D => List.map AV.d r), [_], congrArg some (takeAll (toksA_len l)), rfl, (show srcLen (.own 1 0 l.length) _ from toksA_len l), rfl, (by rw [toksA_len]; show (l.length + 1) * 72 ≤ 140737488355328; omega), Nat.le_of_ble_eq_true rfl, Nat.le_of_ble_eq_true rfl, rfl, rfl, toksRows l, rowsOne rfl rfl, ?_⟩
         repeat' (first | refine PureC.use hc1 ?_ | refine PureC.use hc2 ?_ | refine PureC.use hc3 ?_ | refine CallsAbs.use1 hd1 ?_ | refine wO ?_ | (refine ⟨fun h => ?_, fun h => ?_⟩ <;> (try simp only [wS, List.length_cons, List.length_nil] at h) <;> (try exact wX h)) | refine wP ?_ | fail)
         refine ⟨.tup [], rdS2 s (n + k) (l ++ [textT (rawX b nm (s.drop n))]), fin_mv [.old 3] rfl rfl rfl ⟨orel_outN _ l _ _ ⟨rfl, rfl, rfl, rfl, congrArg D.str (by first | exact hX.trans (if_pos (by assumption)) | exact hX.trans (if_neg (by simp_all))), trivial⟩, ⟨rfl, .inr ⟨⟨rfl, rfl, ⟨rfl, rfl, len_snoc l _⟩, trivial⟩, trivial⟩⟩, trivial⟩ trivial, rfl, .inr ⟨hx, rfl⟩⟩)
theorem _root_.Go.Aw.scopeL {P : Program} {N B : Nat} (hw : wfP P = true) {c : Code} {K : Exit → St → Store → Prop} (J : Nat → Nat → St → Store → Prop)
  (pass : ∀ l n s σ, J l n s σ → ∃ r, findLabel c l = some (.seq .skip r) ∧ E P N B r (fun e s' σ' => match e with | .goto l' => ∃ n' s'' σ'', J l' n' s'' σ'' ∧ n' < n ∧ Mv B s' σ' s'' σ'' | e => K e s' σ') s σ)
  {s : St} {σ : Store} (first : (∀ l n s σ, J l n s σ → ∃ r, findLabel c l = some (.seq .skip r) ∧ E P N B r (fun e s' σ' => match e with | .goto l' => ∃ n' s'' σ'', J l' n' s'' σ'' ∧ Mv B s' σ' s'' σ'' | e => K e s' σ') s σ) →
   E P N B c (fun e s' σ' => match e with | .goto l' => ∃ n' s'' σ'', J l' n' s'' σ'' ∧ Mv B s' σ' s'' σ'' | e => K e s' σ') s σ) : E P N B (.scope c) K s σ := by
 refine scopeJ J (fun l n s σ h => ?_) (first fun l n s σ h => ?_)
 ·obtain ⟨r, h1, h2⟩ := pass l n s σ h
  exact ⟨_, h1, E.seq (E.of hw rfl h2)⟩
 ·obtain ⟨r, h1, h2⟩ := pass l n s σ h
  refine ⟨r, h1, h2.mono fun e s' σ' hk => ?_⟩
  cases e with
  | goto l' => obtain ⟨n', s'', σ'', q1, _, q2⟩ := hk; exact ⟨n', s'', σ'', q1, q2⟩
  | _ => exact hk
theorem rd_any {f : FuncId} {args : List AV} {r0 : AV} (hc : Callable Tryz.prog f) {s : List UInt8} {n n' : Nat} {l : List Tok} (hp : pureL args = true) (hr : r0.pure = true)
  (h : CallsAbs Tryz.prog f (.ref 0 0 0 :: args) (rdS s n l) fun r σ' => r = r0 ∧ σ' = rdS s n' l) (σ : Store) (h0 : σ.get 0 = rdO s n l.length) (h1 : σ.get 1 = outO l) :
  CallsAbs Tryz.prog f (.ref 0 0 0 :: args) σ fun r σ' => r = r0 ∧ σ' = ⟨σ.n, (0, rdO s n' l.length) :: (1, outO l) :: σ.objs⟩ := by
 rcases Nat.lt_or_ge 1 σ.n with hn | hn
 ·obtain ⟨k, objs⟩ := σ
  obtain ⟨k, rfl⟩ : ∃ j, k = j + 2 := ⟨k - 2, by dsimp only at hn; omega⟩
  refine CallsAbs.frame h [.old 0, .old 1] ⟨Nat.zero_le _, rfl, by simp [goodr, idx], ⟨?_, ?_, trivial⟩⟩ ⟨⟨rfl, rfl, rfl⟩, vrelL_self args hp⟩ ?_
  ·show orel _ (outO l) (Store.get ⟨k + 2, objs⟩ 1)
   rw [h1]
   exact ⟨rfl, .inl ⟨rfl, dataA_pure _⟩⟩
  ·show orel _ (rdO s n l.length) (Store.get ⟨k + 2, objs⟩ 0)
   rw [h0]
   exact ⟨rfl, .inr ⟨⟨rfl, rfl, ⟨rfl, rfl, rfl⟩, trivial⟩, trivial⟩⟩
  ·rintro _ _ ⟨rfl, rfl⟩
   exact ⟨_, [(0, rdO s n' l.length), (1, outO l)], ⟨⟨rfl, .inr ⟨⟨rfl, rfl, ⟨rfl, rfl, rfl⟩, trivial⟩, trivial⟩⟩, ⟨rfl, .inl ⟨rfl, dataA_pure _⟩⟩, trivial⟩, rfl, vrel_self _ hr, rfl, rfl⟩
 ·exact .inl ⟨hc, fun g w vs R hL => by
   have := R.dead 1 (by rw [← R.n]; exact hn)
   rw [h1] at this; cases this⟩
theorem pass_any (f : FuncId) (p : UInt8 → Bool) (hf : ∀ c : UInt8, PureC Tryz.prog f [.d (.int .u8 c.toNat)] (.d (.bool (p c)))) (s : List UInt8) (n n' : Nat) (l : List Tok) (hn : n ≤ s.length) (hs : s.length ≤ 1000000) (e : n' = n + runN (hdB p) (s.drop n)) (σ : Store) (h0 : σ.get 0 = rdO s n l.length) (h1 : σ.get 1 = outO l) :
  CallsAbs Tryz.prog 153 [.ref 0 0 0, .fn (.func f) [] []] σ fun r σ' => r = .d (.str ((s.drop n).take (n' - n))) ∧ σ' = ⟨σ.n, (0, rdO s n' l.length) :: (1, outO l) :: σ.objs⟩ := by
 subst e
 rw [Nat.add_sub_cancel_left]
 exact rd_any ⟨_, Tryz.func153, by decide +kernel, rfl⟩ rfl rfl (pass_ok f p hf s n l hn (by omega)) σ h0 h1
theorem over_any (s : List UInt8) (n : Nat) (l : List Tok) (t : List UInt8) (ht : t ≠ []) (htl : t.length ≤ 1000) (hn : n ≤ s.length) (hs : s.length ≤ 1000000) (σ : Store) (h0 : σ.get 0 = rdO s n l.length) (h1 : σ.get 1 = outO l) :
  CallsAbs Tryz.prog 108 [.ref 0 0 0, .d (.str t)] σ fun r σ' => r = .d (.str ((s.drop n).take (toN t (s.drop n)))) ∧ σ' = ⟨σ.n, (0, rdO s (s.length - ((s.drop n).drop (toN t (s.drop n) + t.length)).length) l.length) :: (1, outO l) :: σ.objs⟩ :=
 rd_any ⟨_, Tryz.func108, by decide +kernel, rfl⟩ rfl rfl (over_ok s n l t ht htl hn hs) σ h0 h1
theorem between_skip : ∀ (s : List UInt8) (cl : Bool) (ats : List Attr), between s cl ats = between (skipB s) cl ats
 | [], _, _ => rfl
 | c :: r, cl, ats => by
  have ih := between_skip r cl ats
  by_cases h : blkB c = true
  ·have e : skipB (c :: r) = skipB r := by
    unfold skipB
    rw [show runN (hdB blkB) (c :: r) = runN (hdB blkB) r + 1 by rw [runN, if_pos (show hdB blkB (c :: r) = true from h)]]
    rfl
   rw [e, ← ih, between_cons, if_pos h]
  ·have e : skipB (c :: r) = c :: r := by
    unfold skipB
    rw [show runN (hdB blkB) (c :: r) = 0 by rw [runN, if_neg (show ¬ hdB blkB (c :: r) = true from h)]]
    rfl
   rw [e]
theorem skip_stop (s : List UInt8) : skipB s = [] ∨ ∃ c r, skipB s = c :: r ∧ blkB c = false := by
 cases h : skipB s with
 | nil => exact .inl rfl
 | cons c r =>
  refine .inr ⟨c, r, rfl, ?_⟩
  unfold skipB at h
  have h1 := runN_stop (hdB blkB) s (by
   have := congrArg List.length h
   rw [List.length_drop, List.length_cons] at this
   omega)
  rw [h] at h1
  exact h1
theorem runN_congr {p q : List UInt8 → Bool} (h : ∀ c r, p (c :: r) = q (c :: r)) : ∀ s, runN p s = runN q s
 | [] => rfl
 | c :: r => by rw [runN, runN, h, runN_congr h r]
theorem pre_one (d : UInt8) (c : UInt8) (r : List UInt8) : hasPre (c :: r) [d] = decide (c = d) := by
 simp [hasPre]
theorem toN_one (d : UInt8) (s : List UInt8) : toN [d] s = runN (hdB fun x => !decide (x = d)) s := by
 unfold toN
 exact runN_congr (fun c r => by rw [pre_one]; rfl) s
theorem idx_to (d : UInt8) (s : List UInt8) : (idxB d s < 0) ↔ runN (hdB fun x => !decide (x = d)) s = s.length := by
 constructor
 ·intro h
  refine runN_eq _ s _ (Nat.le_refl _) (fun j hj => ?_) (fun h => absurd h (Nat.lt_irrefl _))
  rw [hd_drop _ s j hj]
  by_cases hm : d ∈ s
  ·obtain ⟨a, b, rfl, ha⟩ := split_first hm
   rw [idxB_some ha] at h; omega
  ·have : s[j] ≠ d := fun e => hm (e ▸ List.getElem_mem hj)
   simpa using this
 ·intro h
  by_cases hm : d ∈ s
  ·obtain ⟨a, b, rfl, ha⟩ := split_first hm
   have := runN_in (hdB fun x => !decide (x = d)) (a ++ d :: b) a.length (by rw [h]; simp)
   rw [hd_drop _ _ a.length (by simp)] at this
   simp at this
  ·rw [idxB_none hm]; decide
def atsO (ats : List Attr) : Ob := .rows (2, 118) ((attrsD ats).map fun r => r.map AV.d)
def tokRow (nm : List UInt8) (k : Nat) (cl : Bool) : List AV := [.d (.int .i64 2), .d (.str nm), .own 6 0 k, .d (.bool cl), .d (.str [])]
def zeroTok : List AV := [.d (.int .i64 0), .d (.str []), .nil, .d (.bool false), .d (.str [])]
def tagSt : St := [(0, .ref 0 0 0), (2, .ref 2 0 0), (3, .d (.bool false)), (4, .ref 3 0 0), (5, .mp 4), (6, .ref 5 0 0)]
abbrev tagSr (s : List UInt8) (l : List Tok) (nm : List UInt8) (m : Nat) (cl : Bool) (ats : List Attr) (es : List (AV × AV)) (a : Attr) : Store :=
 ⟨7, [(6, atsO ats), (5, .rows (2, 118) [[.d (.str a.1), .d (.str a.2)]]), (4, .map es), (3, .rows (5, 45) [tokRow nm ats.length cl]), (2, .rows (5, 45) [zeroTok]), (1, outO l), (0, rdO s m l.length)]⟩
def Seen (ats : List Attr) (es : List (AV × AV)) : Prop := strKeys es ∧ (∀ e ∈ es, e.1.pure = true ∧ e.2.pure = true) ∧ ∀ x, mlook x es = if x ∈ ats.map (·.1) then some (.d (.bool true)) else none
def tagJ (s : List UInt8) (l : List Tok) (nm : List UInt8) (R : Option (Bool × List Attr × List UInt8)) : Nat → Nat → St → Store → Prop
 | 0, n, s', σ => ∃ m cl ats es a, n = 2 * (s.length - m) ∧ m ≤ s.length ∧ ats.length ≤ m ∧ between (s.drop m) cl ats = R ∧ Seen ats es ∧ s' = tagSt ∧ σ = tagSr s l nm m cl ats es a
 | 1, n, s', σ => ∃ m cl ats es a, n = 2 * (s.length - m) + 1 ∧ m ≤ s.length ∧ ats.length < m ∧ between (s.drop m) cl (addA ats a) = R ∧ Seen ats es ∧ s' = tagSt ∧ σ = tagSr s l nm m cl ats es a
 | _, _, _, _ => False
theorem attrsA_len (ats : List Attr) : ((attrsD ats).map fun r => r.map AV.d).length = ats.length := by rw [List.length_map, attrsD_len]
theorem attrsRowsA (ats : List Attr) : ∀ row ∈ (attrsD ats).map (fun r => r.map AV.d), row.length = 2 ∧ ∀ a ∈ row, a.one = true := by
 intro row h
 obtain ⟨r, hr, rfl⟩ := List.mem_map.1 h
 obtain ⟨t, _, rfl⟩ := List.mem_map.1 hr
 exact ⟨rfl, fun a ha => by obtain ⟨d, _, rfl⟩ := List.mem_map.1 ha; rfl⟩
theorem attrs_snoc (ats : List Attr) (a : Attr) : ((attrsD ats).map fun r => r.map AV.d) ++ [[.d (.str a.1), .d (.str a.2)]] = (attrsD (ats ++ [a])).map fun r => r.map AV.d := by simp [attrsD, attrD]
theorem Seen.put {ats : List Attr} {es : List (AV × AV)} (h : Seen ats es) (a : Attr) : Seen (ats ++ [a]) (mput a.1 (.d (.bool true)) es) := by
 refine ⟨strKeys_mput _ _ _ h.1, pure_mput _ _ rfl _ h.2.1, fun x => ?_⟩
 rw [mlook_mput _ _ _ _ h.1]
 simp only [List.map_append, List.mem_append, List.map_cons, List.map_nil, List.mem_singleton]
 by_cases hx : x = a.1
 ·rw [if_pos hx, if_pos (Or.inr hx)]
 ·rw [if_neg hx, h.2.2 x]
  by_cases hx2 : x ∈ ats.map (·.1)
  ·rw [if_pos hx2, if_pos (Or.inl hx2)]
  ·rw [if_neg hx2, if_neg (fun h => h.elim hx2 hx)]
set_option maxRecDepth 100000 in
theorem tag_ok (s : List UInt8) (n : Nat) (l : List Tok) (hn : n ≤ s.length) (hs : s.length ≤ 1000000) :
  CallsAbs Tryz.prog 110 [.ref 0 0 0] (rdS s n l) fun r σ' => match tagAt (s.drop n) with
   | some (nm, cl, ats, rest) => r = .tup [.agg ((tokD (startT nm cl ats)).map .d), .d (.bool true)] ∧ σ' = rdS s (s.length - rest.length) l
   | none => ∃ m, m ≤ s.length ∧ r = .tup [.agg ((tokD ⟨0, [], [], false, []⟩).map .d), .d (.bool false)] ∧ σ' = rdS s m l := by
 have hT : tagAt (s.drop n) = (between ((s.drop n).drop (runN (hdB nameC) (s.drop n))) false []).map fun t => (lower ((s.drop n).take (runN (hdB nameC) (s.drop n))), t.1, t.2.1, t.2.2) := rfl
 rw [hT]
 clear hT
 generalize hR : between ((s.drop n).drop (runN (hdB nameC) (s.drop n))) false [] = R
 refine fn_okTE Tryz.wf Tryz.tab_ok Tryz.func110 (by decide +kernel) rfl rfl ?_
 refine E.seq (E.of Tryz.wf Tryz.tab_ok ?_)
 have hle := runN_le (hdB nameC) (s.drop n)
 have hdl : (s.drop n).length = s.length - n := by simp
 refine scopeL Tryz.wf (tagJ s l (lower ((s.drop n).take (runN (hdB nameC) (s.drop n)))) R) ?_ ?_
 ·intro lb m s' σ hJ
  match lb, hJ with
  | 0, hJ =>
   obtain ⟨m, cl, ats, es, a, rfl, hm, hal, hb, hse, rfl, rfl⟩ := hJ
   generalize hnm : lower ((s.drop n).take (runN (hdB nameC) (s.drop n))) = nm
   clear hle hdl hR hnm hJ
   rw [between_skip] at hb
   have hdm : (s.drop m).length = s.length - m := by simp
   have hl1 := runN_le (hdB blkB) (s.drop m)
   have hst := skip_stop (s.drop m)
   unfold skipB at hb hst
   rw [List.drop_drop] at hb hst
   generalize hp1 : m + runN (hdB blkB) (s.drop m) = p1 at *
   have he1 := pass_any 156 blkB cls2_ok s m p1 l hm hs hp1.symm
   have hm1 : m ≤ p1 := by omega
   have hp1L : p1 ≤ s.length := by omega
   clear hp1 hl1 hdm
   refine ⟨_, rfl, E.of Tryz.wf Tryz.tab_ok ?_⟩
   repeat' (first | refine PureC.use hc1 ?_ | refine PureC.use hc2 ?_ | refine PureC.use hc3 ?_ | refine PureC.use hc5 ?_ | refine PureC.use hc6 ?_ | refine CallsAbs.use1 hd2 ?_ | refine CallsAbs.use1 hd4 ?_ | refine CallsAbs.use1 (he1 _ (by rfl) (by rfl)) ?_ | refine CallsAbs.use1 (he2 _ (by rfl) (by rfl)) ?_ | refine CallsAbs.use1 (he3 _ (by rfl) (by rfl)) ?_ | refine CallsAbs.use1 (he4 _ (by rfl) (by rfl)) ?_ | refine CallsAbs.use1 (he5 _ (by rfl) (by rfl)) ?_ | refine CallsAbs.use1 (he6 _ (by rfl) (by rfl)) ?_ | refine CallsAbs.use1 (he7 _ (by rfl) (by rfl)) ?_ | refine CallsAbs.use1 (he8 _ (by rfl) (by rfl)) ?_ | refine ⟨fun _ => ?_, fun h => absurd h (by decide)⟩ | refine ⟨fun h => absurd h (by decide), fun _ => ?_⟩ | (refine ⟨fun h => ?_, fun h => ?_⟩ <;> (try simp only [wS, List.length_cons, List.length_nil] at h) <;> (try exact wX h)) | refine ⟨⟨oB, oB⟩, _, by assumption, by rfl, ?_⟩ | refine .inl ⟨⟨oB, oB⟩, ?_⟩ | refine ⟨⟨oB, oB⟩, ?_⟩ | refine ⟨⟨oB, oB, oB⟩, ?_⟩ | refine ⟨.inl rfl, ?_⟩ | refine ⟨.inr (.inl oB), ?_⟩ | refine ⟨_, rfl, rfl, by (first | exact Nat.le_refl _ | exact Nat.le_of_ble_eq_true rfl | decide), ?_⟩ | refine ⟨_, rfl, by (first | exact Nat.le_refl _ | exact Nat.le_of_ble_eq_true rfl | decide), ?_⟩ | refine ⟨by (first | exact Nat.le_refl _ | exact Nat.le_of_ble_eq_true rfl | decide | exact rfl), ?_⟩ | refine ⟨show _ ≤ (9223372036854775807 : Nat) from oB, ?_⟩ | refine ⟨show _ ≠ (0 : Int) from oB, ?_⟩ | refine ⟨_, rfl, _, rfl, ?_⟩ | refine ⟨_, by assumption, Nat.le_of_ble_eq_true rfl, ?_⟩ | refine ⟨_, by assumption, _, rfl, ?_⟩ | refine ⟨_, rfl, ?_⟩ | fail)
   refine drawnT Tryz.wf Tryz.tab_ok Tryz.mixed (by decide +kernel) ?_
   repeat' (first | refine qO ?_ | refine qstep rfl rfl (CallsAbs.use1 hd2 (FinMove.refl _ _ _)) ?_ | refine qstep rfl rfl (CallsAbs.use1 hd4 (FinMove.refl _ _ _)) ?_ | refine qP ?_ | fail)
   repeat' (first | refine PureC.use hc1 ?_ | refine PureC.use hc2 ?_ | refine PureC.use hc3 ?_ | refine PureC.use hc5 ?_ | refine PureC.use hc6 ?_ | refine CallsAbs.use1 hd2 ?_ | refine CallsAbs.use1 hd4 ?_ | refine CallsAbs.use1 (he1 _ (by rfl) (by rfl)) ?_ | refine CallsAbs.use1 (he2 _ (by rfl) (by rfl)) ?_ | refine CallsAbs.use1 (he3 _ (by rfl) (by rfl)) ?_ | refine CallsAbs.use1 (he4 _ (by rfl) (by rfl)) ?_ | refine CallsAbs.use1 (he5 _ (by rfl) (by rfl)) ?_ | refine CallsAbs.use1 (he6 _ (by rfl) (by rfl)) ?_ | refine CallsAbs.use1 (he7 _ (by rfl) (by rfl)) ?_ | refine CallsAbs.use1 (he8 _ (by rfl) (by rfl)) ?_ | refine ⟨fun _ => ?_, fun h => absurd h (by decide)⟩ | refine ⟨fun h => absurd h (by decide), fun _ => ?_⟩ | (refine ⟨fun h => ?_, fun h => ?_⟩ <;> (try simp only [wS, List.length_cons, List.length_nil] at h) <;> (try exact wX h)) | refine ⟨⟨oB, oB⟩, _, by assumption, by rfl, ?_⟩ | refine .inl ⟨⟨oB, oB⟩, ?_⟩ | refine ⟨⟨oB, oB⟩, ?_⟩ | refine ⟨⟨oB, oB, oB⟩, ?_⟩ | refine ⟨.inl rfl, ?_⟩ | refine ⟨.inr (.inl oB), ?_⟩ | refine ⟨_, rfl, rfl, by (first | exact Nat.le_refl _ | exact Nat.le_of_ble_eq_true rfl | decide), ?_⟩ | refine ⟨_, rfl, by (first | exact Nat.le_refl _ | exact Nat.le_of_ble_eq_true rfl | decide), ?_⟩ | refine ⟨by (first | exact Nat.le_refl _ | exact Nat.le_of_ble_eq_true rfl | decide | exact rfl), ?_⟩ | refine ⟨show _ ≤ (9223372036854775807 : Nat) from oB, ?_⟩ | refine ⟨show _ ≠ (0 : Int) from oB, ?_⟩ | refine ⟨_, rfl, _, rfl, ?_⟩ | refine ⟨_, by assumption, Nat.le_of_ble_eq_true rfl, ?_⟩ | refine ⟨_, by assumption, _, rfl, ?_⟩ | refine ⟨_, rfl, ?_⟩ | fail)
   ·have e : s.drop p1 = [] := List.drop_eq_nil_iff.2 (by omega)
    rw [e, between_nil] at hb
    subst hb
    exact ⟨.tup [.agg ((tokD ⟨0, [], [], false, []⟩).map .d), .d (.bool false)], rdS s p1 l, fin_mv [] rfl rfl rfl ⟨⟨rfl, .inl ⟨rfl, dataA_pure _⟩⟩, ⟨rfl, .inr ⟨⟨rfl, rfl, ⟨rfl, rfl, rfl⟩, trivial⟩, trivial⟩⟩, trivial⟩ ⟨⟨rfl, rfl, rfl, rfl, rfl, trivial⟩, rfl, trivial⟩, p1, hp1L, rfl, rfl⟩
   ·have hlt : p1 < s.length := by omega
    obtain ⟨c, r2, hd, hblk⟩ : ∃ c r, s.drop p1 = c :: r ∧ blkB c = false := hst.resolve_left (fun e => by rw [List.drop_eq_nil_iff] at e; omega)
    have hg := getD_at s p1 hlt
    rw [List.drop_eq_getElem_cons hlt] at hd hb
    rw [← hg] at hd hb
    generalize hc : s.getD ((p1 : Nat) : Int).toNat 0 = c0 at *
    obtain ⟨rfl, hr2⟩ : c0 = c ∧ s.drop (p1 + 1) = r2 := by injection hd with h1 h2; exact ⟨h1, h2⟩
    have hq : hasPre (s.drop p1) [47, 62] = (decide (c0 = 47) && hdB (fun x => decide (x = 62)) r2) := by
     rw [List.drop_eq_getElem_cons hlt, ← hg, hr2]
     cases r2 with
     | nil => simp [hasPre, hdB]
     | cons d r => simp [hasPre, hdB]
    have he2 := left_any s p1 l (by omega)
    have hc2 := HasPrefix_ok (s.drop p1) [47, 62]
    have w47 : (c0.toNat : Int) = 47 ↔ c0 = 47 := by have := u8eq c0 47 (by decide); rw [decide_eq_decide] at this; exact this.symm
    have w62 : (c0.toNat : Int) = 62 ↔ c0 = 62 := by have := u8eq c0 62 (by decide); rw [decide_eq_decide] at this; exact this.symm
    clear hd hg hst
    rw [hr2, between_cons, hblk] at hb
    simp only [Bool.false_eq_true, if_false] at hb
    refine drawnT Tryz.wf Tryz.tab_ok Tryz.mixed (by decide +kernel) ?_
    iterate 8 (first | refine qstep rfl rfl (FinMove.refl _ _ _) ?_ | refine qstep rfl rfl ⟨_, rfl, _, rfl, FinMove.refl _ _ _⟩ ?_)
    refine qstep (r := .d (.int .u8 c0.toNat)) rfl rfl ⟨⟨by omega, by omega⟩, fin_eq (by rw [hc])⟩ ?_
    repeat' (first | refine PureC.use hc1 ?_ | refine PureC.use hc2 ?_ | refine PureC.use hc3 ?_ | refine PureC.use hc5 ?_ | refine PureC.use hc6 ?_ | refine CallsAbs.use1 hd2 ?_ | refine CallsAbs.use1 hd4 ?_ | refine CallsAbs.use1 (he1 _ (by rfl) (by rfl)) ?_ | refine CallsAbs.use1 (he2 _ (by rfl) (by rfl)) ?_ | refine CallsAbs.use1 (he3 _ (by rfl) (by rfl)) ?_ | refine CallsAbs.use1 (he4 _ (by rfl) (by rfl)) ?_ | refine CallsAbs.use1 (he5 _ (by rfl) (by rfl)) ?_ | refine CallsAbs.use1 (he6 _ (by rfl) (by rfl)) ?_ | refine CallsAbs.use1 (he7 _ (by rfl) (by rfl)) ?_ | refine CallsAbs.use1 (he8 _ (by rfl) (by rfl)) ?_ | refine ⟨fun _ => ?_, fun h => absurd h (by decide)⟩ | refine ⟨fun h => absurd h (by decide), fun _ => ?_⟩ | (refine ⟨fun h => ?_, fun h => ?_⟩ <;> (try simp only [wS, List.length_cons, List.length_nil] at h) <;> (try exact wX h)) | refine ⟨⟨oB, oB⟩, _, by assumption, by rfl, ?_⟩ | refine .inl ⟨⟨oB, oB⟩, ?_⟩ | refine ⟨⟨oB, oB⟩, ?_⟩ | refine ⟨⟨oB, oB, oB⟩, ?_⟩ | refine ⟨.inl rfl, ?_⟩ | refine ⟨.inr (.inl oB), ?_⟩ | refine ⟨_, rfl, rfl, by (first | exact Nat.le_refl _ | exact Nat.le_of_ble_eq_true rfl | decide), ?_⟩ | refine ⟨_, rfl, by (first | exact Nat.le_refl _ | exact Nat.le_of_ble_eq_true rfl | decide), ?_⟩ | refine ⟨by (first | exact Nat.le_refl _ | exact Nat.le_of_ble_eq_true rfl | decide | exact rfl), ?_⟩ | refine ⟨show _ ≤ (9223372036854775807 : Nat) from oB, ?_⟩ | refine ⟨show _ ≠ (0 : Int) from oB, ?_⟩ | refine ⟨_, rfl, _, rfl, ?_⟩ | refine ⟨_, by assumption, Nat.le_of_ble_eq_true rfl, ?_⟩ | refine ⟨_, by assumption, _, rfl, ?_⟩ | refine ⟨_, rfl, ?_⟩ | fail)
    ·have h47 : c0 = 47 := w47.1 (by assumption)
     rw [if_pos h47] at hb
     rw [decide_eq_true h47, Bool.true_and] at hq
     have hcl : (cl || hdB (fun x => decide (x = 62)) r2) = hdB (fun x => decide (x = 62)) r2 := by simp_all
     rw [hcl] at hb
     repeat' (first | refine PureC.use hc1 ?_ | refine PureC.use hc2 ?_ | refine PureC.use hc3 ?_ | refine PureC.use hc5 ?_ | refine PureC.use hc6 ?_ | refine CallsAbs.use1 hd2 ?_ | refine CallsAbs.use1 hd4 ?_ | refine CallsAbs.use1 (he1 _ (by rfl) (by rfl)) ?_ | refine CallsAbs.use1 (he2 _ (by rfl) (by rfl)) ?_ | refine CallsAbs.use1 (he3 _ (by rfl) (by rfl)) ?_ | refine CallsAbs.use1 (he4 _ (by rfl) (by rfl)) ?_ | refine CallsAbs.use1 (he5 _ (by rfl) (by rfl)) ?_ | refine CallsAbs.use1 (he6 _ (by rfl) (by rfl)) ?_ | refine CallsAbs.use1 (he7 _ (by rfl) (by rfl)) ?_ | refine CallsAbs.use1 (he8 _ (by rfl) (by rfl)) ?_ | refine ⟨fun _ => ?_, fun h => absurd h (by decide)⟩ | refine ⟨fun h => absurd h (by decide), fun _ => ?_⟩ | (refine ⟨fun h => ?_, fun h => ?_⟩ <;> (try simp only [wS, List.length_cons, List.length_nil] at h) <;> (try exact wX h)) | refine ⟨⟨oB, oB⟩, _, by assumption, by rfl, ?_⟩ | refine .inl ⟨⟨oB, oB⟩, ?_⟩ | refine ⟨⟨oB, oB⟩, ?_⟩ | refine ⟨⟨oB, oB, oB⟩, ?_⟩ | refine ⟨.inl rfl, ?_⟩ | refine ⟨.inr (.inl oB), ?_⟩ | refine ⟨_, rfl, rfl, by (first | exact Nat.le_refl _ | exact Nat.le_of_ble_eq_true rfl | decide), ?_⟩ | refine ⟨_, rfl, by (first | exact Nat.le_refl _ | exact Nat.le_of_ble_eq_true rfl | decide), ?_⟩ | refine ⟨by (first | exact Nat.le_refl _ | exact Nat.le_of_ble_eq_true rfl | decide | exact rfl), ?_⟩ | refine ⟨show _ ≤ (9223372036854775807 : Nat) from oB, ?_⟩ | refine ⟨show _ ≠ (0 : Int) from oB, ?_⟩ | refine ⟨_, rfl, _, rfl, ?_⟩ | refine ⟨_, by assumption, Nat.le_of_ble_eq_true rfl, ?_⟩ | refine ⟨_, by assumption, _, rfl, ?_⟩ | refine ⟨_, rfl, ?_⟩ | fail)
     exact ⟨_, _, _, ⟨p1 + 1, _, ats, es, a, rfl, by omega, by omega, by rw [hr2, hq]; exact hb, hse, rfl, rfl⟩, by omega, Mv.of [.old 2, .old 3, .old 4, .old 5, .old 6] rfl rfl rfl ⟨⟨rfl, .inl ⟨rfl, dataA_pure _⟩⟩, ⟨rfl, .inl ⟨rfl, fun row h => by rw [List.mem_singleton.1 h]; rfl⟩⟩, .inl ⟨rfl, hse.2.1⟩, ⟨rfl, .inr ⟨⟨rfl, rfl, ⟨rfl, rfl, rfl⟩, rfl, rfl, trivial⟩, trivial⟩⟩, ⟨rfl, .inl ⟨rfl, fun row h => by rw [List.mem_singleton.1 h]; rfl⟩⟩, ⟨rfl, .inl ⟨rfl, dataA_pure _⟩⟩, ⟨rfl, .inr ⟨⟨rfl, rfl, ⟨rfl, rfl, rfl⟩, trivial⟩, trivial⟩⟩, trivial⟩ ⟨⟨rfl, rfl, rfl⟩, ⟨rfl, rfl, rfl⟩, rfl, ⟨rfl, rfl, rfl⟩, rfl, ⟨rfl, rfl, rfl⟩, trivial⟩⟩
    ·have h47 : c0 = 47 := w47.1 (by assumption)
     rw [if_pos h47] at hb
     have hcl : (cl || hdB (fun x => decide (x = 62)) r2) = true := by simp_all
     rw [hcl] at hb
     exact ⟨_, _, _, ⟨p1 + 1, _, ats, es, a, rfl, by omega, by omega, by rw [hr2]; exact hb, hse, rfl, rfl⟩, by omega, Mv.of [.old 2, .old 3, .old 4, .old 5, .old 6] rfl rfl rfl ⟨⟨rfl, .inl ⟨rfl, dataA_pure _⟩⟩, ⟨rfl, .inl ⟨rfl, fun row h => by rw [List.mem_singleton.1 h]; rfl⟩⟩, .inl ⟨rfl, hse.2.1⟩, ⟨rfl, .inr ⟨⟨rfl, rfl, ⟨rfl, rfl, rfl⟩, rfl, rfl, trivial⟩, trivial⟩⟩, ⟨rfl, .inl ⟨rfl, fun row h => by rw [List.mem_singleton.1 h]; rfl⟩⟩, ⟨rfl, .inl ⟨rfl, dataA_pure _⟩⟩, ⟨rfl, .inr ⟨⟨rfl, rfl, ⟨rfl, rfl, rfl⟩, trivial⟩, trivial⟩⟩, trivial⟩ ⟨⟨rfl, rfl, rfl⟩, ⟨rfl, rfl, rfl⟩, rfl, ⟨rfl, rfl, rfl⟩, rfl, ⟨rfl, rfl, rfl⟩, trivial⟩⟩
    ·have h47 : c0 ≠ 47 := fun e => by have := w47.2 e; omega
     have h62 : c0 = 62 := w62.1 (by assumption)
     rw [if_neg h47, if_pos h62] at hb
     subst hb
     refine ⟨.tup [.agg ((tokD (startT nm cl ats)).map .d), .d (.bool true)], rdS s (p1 + 1) l, ?_, rfl, by rw [← hr2, List.length_drop, show s.length - (s.length - (p1 + 1)) = p1 + 1 by omega]⟩
     refine (fin_freeze (ds := attrsD ats) 6 rfl (rowsD_d _) ?_).trans ?_
     ·exact ⟨⟨trivial, trivial, fun _ => by rw [attrsA_len, Nat.zero_add]; exact Nat.le_refl _, trivial, trivial, trivial⟩, trivial, trivial⟩
     exact fin_mv [] rfl rfl rfl ⟨⟨rfl, .inl ⟨rfl, dataA_pure _⟩⟩, ⟨rfl, .inr ⟨⟨rfl, rfl, ⟨rfl, rfl, rfl⟩, trivial⟩, trivial⟩⟩, trivial⟩ ⟨⟨rfl, rfl, (by show drel _ (frz 6 _ (.own 6 0 ats.length)); rw [frz_whole 6 _ _ (attrsD_len ats).symm]; rfl), rfl, rfl, trivial⟩, rfl, trivial⟩
    ·have h47 : c0 ≠ 47 := fun e => by have := w47.2 e; omega
     have h62 : c0 ≠ 62 := fun e => by have := w62.2 e; omega
     rw [if_neg h47, if_neg h62] at hb
     have hr2l : r2.length = s.length - (p1 + 1) := by rw [← hr2, List.length_drop]
     have hle2 := runN_le (hdB attrC) r2
     generalize hp2 : p1 + 1 + runN (hdB attrC) r2 = p2
     have hdr2 : r2.drop (runN (hdB attrC) r2) = s.drop p2 := by rw [← hr2, List.drop_drop, hr2, hp2]
     have htk2 : r2.take (runN (hdB attrC) r2) = (s.drop (p1 + 1)).take (p2 - (p1 + 1)) := by rw [hr2]; congr 1; omega
     have hle3 := runN_le (hdB blkB) (s.drop p2)
     have hd2 : (s.drop p2).length = s.length - p2 := by simp
     generalize hp3 : p2 + runN (hdB blkB) (s.drop p2) = p3
     have hsk : skipB (s.drop p2) = s.drop p3 := by unfold skipB; rw [List.drop_drop, hp3]
     unfold attrAt at hb
     rw [hdr2, hsk, htk2] at hb
     have he3 := pass_any 157 attrC cls3_ok s (p1 + 1) p2 l (by omega) hs (by rw [hr2]; exact hp2.symm)
     have hc3 := Lower_ok (c0 :: (s.drop (p1 + 1)).take (p2 - (p1 + 1))) (by simp; omega)
     have he4 := pass_any 158 blkB cls4_ok s p2 p3 l (by omega) hs hp3.symm
     have he5 := left_any s p3 l (by omega)
     have hc5 := HasPrefix_ok (s.drop p3) [61]
     have hp12 : p1 + 1 ≤ p2 := by omega
     have hp23 : p2 ≤ p3 := by omega
     have hp3L : p3 ≤ s.length := by omega
     have hone : (s.take ((p1 : Int) + 1).toNat).drop ((p1 : Nat) : Int).toNat = [c0] := by
      have e0 : s[p1] = c0 := by rw [← getD_at s p1 hlt]; exact hc
      rw [show ((p1 : Int) + 1).toNat = p1 + 1 by omega, Int.toNat_natCast, List.drop_take, Nat.add_sub_cancel_left, List.drop_eq_getElem_cons hlt, e0]; rfl
     clear hle2 hdr2 htk2 hle3 hd2 hsk hp2 hp3 hr2l
     show E _ _ _ _ _ _ _
     refine E.view (s' := tagSt) (σ' := tagSr s l nm p1 cl ats es a) (Mv.of [.old 2, .old 3, .old 4, .old 5, .old 6] rfl rfl rfl ⟨⟨rfl, .inl ⟨rfl, dataA_pure _⟩⟩, ⟨rfl, .inl ⟨rfl, fun row h => by rw [List.mem_singleton.1 h]; rfl⟩⟩, .inl ⟨rfl, hse.2.1⟩, ⟨rfl, .inr ⟨⟨rfl, rfl, ⟨rfl, rfl, rfl⟩, rfl, rfl, trivial⟩, trivial⟩⟩, ⟨rfl, .inl ⟨rfl, fun row h => by rw [List.mem_singleton.1 h]; rfl⟩⟩, ⟨rfl, .inl ⟨rfl, dataA_pure _⟩⟩, ⟨rfl, .inr ⟨⟨rfl, rfl, ⟨rfl, rfl, rfl⟩, trivial⟩, trivial⟩⟩, trivial⟩ ⟨⟨rfl, rfl, rfl⟩, ⟨rfl, rfl, rfl⟩, rfl, ⟨rfl, rfl, rfl⟩, rfl, ⟨rfl, rfl, rfl⟩, trivial⟩) ?_
     refine drawnZ Tryz.wf Tryz.tab_ok [15] (fun t => match t with
      | 0 => tagSr s l nm p1 cl ats es a
      | _ => tagSr s l nm p1 cl ats es ([c0], [])) rfl Tryz.mixed (by decide +kernel) ?_
     iterate 12 (first | refine zblind (by decide +kernel) rfl rfl (fun _ => FinMove.refl _ _ _) ?_ | refine zreadL [0] (by decide +kernel) rfl rfl ⟨⟨_, rfl, _, rfl, FinMove.refl _ _ _⟩, trivial⟩ ?_)
     refine zblind (by decide +kernel) rfl rfl (fun _ => .inl ⟨⟨by omega, by omega⟩, FinMove.refl _ _ _⟩) ?_
     refine zblind (r := .d (.str [c0])) (by decide +kernel) rfl rfl (fun _ => ⟨⟨by omega, by omega, by omega⟩, fin_eq (congrArg (fun x => AV.d (.str x)) hone)⟩) ?_
     refine zblind (by decide +kernel) rfl rfl (fun _ => FinMove.refl _ _ _) ?_
     refine zeff rfl rfl rfl ⟨_, rfl, rfl, Nat.le_of_ble_eq_true rfl, fin_mv (r' := .top) [] rfl rfl rfl ⟨⟨rfl, .inl ⟨rfl, dataA_pure _⟩⟩, ⟨rfl, .inl ⟨rfl, fun row h => by rw [List.mem_singleton.1 h]; rfl⟩⟩, .inl ⟨rfl, hse.2.1⟩, ⟨rfl, .inr ⟨⟨rfl, rfl, ⟨rfl, rfl, rfl⟩, rfl, rfl, trivial⟩, trivial⟩⟩, ⟨rfl, .inl ⟨rfl, fun row h => by rw [List.mem_singleton.1 h]; rfl⟩⟩, ⟨rfl, .inl ⟨rfl, dataA_pure _⟩⟩, ⟨rfl, .inr ⟨⟨rfl, rfl, ⟨rfl, rfl, rfl⟩, trivial⟩, trivial⟩⟩, trivial⟩ trivial⟩ ?_
     repeat' (first | refine PureC.use hc1 ?_ | refine PureC.use hc2 ?_ | refine PureC.use hc3 ?_ | refine PureC.use hc5 ?_ | refine PureC.use hc6 ?_ | refine CallsAbs.use1 hd2 ?_ | refine CallsAbs.use1 hd4 ?_ | refine CallsAbs.use1 (he1 _ (by rfl) (by rfl)) ?_ | refine CallsAbs.use1 (he2 _ (by rfl) (by rfl)) ?_ | refine CallsAbs.use1 (he3 _ (by rfl) (by rfl)) ?_ | refine CallsAbs.use1 (he4 _ (by rfl) (by rfl)) ?_ | refine CallsAbs.use1 (he5 _ (by rfl) (by rfl)) ?_ | refine CallsAbs.use1 (he6 _ (by rfl) (by rfl)) ?_ | refine CallsAbs.use1 (he7 _ (by rfl) (by rfl)) ?_ | refine CallsAbs.use1 (he8 _ (by rfl) (by rfl)) ?_ | refine ⟨fun _ => ?_, fun h => absurd h (by decide)⟩ | refine ⟨fun h => absurd h (by decide), fun _ => ?_⟩ | (refine ⟨fun h => ?_, fun h => ?_⟩ <;> (try simp only [wS, List.length_cons, List.length_nil] at h) <;> (try exact wX h)) | refine ⟨⟨oB, oB⟩, _, by assumption, by rfl, ?_⟩ | refine .inl ⟨⟨oB, oB⟩, ?_⟩ | refine ⟨⟨oB, oB⟩, ?_⟩ | refine ⟨⟨oB, oB, oB⟩, ?_⟩ | refine ⟨.inl rfl, ?_⟩ | refine ⟨.inr (.inl oB), ?_⟩ | refine ⟨_, rfl, rfl, by (first | exact Nat.le_refl _ | exact Nat.le_of_ble_eq_true rfl | decide), ?_⟩ | refine ⟨_, rfl, by (first | exact Nat.le_refl _ | exact Nat.le_of_ble_eq_true rfl | decide), ?_⟩ | refine ⟨by (first | exact Nat.le_refl _ | exact Nat.le_of_ble_eq_true rfl | decide | exact rfl), ?_⟩ | refine ⟨show _ ≤ (9223372036854775807 : Nat) from oB, ?_⟩ | refine ⟨show _ ≠ (0 : Int) from oB, ?_⟩ | refine ⟨_, rfl, _, rfl, ?_⟩ | refine ⟨_, by assumption, Nat.le_of_ble_eq_true rfl, ?_⟩ | refine ⟨_, by assumption, _, rfl, ?_⟩ | refine ⟨_, rfl, ?_⟩ | fail)
     refine E.view (s' := tagSt) (σ' := tagSr s l nm (p1 + 1) cl ats es ([c0], [])) (Mv.of [.old 2, .old 3, .old 4, .old 5, .old 6] rfl rfl rfl ⟨⟨rfl, .inl ⟨rfl, dataA_pure _⟩⟩, ⟨rfl, .inl ⟨rfl, fun row h => by rw [List.mem_singleton.1 h]; rfl⟩⟩, .inl ⟨rfl, hse.2.1⟩, ⟨rfl, .inr ⟨⟨rfl, rfl, ⟨rfl, rfl, rfl⟩, rfl, rfl, trivial⟩, trivial⟩⟩, ⟨rfl, .inl ⟨rfl, fun row h => by rw [List.mem_singleton.1 h]; rfl⟩⟩, ⟨rfl, .inl ⟨rfl, dataA_pure _⟩⟩, ⟨rfl, .inr ⟨⟨rfl, rfl, ⟨rfl, rfl, rfl⟩, trivial⟩, trivial⟩⟩, trivial⟩ ⟨⟨rfl, rfl, rfl⟩, ⟨rfl, rfl, rfl⟩, rfl, ⟨rfl, rfl, rfl⟩, rfl, ⟨rfl, rfl, rfl⟩, trivial⟩) ?_
     refine drawnZ Tryz.wf Tryz.tab_ok [3, 7] (fun t => match t with
      | 0 => tagSr s l nm (p1 + 1) cl ats es ([c0], [])
      | 1 => tagSr s l nm p2 cl ats es ([c0], [])
      | _ => tagSr s l nm p2 cl ats es (lower (c0 :: (s.drop (p1 + 1)).take (p2 - (p1 + 1))), [])) rfl Tryz.mixed (by decide +kernel) ?_
     refine zblind (by decide +kernel) rfl rfl (fun _ => FinMove.refl _ _ _) ?_
     refine zreadL [0, 1] (by decide +kernel) rfl rfl ⟨⟨_, rfl, _, rfl, FinMove.refl _ _ _⟩, ⟨_, rfl, _, rfl, FinMove.refl _ _ _⟩, trivial⟩ ?_
     refine zblind (by decide +kernel) rfl rfl (fun _ => FinMove.refl _ _ _) ?_
     refine zeff (r := .d (.str ((s.drop (p1 + 1)).take (p2 - (p1 + 1))))) rfl rfl rfl (CallsAbs.use1 (he3 _ rfl rfl) (fin_mv [] rfl rfl rfl ⟨⟨rfl, .inl ⟨rfl, dataA_pure _⟩⟩, ⟨rfl, .inl ⟨rfl, fun row h => by rw [List.mem_singleton.1 h]; rfl⟩⟩, .inl ⟨rfl, hse.2.1⟩, ⟨rfl, .inr ⟨⟨rfl, rfl, ⟨rfl, rfl, rfl⟩, rfl, rfl, trivial⟩, trivial⟩⟩, ⟨rfl, .inl ⟨rfl, fun row h => by rw [List.mem_singleton.1 h]; rfl⟩⟩, ⟨rfl, .inl ⟨rfl, dataA_pure _⟩⟩, ⟨rfl, .inr ⟨⟨rfl, rfl, ⟨rfl, rfl, rfl⟩, trivial⟩, trivial⟩⟩, trivial⟩ rfl)) ?_
     refine zblind (by decide +kernel) rfl rfl (fun _ => ⟨by simp; omega, FinMove.refl _ _ _⟩) ?_
     refine zblind (by decide +kernel) rfl rfl (fun _ => PureC.use hc3 (FinMove.refl _ _ _)) ?_
     refine zblind (by decide +kernel) rfl rfl (fun _ => FinMove.refl _ _ _) ?_
     refine zeff rfl rfl rfl ⟨_, rfl, rfl, Nat.le_of_ble_eq_true rfl, fin_mv (r' := .top) [] rfl rfl rfl ⟨⟨rfl, .inl ⟨rfl, dataA_pure _⟩⟩, ⟨rfl, .inl ⟨rfl, fun row h => by rw [List.mem_singleton.1 h]; rfl⟩⟩, .inl ⟨rfl, hse.2.1⟩, ⟨rfl, .inr ⟨⟨rfl, rfl, ⟨rfl, rfl, rfl⟩, rfl, rfl, trivial⟩, trivial⟩⟩, ⟨rfl, .inl ⟨rfl, fun row h => by rw [List.mem_singleton.1 h]; rfl⟩⟩, ⟨rfl, .inl ⟨rfl, dataA_pure _⟩⟩, ⟨rfl, .inr ⟨⟨rfl, rfl, ⟨rfl, rfl, rfl⟩, trivial⟩, trivial⟩⟩, trivial⟩ trivial⟩ ?_
     generalize lower (c0 :: (s.drop (p1 + 1)).take (p2 - (p1 + 1))) = name at *
     clear he1 he2 he3 hc2 hc3 hone hq hc w47 w62 h47 h62 hblk hr2
     repeat' (first | refine PureC.use hc1 ?_ | refine PureC.use hc2 ?_ | refine PureC.use hc3 ?_ | refine PureC.use hc5 ?_ | refine PureC.use hc6 ?_ | refine CallsAbs.use1 hd2 ?_ | refine CallsAbs.use1 hd4 ?_ | refine CallsAbs.use1 (he1 _ (by rfl) (by rfl)) ?_ | refine CallsAbs.use1 (he2 _ (by rfl) (by rfl)) ?_ | refine CallsAbs.use1 (he3 _ (by rfl) (by rfl)) ?_ | refine CallsAbs.use1 (he4 _ (by rfl) (by rfl)) ?_ | refine CallsAbs.use1 (he5 _ (by rfl) (by rfl)) ?_ | refine CallsAbs.use1 (he6 _ (by rfl) (by rfl)) ?_ | refine CallsAbs.use1 (he7 _ (by rfl) (by rfl)) ?_ | refine CallsAbs.use1 (he8 _ (by rfl) (by rfl)) ?_ | refine ⟨fun _ => ?_, fun h => absurd h (by decide)⟩ | refine ⟨fun h => absurd h (by decide), fun _ => ?_⟩ | (refine ⟨fun h => ?_, fun h => ?_⟩ <;> (try simp only [wS, List.length_cons, List.length_nil] at h) <;> (try exact wX h)) | refine ⟨⟨oB, oB⟩, _, by assumption, by rfl, ?_⟩ | refine .inl ⟨⟨oB, oB⟩, ?_⟩ | refine ⟨⟨oB, oB⟩, ?_⟩ | refine ⟨⟨oB, oB, oB⟩, ?_⟩ | refine ⟨.inl rfl, ?_⟩ | refine ⟨.inr (.inl oB), ?_⟩ | refine ⟨_, rfl, rfl, by (first | exact Nat.le_refl _ | exact Nat.le_of_ble_eq_true rfl | decide), ?_⟩ | refine ⟨_, rfl, by (first | exact Nat.le_refl _ | exact Nat.le_of_ble_eq_true rfl | decide), ?_⟩ | refine ⟨by (first | exact Nat.le_refl _ | exact Nat.le_of_ble_eq_true rfl | decide | exact rfl), ?_⟩ | refine ⟨show _ ≤ (9223372036854775807 : Nat) from oB, ?_⟩ | refine ⟨show _ ≠ (0 : Int) from oB, ?_⟩ | refine ⟨_, rfl, _, rfl, ?_⟩ | refine ⟨_, by assumption, Nat.le_of_ble_eq_true rfl, ?_⟩ | refine ⟨_, by assumption, _, rfl, ?_⟩ | refine ⟨_, rfl, ?_⟩ | fail)
     ·have hno : hasPre (s.drop p3) [61] = false := by simp_all
      have hb2 : between (s.drop p3) cl (addA ats (name, [])) = R := by
       rw [← hb]
       cases hx : s.drop p3 with
       | nil => rfl
       | cons d r1 =>
        have hd : ¬ d = 61 := fun e => by rw [hx, e] at hno; simp [hasPre] at hno
        simp only [if_neg hd]
      exact ⟨_, _, _, ⟨p3, cl, ats, es, (name, []), rfl, hp3L, by omega, hb2, hse, rfl, rfl⟩, by omega, Mv.of [.old 2, .old 3, .old 4, .old 5, .old 6] rfl rfl rfl ⟨⟨rfl, .inl ⟨rfl, dataA_pure _⟩⟩, ⟨rfl, .inl ⟨rfl, fun row h => by rw [List.mem_singleton.1 h]; rfl⟩⟩, .inl ⟨rfl, hse.2.1⟩, ⟨rfl, .inr ⟨⟨rfl, rfl, ⟨rfl, rfl, rfl⟩, rfl, rfl, trivial⟩, trivial⟩⟩, ⟨rfl, .inl ⟨rfl, fun row h => by rw [List.mem_singleton.1 h]; rfl⟩⟩, ⟨rfl, .inl ⟨rfl, dataA_pure _⟩⟩, ⟨rfl, .inr ⟨⟨rfl, rfl, ⟨rfl, rfl, rfl⟩, trivial⟩, trivial⟩⟩, trivial⟩ ⟨⟨rfl, rfl, rfl⟩, ⟨rfl, rfl, rfl⟩, rfl, ⟨rfl, rfl, rfl⟩, rfl, ⟨rfl, rfl, rfl⟩, trivial⟩⟩
     ·have hyes : hasPre (s.drop p3) [61] = true := by simp_all
      obtain ⟨r1, hx⟩ : ∃ r1, s.drop p3 = 61 :: r1 := by
       cases hx : s.drop p3 with
       | nil => rw [hx] at hyes; simp [hasPre] at hyes
       | cons d r1 => rw [hx] at hyes; simp [hasPre] at hyes; exact ⟨r1, by rw [hyes]⟩
      have hx1 : s.drop (p3 + 1) = r1 := by rw [← List.drop_drop, hx]; rfl
      have hp3 : p3 < s.length := by have := congrArg List.length hx; simp at this; omega
      rw [hx] at hb
      simp only [if_true] at hb
      have hr1l : r1.length = s.length - (p3 + 1) := by rw [← hx1, List.length_drop]
      have hle4 := runN_le (hdB blkB) r1
      generalize hp4 : p3 + 1 + runN (hdB blkB) r1 = p4
      have hsk : skipB r1 = s.drop p4 := by unfold skipB; rw [← hx1, List.drop_drop, hx1, hp4]
      rw [hsk] at hb
      have he6 := pass_any 159 blkB cls5_ok s (p3 + 1) p4 l (by omega) hs (by rw [hx1]; exact hp4.symm)
      have he7 := left_any s p4 l (by omega)
      have hp34 : p3 + 1 ≤ p4 := by omega
      have hp4L : p4 ≤ s.length := by omega
      clear hsk hle4 hr1l hx1 hx hyes hp4
      by_cases hquo : ∃ d q', s.drop p4 = d :: q' ∧ (d = 34 ∨ d = 39)
      ·obtain ⟨d, q', hx, hd⟩ := hquo
       have hx1 : s.drop (p4 + 1) = q' := by rw [← List.drop_drop, hx]; rfl
       have hp4 : p4 < s.length := by have := congrArg List.length hx; simp at this; omega
       have hql : q'.length = s.length - (p4 + 1) := by rw [← hx1, List.length_drop]
       rw [hx] at he7 hb
       have he1 := left_any s (p4 + 1) l (by omega)
       have hc2 := IndexByte_ok q' d
       have he2 := over_any s (p4 + 1) l [d] (by simp) (by simp) (by omega) hs
       rw [hx1] at he1 he2
       have hc6 := Resolve_ok (q'.take (toN [d] q')) (by simp; omega)
       have hit := idx_to d q'
       have htq := toN_one d q'
       have htl := runN_le (hdB fun y => !decide (y = d)) q'
       have hv : valueAt (d :: q') = if runN (hdB fun y => !decide (y = d)) q' = q'.length then none else some (q'.take (runN (hdB fun y => !decide (y = d)) q'), q'.drop (runN (hdB fun y => !decide (y = d)) q' + 1)) := by
        unfold valueAt; exact if_pos hd
       rw [hv] at hb
       rw [← htq] at hit hb htl
       have h3439 : (((d :: q').getD (0 : Int).toNat 0).toNat : Int) = 34 ∨ (((d :: q').getD (0 : Int).toNat 0).toNat : Int) = 39 := by
        rcases hd with rfl | rfl
        ·exact .inl rfl
        ·exact .inr rfl
       clear hv htq hd he4 he5 hc5
       repeat' (first | refine PureC.use hc1 ?_ | refine PureC.use hc2 ?_ | refine PureC.use hc3 ?_ | refine PureC.use hc5 ?_ | refine PureC.use hc6 ?_ | refine CallsAbs.use1 hd2 ?_ | refine CallsAbs.use1 hd4 ?_ | refine CallsAbs.use1 (he1 _ (by rfl) (by rfl)) ?_ | refine CallsAbs.use1 (he2 _ (by rfl) (by rfl)) ?_ | refine CallsAbs.use1 (he3 _ (by rfl) (by rfl)) ?_ | refine CallsAbs.use1 (he4 _ (by rfl) (by rfl)) ?_ | refine CallsAbs.use1 (he5 _ (by rfl) (by rfl)) ?_ | refine CallsAbs.use1 (he6 _ (by rfl) (by rfl)) ?_ | refine CallsAbs.use1 (he7 _ (by rfl) (by rfl)) ?_ | refine CallsAbs.use1 (he8 _ (by rfl) (by rfl)) ?_ | refine ⟨fun _ => ?_, fun h => absurd h (by decide)⟩ | refine ⟨fun h => absurd h (by decide), fun _ => ?_⟩ | (refine ⟨fun h => ?_, fun h => ?_⟩ <;> (try simp only [wS, List.length_cons, List.length_nil] at h) <;> (try exact wX h)) | refine ⟨⟨oB, oB⟩, _, by assumption, by rfl, ?_⟩ | refine .inl ⟨⟨oB, oB⟩, ?_⟩ | refine ⟨⟨oB, oB⟩, ?_⟩ | refine ⟨⟨oB, oB, oB⟩, ?_⟩ | refine ⟨.inl rfl, ?_⟩ | refine ⟨.inr (.inl oB), ?_⟩ | refine ⟨_, rfl, rfl, by (first | exact Nat.le_refl _ | exact Nat.le_of_ble_eq_true rfl | decide), ?_⟩ | refine ⟨_, rfl, by (first | exact Nat.le_refl _ | exact Nat.le_of_ble_eq_true rfl | decide), ?_⟩ | refine ⟨by (first | exact Nat.le_refl _ | exact Nat.le_of_ble_eq_true rfl | decide | exact rfl), ?_⟩ | refine ⟨show _ ≤ (9223372036854775807 : Nat) from oB, ?_⟩ | refine ⟨show _ ≠ (0 : Int) from oB, ?_⟩ | refine ⟨_, rfl, _, rfl, ?_⟩ | refine ⟨_, by assumption, Nat.le_of_ble_eq_true rfl, ?_⟩ | refine ⟨_, by assumption, _, rfl, ?_⟩ | refine ⟨_, rfl, ?_⟩ | fail)
       all_goals
        refine E.view (s' := (7, .d (.str (d :: q'))) :: tagSt) (σ' := tagSr s l nm (p4 + 1) cl ats es (name, [])) (Mv.of [.old 2, .old 3, .old 4, .old 5, .old 6] rfl rfl rfl ⟨⟨rfl, .inl ⟨rfl, dataA_pure _⟩⟩, ⟨rfl, .inl ⟨rfl, fun row h => by rw [List.mem_singleton.1 h]; rfl⟩⟩, .inl ⟨rfl, hse.2.1⟩, ⟨rfl, .inr ⟨⟨rfl, rfl, ⟨rfl, rfl, rfl⟩, rfl, rfl, trivial⟩, trivial⟩⟩, ⟨rfl, .inl ⟨rfl, fun row h => by rw [List.mem_singleton.1 h]; rfl⟩⟩, ⟨rfl, .inl ⟨rfl, dataA_pure _⟩⟩, ⟨rfl, .inr ⟨⟨rfl, rfl, ⟨rfl, rfl, rfl⟩, trivial⟩, trivial⟩⟩, trivial⟩ ⟨rfl, ⟨⟨rfl, rfl, rfl⟩, ⟨rfl, rfl, rfl⟩, rfl, ⟨rfl, rfl, rfl⟩, rfl, ⟨rfl, rfl, rfl⟩, trivial⟩⟩) ?_
        refine drawnT Tryz.wf Tryz.tab_ok Tryz.mixed (by decide +kernel) ?_
        refine qstep rfl rfl (FinMove.refl _ _ _) ?_
        refine qstep rfl rfl (CallsAbs.use1 (he1 _ rfl rfl) (fin_mv (r' := .d (.str q')) [] rfl rfl rfl ⟨⟨rfl, .inl ⟨rfl, dataA_pure _⟩⟩, ⟨rfl, .inl ⟨rfl, fun row h => by rw [List.mem_singleton.1 h]; rfl⟩⟩, .inl ⟨rfl, hse.2.1⟩, ⟨rfl, .inr ⟨⟨rfl, rfl, ⟨rfl, rfl, rfl⟩, rfl, rfl, trivial⟩, trivial⟩⟩, ⟨rfl, .inl ⟨rfl, fun row h => by rw [List.mem_singleton.1 h]; rfl⟩⟩, ⟨rfl, .inl ⟨rfl, dataA_pure _⟩⟩, ⟨rfl, .inr ⟨⟨rfl, rfl, ⟨rfl, rfl, rfl⟩, trivial⟩, trivial⟩⟩, trivial⟩ rfl)) ?_
        refine qstep rfl rfl (FinMove.refl _ _ _) ?_
        refine qstep rfl rfl ⟨⟨by omega, by rw [List.length_cons]; omega⟩, FinMove.refl _ _ _⟩ ?_
        refine qstep rfl rfl (PureC.use hc2 (FinMove.refl _ _ _)) ?_
        refine qstep rfl rfl (FinMove.refl _ _ _) ?_
        by_cases hi : idxB d q' < 0
        ·rw [if_pos (hit.1 hi)] at hb
         replace hb : none = R := hb
         subst hb
         repeat' (first | refine PureC.use hc1 ?_ | refine PureC.use hc2 ?_ | refine PureC.use hc3 ?_ | refine PureC.use hc5 ?_ | refine PureC.use hc6 ?_ | refine CallsAbs.use1 hd2 ?_ | refine CallsAbs.use1 hd4 ?_ | refine CallsAbs.use1 (he1 _ (by rfl) (by rfl)) ?_ | refine CallsAbs.use1 (he2 _ (by rfl) (by rfl)) ?_ | refine CallsAbs.use1 (he3 _ (by rfl) (by rfl)) ?_ | refine CallsAbs.use1 (he4 _ (by rfl) (by rfl)) ?_ | refine CallsAbs.use1 (he5 _ (by rfl) (by rfl)) ?_ | refine CallsAbs.use1 (he6 _ (by rfl) (by rfl)) ?_ | refine CallsAbs.use1 (he7 _ (by rfl) (by rfl)) ?_ | refine CallsAbs.use1 (he8 _ (by rfl) (by rfl)) ?_ | refine ⟨fun _ => ?_, fun h => absurd h (by decide)⟩ | refine ⟨fun h => absurd h (by decide), fun _ => ?_⟩ | (refine ⟨fun h => ?_, fun h => ?_⟩ <;> (try simp only [wS, List.length_cons, List.length_nil] at h) <;> (try exact wX h)) | refine ⟨⟨oB, oB⟩, _, by assumption, by rfl, ?_⟩ | refine .inl ⟨⟨oB, oB⟩, ?_⟩ | refine ⟨⟨oB, oB⟩, ?_⟩ | refine ⟨⟨oB, oB, oB⟩, ?_⟩ | refine ⟨.inl rfl, ?_⟩ | refine ⟨.inr (.inl oB), ?_⟩ | refine ⟨_, rfl, rfl, by (first | exact Nat.le_refl _ | exact Nat.le_of_ble_eq_true rfl | decide), ?_⟩ | refine ⟨_, rfl, by (first | exact Nat.le_refl _ | exact Nat.le_of_ble_eq_true rfl | decide), ?_⟩ | refine ⟨by (first | exact Nat.le_refl _ | exact Nat.le_of_ble_eq_true rfl | decide | exact rfl), ?_⟩ | refine ⟨show _ ≤ (9223372036854775807 : Nat) from oB, ?_⟩ | refine ⟨show _ ≠ (0 : Int) from oB, ?_⟩ | refine ⟨_, rfl, _, rfl, ?_⟩ | refine ⟨_, by assumption, Nat.le_of_ble_eq_true rfl, ?_⟩ | refine ⟨_, by assumption, _, rfl, ?_⟩ | refine ⟨_, rfl, ?_⟩ | fail)
         exact ⟨.tup [.agg ((tokD ⟨0, [], [], false, []⟩).map .d), .d (.bool false)], rdS s (p4 + 1) l, fin_mv [] rfl rfl rfl ⟨⟨rfl, .inl ⟨rfl, dataA_pure _⟩⟩, ⟨rfl, .inr ⟨⟨rfl, rfl, ⟨rfl, rfl, rfl⟩, trivial⟩, trivial⟩⟩, trivial⟩ ⟨⟨rfl, rfl, rfl, rfl, rfl, trivial⟩, rfl, trivial⟩, p4 + 1, by omega, rfl, rfl⟩
        ·rw [if_neg (fun h => hi (hit.2 h))] at hb
         replace hb : between (q'.drop (toN [d] q' + 1)) cl (addA ats (name, resolve (q'.take (toN [d] q')))) = R := hb
         generalize resolve (q'.take (toN [d] q')) = x at *
         have hp5 : ((q'.drop (toN [d] q' + [d].length)).length) = q'.length - (toN [d] q' + 1) := by simp
         have htl2 := toN_lt (t := [d]) (s := q') (fun h => hi (hit.2 h))
         simp only [List.length_cons, List.length_nil] at htl2
         have hdr : s.drop (s.length - (q'.drop (toN [d] q' + [d].length)).length) = q'.drop (toN [d] q' + 1) := by
          rw [hp5, ← hx1, List.drop_drop]; congr 1; rw [hx1]; omega
         repeat' (first | refine PureC.use hc1 ?_ | refine PureC.use hc2 ?_ | refine PureC.use hc3 ?_ | refine PureC.use hc5 ?_ | refine PureC.use hc6 ?_ | refine CallsAbs.use1 hd2 ?_ | refine CallsAbs.use1 hd4 ?_ | refine CallsAbs.use1 (he1 _ (by rfl) (by rfl)) ?_ | refine CallsAbs.use1 (he2 _ (by rfl) (by rfl)) ?_ | refine CallsAbs.use1 (he3 _ (by rfl) (by rfl)) ?_ | refine CallsAbs.use1 (he4 _ (by rfl) (by rfl)) ?_ | refine CallsAbs.use1 (he5 _ (by rfl) (by rfl)) ?_ | refine CallsAbs.use1 (he6 _ (by rfl) (by rfl)) ?_ | refine CallsAbs.use1 (he7 _ (by rfl) (by rfl)) ?_ | refine CallsAbs.use1 (he8 _ (by rfl) (by rfl)) ?_ | refine ⟨fun _ => ?_, fun h => absurd h (by decide)⟩ | refine ⟨fun h => absurd h (by decide), fun _ => ?_⟩ | (refine ⟨fun h => ?_, fun h => ?_⟩ <;> (try simp only [wS, List.length_cons, List.length_nil] at h) <;> (try exact wX h)) | refine ⟨⟨oB, oB⟩, _, by assumption, by rfl, ?_⟩ | refine .inl ⟨⟨oB, oB⟩, ?_⟩ | refine ⟨⟨oB, oB⟩, ?_⟩ | refine ⟨⟨oB, oB, oB⟩, ?_⟩ | refine ⟨.inl rfl, ?_⟩ | refine ⟨.inr (.inl oB), ?_⟩ | refine ⟨_, rfl, rfl, by (first | exact Nat.le_refl _ | exact Nat.le_of_ble_eq_true rfl | decide), ?_⟩ | refine ⟨_, rfl, by (first | exact Nat.le_refl _ | exact Nat.le_of_ble_eq_true rfl | decide), ?_⟩ | refine ⟨by (first | exact Nat.le_refl _ | exact Nat.le_of_ble_eq_true rfl | decide | exact rfl), ?_⟩ | refine ⟨show _ ≤ (9223372036854775807 : Nat) from oB, ?_⟩ | refine ⟨show _ ≠ (0 : Int) from oB, ?_⟩ | refine ⟨_, rfl, _, rfl, ?_⟩ | refine ⟨_, by assumption, Nat.le_of_ble_eq_true rfl, ?_⟩ | refine ⟨_, by assumption, _, rfl, ?_⟩ | refine ⟨_, rfl, ?_⟩ | fail)
         exact ⟨_, _, _, ⟨s.length - (q'.drop (toN [d] q' + [d].length)).length, cl, ats, es, (name, x), rfl, by omega, by rw [hp5]; omega, by rw [hdr]; exact hb, hse, rfl, rfl⟩, by rw [hp5]; omega, Mv.of [.old 2, .old 3, .old 4, .old 5, .old 6] rfl rfl rfl ⟨⟨rfl, .inl ⟨rfl, dataA_pure _⟩⟩, ⟨rfl, .inl ⟨rfl, fun row h => by rw [List.mem_singleton.1 h]; rfl⟩⟩, .inl ⟨rfl, hse.2.1⟩, ⟨rfl, .inr ⟨⟨rfl, rfl, ⟨rfl, rfl, rfl⟩, rfl, rfl, trivial⟩, trivial⟩⟩, ⟨rfl, .inl ⟨rfl, fun row h => by rw [List.mem_singleton.1 h]; rfl⟩⟩, ⟨rfl, .inl ⟨rfl, dataA_pure _⟩⟩, ⟨rfl, .inr ⟨⟨rfl, rfl, ⟨rfl, rfl, rfl⟩, trivial⟩, trivial⟩⟩, trivial⟩ ⟨⟨rfl, rfl, rfl⟩, ⟨rfl, rfl, rfl⟩, rfl, ⟨rfl, rfl, rfl⟩, rfl, ⟨rfl, rfl, rfl⟩, trivial⟩⟩
      ·generalize hp5 : p4 + runN (hdB bareC) (s.drop p4) = p5
       have hle5 := runN_le (hdB bareC) (s.drop p4)
       have hd4 : (s.drop p4).length = s.length - p4 := by simp
       have hv : valueAt (s.drop p4) = some ((s.drop p4).take (p5 - p4), s.drop p5) := by
        have e1 : p5 - p4 = runN (hdB bareC) (s.drop p4) := by omega
        have e2 : s.drop p5 = (s.drop p4).drop (runN (hdB bareC) (s.drop p4)) := by rw [List.drop_drop, hp5]
        rw [e1, e2]
        generalize s.drop p4 = q at *
        cases q with
        | nil => rfl
        | cons d q' => unfold valueAt; exact if_neg fun h => hquo ⟨d, q', rfl, h⟩
       rw [hv] at hb
       have he8 := pass_any 160 bareC cls6_ok s p4 p5 l (by omega) hs hp5.symm
       have hc6 := Resolve_ok ((s.drop p4).take (p5 - p4)) (by simp; omega)
       replace hb : between (s.drop p5) cl (addA ats (name, resolve ((s.drop p4).take (p5 - p4)))) = R := hb
       generalize resolve ((s.drop p4).take (p5 - p4)) = x at *
       have hp45 : p4 ≤ p5 := by omega
       have hp5L : p5 ≤ s.length := by omega
       clear hv hle5 hp5 hd4 he4 he5 hc5
       have hme := hse.2.2 name
       unfold addA at hb
       cases hq : s.drop p4
       case nil =>
        rw [hq] at he7
        repeat' (first | refine PureC.use hc1 ?_ | refine PureC.use hc2 ?_ | refine PureC.use hc3 ?_ | refine PureC.use hc5 ?_ | refine PureC.use hc6 ?_ | refine CallsAbs.use1 hd2 ?_ | refine CallsAbs.use1 hd4 ?_ | refine CallsAbs.use1 (he1 _ (by rfl) (by rfl)) ?_ | refine CallsAbs.use1 (he2 _ (by rfl) (by rfl)) ?_ | refine CallsAbs.use1 (he3 _ (by rfl) (by rfl)) ?_ | refine CallsAbs.use1 (he4 _ (by rfl) (by rfl)) ?_ | refine CallsAbs.use1 (he5 _ (by rfl) (by rfl)) ?_ | refine CallsAbs.use1 (he6 _ (by rfl) (by rfl)) ?_ | refine CallsAbs.use1 (he7 _ (by rfl) (by rfl)) ?_ | refine CallsAbs.use1 (he8 _ (by rfl) (by rfl)) ?_ | refine ⟨fun _ => ?_, fun h => absurd h (by decide)⟩ | refine ⟨fun h => absurd h (by decide), fun _ => ?_⟩ | (refine ⟨fun h => ?_, fun h => ?_⟩ <;> (try simp only [wS, List.length_cons, List.length_nil] at h) <;> (try exact wX h)) | refine ⟨⟨oB, oB⟩, _, by assumption, by rfl, ?_⟩ | refine .inl ⟨⟨oB, oB⟩, ?_⟩ | refine ⟨⟨oB, oB⟩, ?_⟩ | refine ⟨⟨oB, oB, oB⟩, ?_⟩ | refine ⟨.inl rfl, ?_⟩ | refine ⟨.inr (.inl oB), ?_⟩ | refine ⟨_, rfl, rfl, by (first | exact Nat.le_refl _ | exact Nat.le_of_ble_eq_true rfl | decide), ?_⟩ | refine ⟨_, rfl, by (first | exact Nat.le_refl _ | exact Nat.le_of_ble_eq_true rfl | decide), ?_⟩ | refine ⟨by (first | exact Nat.le_refl _ | exact Nat.le_of_ble_eq_true rfl | decide | exact rfl), ?_⟩ | refine ⟨show _ ≤ (9223372036854775807 : Nat) from oB, ?_⟩ | refine ⟨show _ ≠ (0 : Int) from oB, ?_⟩ | refine ⟨_, rfl, _, rfl, ?_⟩ | refine ⟨_, by assumption, Nat.le_of_ble_eq_true rfl, ?_⟩ | refine ⟨_, by assumption, _, rfl, ?_⟩ | refine ⟨_, rfl, ?_⟩ | fail)
        first | refine ⟨rfl, es, _, rfl, hse.1, rfl, rfl, ?_⟩ | refine ⟨es, _, rfl, hse.1, rfl, rfl, ?_⟩
        by_cases hin : name ∈ ats.map (·.1)
        ·rw [if_pos hin] at hme hb
         rw [hme]
         repeat' (first | refine PureC.use hc1 ?_ | refine PureC.use hc2 ?_ | refine PureC.use hc3 ?_ | refine PureC.use hc5 ?_ | refine PureC.use hc6 ?_ | refine CallsAbs.use1 hd2 ?_ | refine CallsAbs.use1 hd4 ?_ | refine CallsAbs.use1 (he1 _ (by rfl) (by rfl)) ?_ | refine CallsAbs.use1 (he2 _ (by rfl) (by rfl)) ?_ | refine CallsAbs.use1 (he3 _ (by rfl) (by rfl)) ?_ | refine CallsAbs.use1 (he4 _ (by rfl) (by rfl)) ?_ | refine CallsAbs.use1 (he5 _ (by rfl) (by rfl)) ?_ | refine CallsAbs.use1 (he6 _ (by rfl) (by rfl)) ?_ | refine CallsAbs.use1 (he7 _ (by rfl) (by rfl)) ?_ | refine CallsAbs.use1 (he8 _ (by rfl) (by rfl)) ?_ | refine ⟨fun _ => ?_, fun h => absurd h (by decide)⟩ | refine ⟨fun h => absurd h (by decide), fun _ => ?_⟩ | (refine ⟨fun h => ?_, fun h => ?_⟩ <;> (try simp only [wS, List.length_cons, List.length_nil] at h) <;> (try exact wX h)) | refine ⟨⟨oB, oB⟩, _, by assumption, by rfl, ?_⟩ | refine .inl ⟨⟨oB, oB⟩, ?_⟩ | refine ⟨⟨oB, oB⟩, ?_⟩ | refine ⟨⟨oB, oB, oB⟩, ?_⟩ | refine ⟨.inl rfl, ?_⟩ | refine ⟨.inr (.inl oB), ?_⟩ | refine ⟨_, rfl, rfl, by (first | exact Nat.le_refl _ | exact Nat.le_of_ble_eq_true rfl | decide), ?_⟩ | refine ⟨_, rfl, by (first | exact Nat.le_refl _ | exact Nat.le_of_ble_eq_true rfl | decide), ?_⟩ | refine ⟨by (first | exact Nat.le_refl _ | exact Nat.le_of_ble_eq_true rfl | decide | exact rfl), ?_⟩ | refine ⟨show _ ≤ (9223372036854775807 : Nat) from oB, ?_⟩ | refine ⟨show _ ≠ (0 : Int) from oB, ?_⟩ | refine ⟨_, rfl, _, rfl, ?_⟩ | refine ⟨_, by assumption, Nat.le_of_ble_eq_true rfl, ?_⟩ | refine ⟨_, by assumption, _, rfl, ?_⟩ | refine ⟨_, rfl, ?_⟩ | fail)
         exact ⟨_, _, _, ⟨p5, cl, ats, es, (name, x), rfl, hp5L, by omega, hb, hse, rfl, rfl⟩, by omega, Mv.of [.old 2, .old 3, .old 4, .old 5, .old 6] rfl rfl rfl ⟨⟨rfl, .inl ⟨rfl, dataA_pure _⟩⟩, ⟨rfl, .inl ⟨rfl, fun row h => by rw [List.mem_singleton.1 h]; rfl⟩⟩, .inl ⟨rfl, hse.2.1⟩, ⟨rfl, .inr ⟨⟨rfl, rfl, ⟨rfl, rfl, rfl⟩, rfl, rfl, trivial⟩, trivial⟩⟩, ⟨rfl, .inl ⟨rfl, fun row h => by rw [List.mem_singleton.1 h]; rfl⟩⟩, ⟨rfl, .inl ⟨rfl, dataA_pure _⟩⟩, ⟨rfl, .inr ⟨⟨rfl, rfl, ⟨rfl, rfl, rfl⟩, trivial⟩, trivial⟩⟩, trivial⟩ ⟨⟨rfl, rfl, rfl⟩, ⟨rfl, rfl, rfl⟩, rfl, ⟨rfl, rfl, rfl⟩, rfl, ⟨rfl, rfl, rfl⟩, trivial⟩⟩
        ·rw [if_neg hin] at hme hb
         rw [hme]
         repeat' (first | refine PureC.use hc1 ?_ | refine PureC.use hc2 ?_ | refine PureC.use hc3 ?_ | refine PureC.use hc5 ?_ | refine PureC.use hc6 ?_ | refine CallsAbs.use1 hd2 ?_ | refine CallsAbs.use1 hd4 ?_ | refine CallsAbs.use1 (he1 _ (by rfl) (by rfl)) ?_ | refine CallsAbs.use1 (he2 _ (by rfl) (by rfl)) ?_ | refine CallsAbs.use1 (he3 _ (by rfl) (by rfl)) ?_ | refine CallsAbs.use1 (he4 _ (by rfl) (by rfl)) ?_ | refine CallsAbs.use1 (he5 _ (by rfl) (by rfl)) ?_ | refine CallsAbs.use1 (he6 _ (by rfl) (by rfl)) ?_ | refine CallsAbs.use1 (he7 _ (by rfl) (by rfl)) ?_ | refine CallsAbs.use1 (he8 _ (by rfl) (by rfl)) ?_ | refine ⟨fun _ => ?_, fun h => absurd h (by decide)⟩ | refine ⟨fun h => absurd h (by decide), fun _ => ?_⟩ | (refine ⟨fun h => ?_, fun h => ?_⟩ <;> (try simp only [wS, List.length_cons, List.length_nil] at h) <;> (try exact wX h)) | refine ⟨⟨oB, oB⟩, _, by assumption, by rfl, ?_⟩ | refine .inl ⟨⟨oB, oB⟩, ?_⟩ | refine ⟨⟨oB, oB⟩, ?_⟩ | refine ⟨⟨oB, oB, oB⟩, ?_⟩ | refine ⟨.inl rfl, ?_⟩ | refine ⟨.inr (.inl oB), ?_⟩ | refine ⟨_, rfl, rfl, by (first | exact Nat.le_refl _ | exact Nat.le_of_ble_eq_true rfl | decide), ?_⟩ | refine ⟨_, rfl, by (first | exact Nat.le_refl _ | exact Nat.le_of_ble_eq_true rfl | decide), ?_⟩ | refine ⟨by (first | exact Nat.le_refl _ | exact Nat.le_of_ble_eq_true rfl | decide | exact rfl), ?_⟩ | refine ⟨show _ ≤ (9223372036854775807 : Nat) from oB, ?_⟩ | refine ⟨show _ ≠ (0 : Int) from oB, ?_⟩ | refine ⟨_, rfl, _, rfl, ?_⟩ | refine ⟨_, by assumption, Nat.le_of_ble_eq_true rfl, ?_⟩ | refine ⟨_, by assumption, _, rfl, ?_⟩ | refine ⟨_, rfl, ?_⟩ | fail)
         first | refine ⟨rfl, es, rfl, hse.1, ?_⟩ | refine ⟨es, rfl, hse.1, ?_⟩ | refine ⟨hse.1, ?_⟩
         repeat' (first | refine PureC.use hc1 ?_ | refine PureC.use hc2 ?_ | refine PureC.use hc3 ?_ | refine PureC.use hc5 ?_ | refine PureC.use hc6 ?_ | refine CallsAbs.use1 hd2 ?_ | refine CallsAbs.use1 hd4 ?_ | refine CallsAbs.use1 (he1 _ (by rfl) (by rfl)) ?_ | refine CallsAbs.use1 (he2 _ (by rfl) (by rfl)) ?_ | refine CallsAbs.use1 (he3 _ (by rfl) (by rfl)) ?_ | refine CallsAbs.use1 (he4 _ (by rfl) (by rfl)) ?_ | refine CallsAbs.use1 (he5 _ (by rfl) (by rfl)) ?_ | refine CallsAbs.use1 (he6 _ (by rfl) (by rfl)) ?_ | refine CallsAbs.use1 (he7 _ (by rfl) (by rfl)) ?_ | refine CallsAbs.use1 (he8 _ (by rfl) (by rfl)) ?_ | refine ⟨fun _ => ?_, fun h => absurd h (by decide)⟩ | refine ⟨fun h => absurd h (by decide), fun _ => ?_⟩ | (refine ⟨fun h => ?_, fun h => ?_⟩ <;> (try simp only [wS, List.length_cons, List.length_nil] at h) <;> (try exact wX h)) | refine ⟨⟨oB, oB⟩, _, by assumption, by rfl, ?_⟩ | refine .inl ⟨⟨oB, oB⟩, ?_⟩ | refine ⟨⟨oB, oB⟩, ?_⟩ | refine ⟨⟨oB, oB, oB⟩, ?_⟩ | refine ⟨.inl rfl, ?_⟩ | refine ⟨.inr (.inl oB), ?_⟩ | refine ⟨_, rfl, rfl, by (first | exact Nat.le_refl _ | exact Nat.le_of_ble_eq_true rfl | decide), ?_⟩ | refine ⟨_, rfl, by (first | exact Nat.le_refl _ | exact Nat.le_of_ble_eq_true rfl | decide), ?_⟩ | refine ⟨by (first | exact Nat.le_refl _ | exact Nat.le_of_ble_eq_true rfl | decide | exact rfl), ?_⟩ | refine ⟨show _ ≤ (9223372036854775807 : Nat) from oB, ?_⟩ | refine ⟨show _ ≠ (0 : Int) from oB, ?_⟩ | refine ⟨_, rfl, _, rfl, ?_⟩ | refine ⟨_, by assumption, Nat.le_of_ble_eq_true rfl, ?_⟩ | refine ⟨_, by assumption, _, rfl, ?_⟩ | refine ⟨_, rfl, ?_⟩ | fail)
         refine ⟨(attrsD ats).map (fun r : List D => List.map AV.d r), [_], congrArg some (takeAll (attrsA_len ats)), rfl, (show srcLen (.own 6 0 ats.length) _ from attrsA_len ats), rfl, (by rw [attrsA_len]; show (ats.length + 1) * 32 ≤ 140737488355328; omega), Nat.le_of_ble_eq_true rfl, Nat.le_of_ble_eq_true rfl, rfl, rfl, attrsRowsA ats, rowsOne rfl rfl, ?_⟩
         repeat' (first | refine PureC.use hc1 ?_ | refine PureC.use hc2 ?_ | refine PureC.use hc3 ?_ | refine PureC.use hc5 ?_ | refine PureC.use hc6 ?_ | refine CallsAbs.use1 hd2 ?_ | refine CallsAbs.use1 hd4 ?_ | refine CallsAbs.use1 (he1 _ (by rfl) (by rfl)) ?_ | refine CallsAbs.use1 (he2 _ (by rfl) (by rfl)) ?_ | refine CallsAbs.use1 (he3 _ (by rfl) (by rfl)) ?_ | refine CallsAbs.use1 (he4 _ (by rfl) (by rfl)) ?_ | refine CallsAbs.use1 (he5 _ (by rfl) (by rfl)) ?_ | refine CallsAbs.use1 (he6 _ (by rfl) (by rfl)) ?_ | refine CallsAbs.use1 (he7 _ (by rfl) (by rfl)) ?_ | refine CallsAbs.use1 (he8 _ (by rfl) (by rfl)) ?_ | refine ⟨fun _ => ?_, fun h => absurd h (by decide)⟩ | refine ⟨fun h => absurd h (by decide), fun _ => ?_⟩ | (refine ⟨fun h => ?_, fun h => ?_⟩ <;> (try simp only [wS, List.length_cons, List.length_nil] at h) <;> (try exact wX h)) | refine ⟨⟨oB, oB⟩, _, by assumption, by rfl, ?_⟩ | refine .inl ⟨⟨oB, oB⟩, ?_⟩ | refine ⟨⟨oB, oB⟩, ?_⟩ | refine ⟨⟨oB, oB, oB⟩, ?_⟩ | refine ⟨.inl rfl, ?_⟩ | refine ⟨.inr (.inl oB), ?_⟩ | refine ⟨_, rfl, rfl, by (first | exact Nat.le_refl _ | exact Nat.le_of_ble_eq_true rfl | decide), ?_⟩ | refine ⟨_, rfl, by (first | exact Nat.le_refl _ | exact Nat.le_of_ble_eq_true rfl | decide), ?_⟩ | refine ⟨by (first | exact Nat.le_refl _ | exact Nat.le_of_ble_eq_true rfl | decide | exact rfl), ?_⟩ | refine ⟨show _ ≤ (9223372036854775807 : Nat) from oB, ?_⟩ | refine ⟨show _ ≠ (0 : Int) from oB, ?_⟩ | refine ⟨_, rfl, _, rfl, ?_⟩ | refine ⟨_, by assumption, Nat.le_of_ble_eq_true rfl, ?_⟩ | refine ⟨_, by assumption, _, rfl, ?_⟩ | refine ⟨_, rfl, ?_⟩ | fail)
         have hpu := hse.put (name, x)
         exact ⟨_, _, _, ⟨p5, cl, ats ++ [(name, x)], _, (name, x), rfl, hp5L, by simp; omega, hb, hpu, rfl, rfl⟩, by omega, Mv.of [.old 2, .old 3, .old 4, .old 5, .old 8] rfl rfl rfl ⟨⟨rfl, .inl ⟨(attrs_snoc ats (name, x)).symm, dataA_pure _⟩⟩, ⟨rfl, .inl ⟨rfl, fun row h => by rw [List.mem_singleton.1 h]; rfl⟩⟩, .inl ⟨rfl, hpu.2.1⟩, ⟨rfl, .inr ⟨⟨rfl, rfl, ⟨rfl, rfl, (by rw [attrsA_len, List.length_append]; rfl)⟩, rfl, rfl, trivial⟩, trivial⟩⟩, ⟨rfl, .inl ⟨rfl, fun row h => by rw [List.mem_singleton.1 h]; rfl⟩⟩, ⟨rfl, .inl ⟨rfl, dataA_pure _⟩⟩, ⟨rfl, .inr ⟨⟨rfl, rfl, ⟨rfl, rfl, rfl⟩, trivial⟩, trivial⟩⟩, trivial⟩ ⟨⟨rfl, rfl, rfl⟩, ⟨rfl, rfl, rfl⟩, rfl, ⟨rfl, rfl, rfl⟩, rfl, ⟨rfl, rfl, rfl⟩, trivial⟩⟩
       case cons d q' =>
        rw [hq] at he7
        have h34 : ¬ (((d :: q').getD (0 : Int).toNat 0).toNat : Int) = 34 := fun h => hquo ⟨d, q', hq, .inl (by have := u8eq d 34 (by decide); rw [decide_eq_decide] at this; exact this.2 h)⟩
        have h39 : ¬ (((d :: q').getD (0 : Int).toNat 0).toNat : Int) = 39 := fun h => hquo ⟨d, q', hq, .inr (by have := u8eq d 39 (by decide); rw [decide_eq_decide] at this; exact this.2 h)⟩
        repeat' (first | refine PureC.use hc1 ?_ | refine PureC.use hc2 ?_ | refine PureC.use hc3 ?_ | refine PureC.use hc5 ?_ | refine PureC.use hc6 ?_ | refine CallsAbs.use1 hd2 ?_ | refine CallsAbs.use1 hd4 ?_ | refine CallsAbs.use1 (he1 _ (by rfl) (by rfl)) ?_ | refine CallsAbs.use1 (he2 _ (by rfl) (by rfl)) ?_ | refine CallsAbs.use1 (he3 _ (by rfl) (by rfl)) ?_ | refine CallsAbs.use1 (he4 _ (by rfl) (by rfl)) ?_ | refine CallsAbs.use1 (he5 _ (by rfl) (by rfl)) ?_ | refine CallsAbs.use1 (he6 _ (by rfl) (by rfl)) ?_ | refine CallsAbs.use1 (he7 _ (by rfl) (by rfl)) ?_ | refine CallsAbs.use1 (he8 _ (by rfl) (by rfl)) ?_ | refine ⟨fun _ => ?_, fun h => absurd h (by decide)⟩ | refine ⟨fun h => absurd h (by decide), fun _ => ?_⟩ | (refine ⟨fun h => ?_, fun h => ?_⟩ <;> (try simp only [wS, List.length_cons, List.length_nil] at h) <;> (try exact wX h)) | refine ⟨⟨oB, oB⟩, _, by assumption, by rfl, ?_⟩ | refine .inl ⟨⟨oB, oB⟩, ?_⟩ | refine ⟨⟨oB, oB⟩, ?_⟩ | refine ⟨⟨oB, oB, oB⟩, ?_⟩ | refine ⟨.inl rfl, ?_⟩ | refine ⟨.inr (.inl oB), ?_⟩ | refine ⟨_, rfl, rfl, by (first | exact Nat.le_refl _ | exact Nat.le_of_ble_eq_true rfl | decide), ?_⟩ | refine ⟨_, rfl, by (first | exact Nat.le_refl _ | exact Nat.le_of_ble_eq_true rfl | decide), ?_⟩ | refine ⟨by (first | exact Nat.le_refl _ | exact Nat.le_of_ble_eq_true rfl | decide | exact rfl), ?_⟩ | refine ⟨show _ ≤ (9223372036854775807 : Nat) from oB, ?_⟩ | refine ⟨show _ ≠ (0 : Int) from oB, ?_⟩ | refine ⟨_, rfl, _, rfl, ?_⟩ | refine ⟨_, by assumption, Nat.le_of_ble_eq_true rfl, ?_⟩ | refine ⟨_, by assumption, _, rfl, ?_⟩ | refine ⟨_, rfl, ?_⟩ | fail)
        first | refine ⟨rfl, es, _, rfl, hse.1, rfl, rfl, ?_⟩ | refine ⟨es, _, rfl, hse.1, rfl, rfl, ?_⟩
        by_cases hin : name ∈ ats.map (·.1)
        ·rw [if_pos hin] at hme hb
         rw [hme]
         repeat' (first | refine PureC.use hc1 ?_ | refine PureC.use hc2 ?_ | refine PureC.use hc3 ?_ | refine PureC.use hc5 ?_ | refine PureC.use hc6 ?_ | refine CallsAbs.use1 hd2 ?_ | refine CallsAbs.use1 hd4 ?_ | refine CallsAbs.use1 (he1 _ (by rfl) (by rfl)) ?_ | refine CallsAbs.use1 (he2 _ (by rfl) (by rfl)) ?_ | refine CallsAbs.use1 (he3 _ (by rfl) (by rfl)) ?_ | refine CallsAbs.use1 (he4 _ (by rfl) (by rfl)) ?_ | refine CallsAbs.use1 (he5 _ (by rfl) (by rfl)) ?_ | refine CallsAbs.use1 (he6 _ (by rfl) (by rfl)) ?_ | refine CallsAbs.use1 (he7 _ (by rfl) (by rfl)) ?_ | refine CallsAbs.use1 (he8 _ (by rfl) (by rfl)) ?_ | refine ⟨fun _ => ?_, fun h => absurd h (by decide)⟩ | refine ⟨fun h => absurd h (by decide), fun _ => ?_⟩ | (refine ⟨fun h => ?_, fun h => ?_⟩ <;> (try simp only [wS, List.length_cons, List.length_nil] at h) <;> (try exact wX h)) | refine ⟨⟨oB, oB⟩, _, by assumption, by rfl, ?_⟩ | refine .inl ⟨⟨oB, oB⟩, ?_⟩ | refine ⟨⟨oB, oB⟩, ?_⟩ | refine ⟨⟨oB, oB, oB⟩, ?_⟩ | refine ⟨.inl rfl, ?_⟩ | refine ⟨.inr (.inl oB), ?_⟩ | refine ⟨_, rfl, rfl, by (first | exact Nat.le_refl _ | exact Nat.le_of_ble_eq_true rfl | decide), ?_⟩ | refine ⟨_, rfl, by (first | exact Nat.le_refl _ | exact Nat.le_of_ble_eq_true rfl | decide), ?_⟩ | refine ⟨by (first | exact Nat.le_refl _ | exact Nat.le_of_ble_eq_true rfl | decide | exact rfl), ?_⟩ | refine ⟨show _ ≤ (9223372036854775807 : Nat) from oB, ?_⟩ | refine ⟨show _ ≠ (0 : Int) from oB, ?_⟩ | refine ⟨_, rfl, _, rfl, ?_⟩ | refine ⟨_, by assumption, Nat.le_of_ble_eq_true rfl, ?_⟩ | refine ⟨_, by assumption, _, rfl, ?_⟩ | refine ⟨_, rfl, ?_⟩ | fail)
         exact ⟨_, _, _, ⟨p5, cl, ats, es, (name, x), rfl, hp5L, by omega, hb, hse, rfl, rfl⟩, by omega, Mv.of [.old 2, .old 3, .old 4, .old 5, .old 6] rfl rfl rfl ⟨⟨rfl, .inl ⟨rfl, dataA_pure _⟩⟩, ⟨rfl, .inl ⟨rfl, fun row h => by rw [List.mem_singleton.1 h]; rfl⟩⟩, .inl ⟨rfl, hse.2.1⟩, ⟨rfl, .inr ⟨⟨rfl, rfl, ⟨rfl, rfl, rfl⟩, rfl, rfl, trivial⟩, trivial⟩⟩, ⟨rfl, .inl ⟨rfl, fun row h => by rw [List.mem_singleton.1 h]; rfl⟩⟩, ⟨rfl, .inl ⟨rfl, dataA_pure _⟩⟩, ⟨rfl, .inr ⟨⟨rfl, rfl, ⟨rfl, rfl, rfl⟩, trivial⟩, trivial⟩⟩, trivial⟩ ⟨⟨rfl, rfl, rfl⟩, ⟨rfl, rfl, rfl⟩, rfl, ⟨rfl, rfl, rfl⟩, rfl, ⟨rfl, rfl, rfl⟩, trivial⟩⟩
        ·rw [if_neg hin] at hme hb
         rw [hme]
         repeat' (first | refine PureC.use hc1 ?_ | refine PureC.use hc2 ?_ | refine PureC.use hc3 ?_ | refine PureC.use hc5 ?_ | refine PureC.use hc6 ?_ | refine CallsAbs.use1 hd2 ?_ | refine CallsAbs.use1 hd4 ?_ | refine CallsAbs.use1 (he1 _ (by rfl) (by rfl)) ?_ | refine CallsAbs.use1 (he2 _ (by rfl) (by rfl)) ?_ | refine CallsAbs.use1 (he3 _ (by rfl) (by rfl)) ?_ | refine CallsAbs.use1 (he4 _ (by rfl) (by rfl)) ?_ | refine CallsAbs.use1 (he5 _ (by rfl) (by rfl)) ?_ | refine CallsAbs.use1 (he6 _ (by rfl) (by rfl)) ?_ | refine CallsAbs.use1 (he7 _ (by rfl) (by rfl)) ?_ | refine CallsAbs.use1 (he8 _ (by rfl) (by rfl)) ?_ | refine ⟨fun _ => ?_, fun h => absurd h (by decide)⟩ | refine ⟨fun h => absurd h (by decide), fun _ => ?_⟩ | (refine ⟨fun h => ?_, fun h => ?_⟩ <;> (try simp only [wS, List.length_cons, List.length_nil] at h) <;> (try exact wX h)) | refine ⟨⟨oB, oB⟩, _, by assumption, by rfl, ?_⟩ | refine .inl ⟨⟨oB, oB⟩, ?_⟩ | refine ⟨⟨oB, oB⟩, ?_⟩ | refine ⟨⟨oB, oB, oB⟩, ?_⟩ | refine ⟨.inl rfl, ?_⟩ | refine ⟨.inr (.inl oB), ?_⟩ | refine ⟨_, rfl, rfl, by (first | exact Nat.le_refl _ | exact Nat.le_of_ble_eq_true rfl | decide), ?_⟩ | refine ⟨_, rfl, by (first | exact Nat.le_refl _ | exact Nat.le_of_ble_eq_true rfl | decide), ?_⟩ | refine ⟨by (first | exact Nat.le_refl _ | exact Nat.le_of_ble_eq_true rfl | decide | exact rfl), ?_⟩ | refine ⟨show _ ≤ (9223372036854775807 : Nat) from oB, ?_⟩ | refine ⟨show _ ≠ (0 : Int) from oB, ?_⟩ | refine ⟨_, rfl, _, rfl, ?_⟩ | refine ⟨_, by assumption, Nat.le_of_ble_eq_true rfl, ?_⟩ | refine ⟨_, by assumption, _, rfl, ?_⟩ | refine ⟨_, rfl, ?_⟩ | fail)
         first | refine ⟨rfl, es, rfl, hse.1, ?_⟩ | refine ⟨es, rfl, hse.1, ?_⟩ | refine ⟨hse.1, ?_⟩
         repeat' (first | refine PureC.use hc1 ?_ | refine PureC.use hc2 ?_ | refine PureC.use hc3 ?_ | refine PureC.use hc5 ?_ | refine PureC.use hc6 ?_ | refine CallsAbs.use1 hd2 ?_ | refine CallsAbs.use1 hd4 ?_ | refine CallsAbs.use1 (he1 _ (by rfl) (by rfl)) ?_ | refine CallsAbs.use1 (he2 _ (by rfl) (by rfl)) ?_ | refine CallsAbs.use1 (he3 _ (by rfl) (by rfl)) ?_ | refine CallsAbs.use1 (he4 _ (by rfl) (by rfl)) ?_ | refine CallsAbs.use1 (he5 _ (by rfl) (by rfl)) ?_ | refine CallsAbs.use1 (he6 _ (by rfl) (by rfl)) ?_ | refine CallsAbs.use1 (he7 _ (by rfl) (by rfl)) ?_ | refine CallsAbs.use1 (he8 _ (by rfl) (by rfl)) ?_ | refine ⟨fun _ => ?_, fun h => absurd h (by decide)⟩ | refine ⟨fun h => absurd h (by decide), fun _ => ?_⟩ | (refine ⟨fun h => ?_, fun h => ?_⟩ <;> (try simp only [wS, List.length_cons, List.length_nil] at h) <;> (try exact wX h)) | refine ⟨⟨oB, oB⟩, _, by assumption, by rfl, ?_⟩ | refine .inl ⟨⟨oB, oB⟩, ?_⟩ | refine ⟨⟨oB, oB⟩, ?_⟩ | refine ⟨⟨oB, oB, oB⟩, ?_⟩ | refine ⟨.inl rfl, ?_⟩ | refine ⟨.inr (.inl oB), ?_⟩ | refine ⟨_, rfl, rfl, by (first | exact Nat.le_refl _ | exact Nat.le_of_ble_eq_true rfl | decide), ?_⟩ | refine ⟨_, rfl, by (first | exact Nat.le_refl _ | exact Nat.le_of_ble_eq_true rfl | decide), ?_⟩ | refine ⟨by (first | exact Nat.le_refl _ | exact Nat.le_of_ble_eq_true rfl | decide | exact rfl), ?_⟩ | refine ⟨show _ ≤ (9223372036854775807 : Nat) from oB, ?_⟩ | refine ⟨show _ ≠ (0 : Int) from oB, ?_⟩ | refine ⟨_, rfl, _, rfl, ?_⟩ | refine ⟨_, by assumption, Nat.le_of_ble_eq_true rfl, ?_⟩ | refine ⟨_, by assumption, _, rfl, ?_⟩ | refine ⟨_, rfl, ?_⟩ | fail)
         refine ⟨(attrsD ats).map (fun r : List D => List.map AV.d r), [_], congrArg some (takeAll (attrsA_len ats)), rfl, (show srcLen (.own 6 0 ats.length) _ from attrsA_len ats), rfl, (by rw [attrsA_len]; show (ats.length + 1) * 32 ≤ 140737488355328; omega), Nat.le_of_ble_eq_true rfl, Nat.le_of_ble_eq_true rfl, rfl, rfl, attrsRowsA ats, rowsOne rfl rfl, ?_⟩
         repeat' (first | refine PureC.use hc1 ?_ | refine PureC.use hc2 ?_ | refine PureC.use hc3 ?_ | refine PureC.use hc5 ?_ | refine PureC.use hc6 ?_ | refine CallsAbs.use1 hd2 ?_ | refine CallsAbs.use1 hd4 ?_ | refine CallsAbs.use1 (he1 _ (by rfl) (by rfl)) ?_ | refine CallsAbs.use1 (he2 _ (by rfl) (by rfl)) ?_ | refine CallsAbs.use1 (he3 _ (by rfl) (by rfl)) ?_ | refine CallsAbs.use1 (he4 _ (by rfl) (by rfl)) ?_ | refine CallsAbs.use1 (he5 _ (by rfl) (by rfl)) ?_ | refine CallsAbs.use1 (he6 _ (by rfl) (by rfl)) ?_ | refine CallsAbs.use1 (he7 _ (by rfl) (by rfl)) ?_ | refine CallsAbs.use1 (he8 _ (by rfl) (by rfl)) ?_ | refine ⟨fun _ => ?_, fun h => absurd h (by decide)⟩ | refine ⟨fun h => absurd h (by decide), fun _ => ?_⟩ | (refine ⟨fun h => ?_, fun h => ?_⟩ <;> (try simp only [wS, List.length_cons, List.length_nil] at h) <;> (try exact wX h)) | refine ⟨⟨oB, oB⟩, _, by assumption, by rfl, ?_⟩ | refine .inl ⟨⟨oB, oB⟩, ?_⟩ | refine ⟨⟨oB, oB⟩, ?_⟩ | refine ⟨⟨oB, oB, oB⟩, ?_⟩ | refine ⟨.inl rfl, ?_⟩ | refine ⟨.inr (.inl oB), ?_⟩ | refine ⟨_, rfl, rfl, by (first | exact Nat.le_refl _ | exact Nat.le_of_ble_eq_true rfl | decide), ?_⟩ | refine ⟨_, rfl, by (first | exact Nat.le_refl _ | exact Nat.le_of_ble_eq_true rfl | decide), ?_⟩ | refine ⟨by (first | exact Nat.le_refl _ | exact Nat.le_of_ble_eq_true rfl | decide | exact rfl), ?_⟩ | refine ⟨show _ ≤ (9223372036854775807 : Nat) from oB, ?_⟩ | refine ⟨show _ ≠ (0 : Int) from oB, ?_⟩ | refine ⟨_, rfl, _, rfl, ?_⟩ | refine ⟨_, by assumption, Nat.le_of_ble_eq_true rfl, ?_⟩ | refine ⟨_, by assumption, _, rfl, ?_⟩ | refine ⟨_, rfl, ?_⟩ | fail)
         have hpu := hse.put (name, x)
         exact ⟨_, _, _, ⟨p5, cl, ats ++ [(name, x)], _, (name, x), rfl, hp5L, by simp; omega, hb, hpu, rfl, rfl⟩, by omega, Mv.of [.old 2, .old 3, .old 4, .old 5, .old 8] rfl rfl rfl ⟨⟨rfl, .inl ⟨(attrs_snoc ats (name, x)).symm, dataA_pure _⟩⟩, ⟨rfl, .inl ⟨rfl, fun row h => by rw [List.mem_singleton.1 h]; rfl⟩⟩, .inl ⟨rfl, hpu.2.1⟩, ⟨rfl, .inr ⟨⟨rfl, rfl, ⟨rfl, rfl, (by rw [attrsA_len, List.length_append]; rfl)⟩, rfl, rfl, trivial⟩, trivial⟩⟩, ⟨rfl, .inl ⟨rfl, fun row h => by rw [List.mem_singleton.1 h]; rfl⟩⟩, ⟨rfl, .inl ⟨rfl, dataA_pure _⟩⟩, ⟨rfl, .inr ⟨⟨rfl, rfl, ⟨rfl, rfl, rfl⟩, trivial⟩, trivial⟩⟩, trivial⟩ ⟨⟨rfl, rfl, rfl⟩, ⟨rfl, rfl, rfl⟩, rfl, ⟨rfl, rfl, rfl⟩, rfl, ⟨rfl, rfl, rfl⟩, trivial⟩⟩
  | 1, hJ =>
   obtain ⟨m, cl, ats, es, a, rfl, hm, hal, hb, hse, rfl, rfl⟩ := hJ
   have hme := hse.2.2 a.1
   clear hle hdl
   unfold addA at hb
   refine ⟨_, rfl, E.of Tryz.wf Tryz.tab_ok ?_⟩
   repeat' (first | refine PureC.use hc1 ?_ | refine PureC.use hc2 ?_ | refine PureC.use hc3 ?_ | refine PureC.use hc5 ?_ | refine PureC.use hc6 ?_ | refine CallsAbs.use1 hd2 ?_ | refine CallsAbs.use1 hd4 ?_ | refine CallsAbs.use1 (he1 _ (by rfl) (by rfl)) ?_ | refine CallsAbs.use1 (he2 _ (by rfl) (by rfl)) ?_ | refine CallsAbs.use1 (he3 _ (by rfl) (by rfl)) ?_ | refine CallsAbs.use1 (he4 _ (by rfl) (by rfl)) ?_ | refine CallsAbs.use1 (he5 _ (by rfl) (by rfl)) ?_ | refine CallsAbs.use1 (he6 _ (by rfl) (by rfl)) ?_ | refine CallsAbs.use1 (he7 _ (by rfl) (by rfl)) ?_ | refine CallsAbs.use1 (he8 _ (by rfl) (by rfl)) ?_ | refine ⟨fun _ => ?_, fun h => absurd h (by decide)⟩ | refine ⟨fun h => absurd h (by decide), fun _ => ?_⟩ | (refine ⟨fun h => ?_, fun h => ?_⟩ <;> (try simp only [wS, List.length_cons, List.length_nil] at h) <;> (try exact wX h)) | refine ⟨⟨oB, oB⟩, _, by assumption, by rfl, ?_⟩ | refine .inl ⟨⟨oB, oB⟩, ?_⟩ | refine ⟨⟨oB, oB⟩, ?_⟩ | refine ⟨⟨oB, oB, oB⟩, ?_⟩ | refine ⟨.inl rfl, ?_⟩ | refine ⟨.inr (.inl oB), ?_⟩ | refine ⟨_, rfl, rfl, by (first | exact Nat.le_refl _ | exact Nat.le_of_ble_eq_true rfl | decide), ?_⟩ | refine ⟨_, rfl, by (first | exact Nat.le_refl _ | exact Nat.le_of_ble_eq_true rfl | decide), ?_⟩ | refine ⟨by (first | exact Nat.le_refl _ | exact Nat.le_of_ble_eq_true rfl | decide | exact rfl), ?_⟩ | refine ⟨show _ ≤ (9223372036854775807 : Nat) from oB, ?_⟩ | refine ⟨show _ ≠ (0 : Int) from oB, ?_⟩ | refine ⟨_, rfl, _, rfl, ?_⟩ | refine ⟨_, by assumption, Nat.le_of_ble_eq_true rfl, ?_⟩ | refine ⟨_, by assumption, _, rfl, ?_⟩ | refine ⟨_, rfl, ?_⟩ | fail)
   first | refine ⟨rfl, es, _, rfl, hse.1, rfl, rfl, ?_⟩ | refine ⟨es, _, rfl, hse.1, rfl, rfl, ?_⟩
   by_cases hin : a.1 ∈ ats.map (·.1)
   ·rw [if_pos hin] at hme hb
    rw [hme]
    repeat' (first | refine PureC.use hc1 ?_ | refine PureC.use hc2 ?_ | refine PureC.use hc3 ?_ | refine PureC.use hc5 ?_ | refine PureC.use hc6 ?_ | refine CallsAbs.use1 hd2 ?_ | refine CallsAbs.use1 hd4 ?_ | refine CallsAbs.use1 (he1 _ (by rfl) (by rfl)) ?_ | refine CallsAbs.use1 (he2 _ (by rfl) (by rfl)) ?_ | refine CallsAbs.use1 (he3 _ (by rfl) (by rfl)) ?_ | refine CallsAbs.use1 (he4 _ (by rfl) (by rfl)) ?_ | refine CallsAbs.use1 (he5 _ (by rfl) (by rfl)) ?_ | refine CallsAbs.use1 (he6 _ (by rfl) (by rfl)) ?_ | refine CallsAbs.use1 (he7 _ (by rfl) (by rfl)) ?_ | refine CallsAbs.use1 (he8 _ (by rfl) (by rfl)) ?_ | refine ⟨fun _ => ?_, fun h => absurd h (by decide)⟩ | refine ⟨fun h => absurd h (by decide), fun _ => ?_⟩ | (refine ⟨fun h => ?_, fun h => ?_⟩ <;> (try simp only [wS, List.length_cons, List.length_nil] at h) <;> (try exact wX h)) | refine ⟨⟨oB, oB⟩, _, by assumption, by rfl, ?_⟩ | refine .inl ⟨⟨oB, oB⟩, ?_⟩ | refine ⟨⟨oB, oB⟩, ?_⟩ | refine ⟨⟨oB, oB, oB⟩, ?_⟩ | refine ⟨.inl rfl, ?_⟩ | refine ⟨.inr (.inl oB), ?_⟩ | refine ⟨_, rfl, rfl, by (first | exact Nat.le_refl _ | exact Nat.le_of_ble_eq_true rfl | decide), ?_⟩ | refine ⟨_, rfl, by (first | exact Nat.le_refl _ | exact Nat.le_of_ble_eq_true rfl | decide), ?_⟩ | refine ⟨by (first | exact Nat.le_refl _ | exact Nat.le_of_ble_eq_true rfl | decide | exact rfl), ?_⟩ | refine ⟨show _ ≤ (9223372036854775807 : Nat) from oB, ?_⟩ | refine ⟨show _ ≠ (0 : Int) from oB, ?_⟩ | refine ⟨_, rfl, _, rfl, ?_⟩ | refine ⟨_, by assumption, Nat.le_of_ble_eq_true rfl, ?_⟩ | refine ⟨_, by assumption, _, rfl, ?_⟩ | refine ⟨_, rfl, ?_⟩ | fail)
    exact ⟨_, _, _, ⟨m, cl, ats, es, a, rfl, hm, by omega, hb, hse, rfl, rfl⟩, by omega, Mv.of [.old 2, .old 3, .old 4, .old 5, .old 6] rfl rfl rfl ⟨⟨rfl, .inl ⟨rfl, dataA_pure _⟩⟩, ⟨rfl, .inl ⟨rfl, fun row h => by rw [List.mem_singleton.1 h]; rfl⟩⟩, .inl ⟨rfl, hse.2.1⟩, ⟨rfl, .inr ⟨⟨rfl, rfl, ⟨rfl, rfl, rfl⟩, rfl, rfl, trivial⟩, trivial⟩⟩, ⟨rfl, .inl ⟨rfl, fun row h => by rw [List.mem_singleton.1 h]; rfl⟩⟩, ⟨rfl, .inl ⟨rfl, dataA_pure _⟩⟩, ⟨rfl, .inr ⟨⟨rfl, rfl, ⟨rfl, rfl, rfl⟩, trivial⟩, trivial⟩⟩, trivial⟩ ⟨⟨rfl, rfl, rfl⟩, ⟨rfl, rfl, rfl⟩, rfl, ⟨rfl, rfl, rfl⟩, rfl, ⟨rfl, rfl, rfl⟩, trivial⟩⟩
   ·rw [if_neg hin] at hme hb
    rw [hme]
    repeat' (first | refine PureC.use hc1 ?_ | refine PureC.use hc2 ?_ | refine PureC.use hc3 ?_ | refine PureC.use hc5 ?_ | refine PureC.use hc6 ?_ | refine CallsAbs.use1 hd2 ?_ | refine CallsAbs.use1 hd4 ?_ | refine CallsAbs.use1 (he1 _ (by rfl) (by rfl)) ?_ | refine CallsAbs.use1 (he2 _ (by rfl) (by rfl)) ?_ | refine CallsAbs.use1 (he3 _ (by rfl) (by rfl)) ?_ | refine CallsAbs.use1 (he4 _ (by rfl) (by rfl)) ?_ | refine CallsAbs.use1 (he5 _ (by rfl) (by rfl)) ?_ | refine CallsAbs.use1 (he6 _ (by rfl) (by rfl)) ?_ | refine CallsAbs.use1 (he7 _ (by rfl) (by rfl)) ?_ | refine CallsAbs.use1 (he8 _ (by rfl) (by rfl)) ?_ | refine ⟨fun _ => ?_, fun h => absurd h (by decide)⟩ | refine ⟨fun h => absurd h (by decide), fun _ => ?_⟩ | (refine ⟨fun h => ?_, fun h => ?_⟩ <;> (try simp only [wS, List.length_cons, List.length_nil] at h) <;> (try exact wX h)) | refine ⟨⟨oB, oB⟩, _, by assumption, by rfl, ?_⟩ | refine .inl ⟨⟨oB, oB⟩, ?_⟩ | refine ⟨⟨oB, oB⟩, ?_⟩ | refine ⟨⟨oB, oB, oB⟩, ?_⟩ | refine ⟨.inl rfl, ?_⟩ | refine ⟨.inr (.inl oB), ?_⟩ | refine ⟨_, rfl, rfl, by (first | exact Nat.le_refl _ | exact Nat.le_of_ble_eq_true rfl | decide), ?_⟩ | refine ⟨_, rfl, by (first | exact Nat.le_refl _ | exact Nat.le_of_ble_eq_true rfl | decide), ?_⟩ | refine ⟨by (first | exact Nat.le_refl _ | exact Nat.le_of_ble_eq_true rfl | decide | exact rfl), ?_⟩ | refine ⟨show _ ≤ (9223372036854775807 : Nat) from oB, ?_⟩ | refine ⟨show _ ≠ (0 : Int) from oB, ?_⟩ | refine ⟨_, rfl, _, rfl, ?_⟩ | refine ⟨_, by assumption, Nat.le_of_ble_eq_true rfl, ?_⟩ | refine ⟨_, by assumption, _, rfl, ?_⟩ | refine ⟨_, rfl, ?_⟩ | fail)
    first | refine ⟨rfl, es, rfl, hse.1, ?_⟩ | refine ⟨es, rfl, hse.1, ?_⟩ | refine ⟨hse.1, ?_⟩
    repeat' (first | refine PureC.use hc1 ?_ | refine PureC.use hc2 ?_ | refine PureC.use hc3 ?_ | refine PureC.use hc5 ?_ | refine PureC.use hc6 ?_ | refine CallsAbs.use1 hd2 ?_ | refine CallsAbs.use1 hd4 ?_ | refine CallsAbs.use1 (he1 _ (by rfl) (by rfl)) ?_ | refine CallsAbs.use1 (he2 _ (by rfl) (by rfl)) ?_ | refine CallsAbs.use1 (he3 _ (by rfl) (by rfl)) ?_ | refine CallsAbs.use1 (he4 _ (by rfl) (by rfl)) ?_ | refine CallsAbs.use1 (he5 _ (by rfl) (by rfl)) ?_ | refine CallsAbs.use1 (he6 _ (by rfl) (by rfl)) ?_ | refine CallsAbs.use1 (he7 _ (by rfl) (by rfl)) ?_ | refine CallsAbs.use1 (he8 _ (by rfl) (by rfl)) ?_ | refine ⟨fun _ => ?_, fun h => absurd h (by decide)⟩ | refine ⟨fun h => absurd h (by decide), fun _ => ?_⟩ | (refine ⟨fun h => ?_, fun h => ?_⟩ <;> (try simp only [wS, List.length_cons, List.length_nil] at h) <;> (try exact wX h)) | refine ⟨⟨oB, oB⟩, _, by assumption, by rfl, ?_⟩ | refine .inl ⟨⟨oB, oB⟩, ?_⟩ | refine ⟨⟨oB, oB⟩, ?_⟩ | refine ⟨⟨oB, oB, oB⟩, ?_⟩ | refine ⟨.inl rfl, ?_⟩ | refine ⟨.inr (.inl oB), ?_⟩ | refine ⟨_, rfl, rfl, by (first | exact Nat.le_refl _ | exact Nat.le_of_ble_eq_true rfl | decide), ?_⟩ | refine ⟨_, rfl, by (first | exact Nat.le_refl _ | exact Nat.le_of_ble_eq_true rfl | decide), ?_⟩ | refine ⟨by (first | exact Nat.le_refl _ | exact Nat.le_of_ble_eq_true rfl | decide | exact rfl), ?_⟩ | refine ⟨show _ ≤ (9223372036854775807 : Nat) from oB, ?_⟩ | refine ⟨show _ ≠ (0 : Int) from oB, ?_⟩ | refine ⟨_, rfl, _, rfl, ?_⟩ | refine ⟨_, by assumption, Nat.le_of_ble_eq_true rfl, ?_⟩ | refine ⟨_, by assumption, _, rfl, ?_⟩ | refine ⟨_, rfl, ?_⟩ | fail)
    refine ⟨(attrsD ats).map (fun r : List D => List.map AV.d r), [_], congrArg some (takeAll (attrsA_len ats)), rfl, (show srcLen (.own 6 0 ats.length) _ from attrsA_len ats), rfl, (by rw [attrsA_len]; show (ats.length + 1) * 32 ≤ 140737488355328; omega), Nat.le_of_ble_eq_true rfl, Nat.le_of_ble_eq_true rfl, rfl, rfl, attrsRowsA ats, rowsOne rfl rfl, ?_⟩
    repeat' (first | refine PureC.use hc1 ?_ | refine PureC.use hc2 ?_ | refine PureC.use hc3 ?_ | refine PureC.use hc5 ?_ | refine PureC.use hc6 ?_ | refine CallsAbs.use1 hd2 ?_ | refine CallsAbs.use1 hd4 ?_ | refine CallsAbs.use1 (he1 _ (by rfl) (by rfl)) ?_ | refine CallsAbs.use1 (he2 _ (by rfl) (by rfl)) ?_ | refine CallsAbs.use1 (he3 _ (by rfl) (by rfl)) ?_ | refine CallsAbs.use1 (he4 _ (by rfl) (by rfl)) ?_ | refine CallsAbs.use1 (he5 _ (by rfl) (by rfl)) ?_ | refine CallsAbs.use1 (he6 _ (by rfl) (by rfl)) ?_ | refine CallsAbs.use1 (he7 _ (by rfl) (by rfl)) ?_ | refine CallsAbs.use1 (he8 _ (by rfl) (by rfl)) ?_ | refine ⟨fun _ => ?_, fun h => absurd h (by decide)⟩ | refine ⟨fun h => absurd h (by decide), fun _ => ?_⟩ | (refine ⟨fun h => ?_, fun h => ?_⟩ <;> (try simp only [wS, List.length_cons, List.length_nil] at h) <;> (try exact wX h)) | refine ⟨⟨oB, oB⟩, _, by assumption, by rfl, ?_⟩ | refine .inl ⟨⟨oB, oB⟩, ?_⟩ | refine ⟨⟨oB, oB⟩, ?_⟩ | refine ⟨⟨oB, oB, oB⟩, ?_⟩ | refine ⟨.inl rfl, ?_⟩ | refine ⟨.inr (.inl oB), ?_⟩ | refine ⟨_, rfl, rfl, by (first | exact Nat.le_refl _ | exact Nat.le_of_ble_eq_true rfl | decide), ?_⟩ | refine ⟨_, rfl, by (first | exact Nat.le_refl _ | exact Nat.le_of_ble_eq_true rfl | decide), ?_⟩ | refine ⟨by (first | exact Nat.le_refl _ | exact Nat.le_of_ble_eq_true rfl | decide | exact rfl), ?_⟩ | refine ⟨show _ ≤ (9223372036854775807 : Nat) from oB, ?_⟩ | refine ⟨show _ ≠ (0 : Int) from oB, ?_⟩ | refine ⟨_, rfl, _, rfl, ?_⟩ | refine ⟨_, by assumption, Nat.le_of_ble_eq_true rfl, ?_⟩ | refine ⟨_, by assumption, _, rfl, ?_⟩ | refine ⟨_, rfl, ?_⟩ | fail)
    have hpu := hse.put a
    exact ⟨_, _, _, ⟨m, cl, ats ++ [a], _, a, rfl, hm, by simp; omega, hb, hpu, rfl, rfl⟩, by omega, Mv.of [.old 2, .old 3, .old 4, .old 5, .old 8] rfl rfl rfl ⟨⟨rfl, .inl ⟨(attrs_snoc ats a).symm, dataA_pure _⟩⟩, ⟨rfl, .inl ⟨rfl, fun row h => by rw [List.mem_singleton.1 h]; rfl⟩⟩, .inl ⟨rfl, hpu.2.1⟩, ⟨rfl, .inr ⟨⟨rfl, rfl, ⟨rfl, rfl, (by rw [attrsA_len, List.length_append]; rfl)⟩, rfl, rfl, trivial⟩, trivial⟩⟩, ⟨rfl, .inl ⟨rfl, fun row h => by rw [List.mem_singleton.1 h]; rfl⟩⟩, ⟨rfl, .inl ⟨rfl, dataA_pure _⟩⟩, ⟨rfl, .inr ⟨⟨rfl, rfl, ⟨rfl, rfl, rfl⟩, trivial⟩, trivial⟩⟩, trivial⟩ ⟨⟨rfl, rfl, rfl⟩, ⟨rfl, rfl, rfl⟩, rfl, ⟨rfl, rfl, rfl⟩, rfl, ⟨rfl, rfl, rfl⟩, trivial⟩⟩
  | n + 2, hJ => exact hJ.elim
 ·intro key
  have he1 := pass_any 154 nameC cls1_ok s n (n + runN (hdB nameC) (s.drop n)) l hn hs rfl
  rw [Nat.add_sub_cancel_left] at he1
  have hc1 := Lower_ok ((s.drop n).take (runN (hdB nameC) (s.drop n))) (by simp; omega)
  rw [List.drop_drop] at hR
  refine E.seq (E.of Tryz.wf Tryz.tab_ok ?_)
  repeat' (first | refine PureC.use hc1 ?_ | refine PureC.use hc2 ?_ | refine PureC.use hc3 ?_ | refine PureC.use hc5 ?_ | refine PureC.use hc6 ?_ | refine CallsAbs.use1 hd2 ?_ | refine CallsAbs.use1 hd4 ?_ | refine CallsAbs.use1 (he1 _ (by rfl) (by rfl)) ?_ | refine CallsAbs.use1 (he2 _ (by rfl) (by rfl)) ?_ | refine CallsAbs.use1 (he3 _ (by rfl) (by rfl)) ?_ | refine CallsAbs.use1 (he4 _ (by rfl) (by rfl)) ?_ | refine CallsAbs.use1 (he5 _ (by rfl) (by rfl)) ?_ | refine CallsAbs.use1 (he6 _ (by rfl) (by rfl)) ?_ | refine CallsAbs.use1 (he7 _ (by rfl) (by rfl)) ?_ | refine CallsAbs.use1 (he8 _ (by rfl) (by rfl)) ?_ | refine ⟨fun _ => ?_, fun h => absurd h (by decide)⟩ | refine ⟨fun h => absurd h (by decide), fun _ => ?_⟩ | (refine ⟨fun h => ?_, fun h => ?_⟩ <;> (try simp only [wS, List.length_cons, List.length_nil] at h) <;> (try exact wX h)) | refine ⟨⟨oB, oB⟩, _, by assumption, by rfl, ?_⟩ | refine .inl ⟨⟨oB, oB⟩, ?_⟩ | refine ⟨⟨oB, oB⟩, ?_⟩ | refine ⟨⟨oB, oB, oB⟩, ?_⟩ | refine ⟨.inl rfl, ?_⟩ | refine ⟨.inr (.inl oB), ?_⟩ | refine ⟨_, rfl, rfl, by (first | exact Nat.le_refl _ | exact Nat.le_of_ble_eq_true rfl | decide), ?_⟩ | refine ⟨_, rfl, by (first | exact Nat.le_refl _ | exact Nat.le_of_ble_eq_true rfl | decide), ?_⟩ | refine ⟨by (first | exact Nat.le_refl _ | exact Nat.le_of_ble_eq_true rfl | decide | exact rfl), ?_⟩ | refine ⟨show _ ≤ (9223372036854775807 : Nat) from oB, ?_⟩ | refine ⟨show _ ≠ (0 : Int) from oB, ?_⟩ | refine ⟨_, rfl, _, rfl, ?_⟩ | refine ⟨_, by assumption, Nat.le_of_ble_eq_true rfl, ?_⟩ | refine ⟨_, by assumption, _, rfl, ?_⟩ | refine ⟨_, rfl, ?_⟩ | fail)
  refine E.seq (E.of Tryz.wf Tryz.tab_ok ?_)
  repeat' (first | refine PureC.use hc1 ?_ | refine PureC.use hc2 ?_ | refine PureC.use hc3 ?_ | refine PureC.use hc5 ?_ | refine PureC.use hc6 ?_ | refine CallsAbs.use1 hd2 ?_ | refine CallsAbs.use1 hd4 ?_ | refine CallsAbs.use1 (he1 _ (by rfl) (by rfl)) ?_ | refine CallsAbs.use1 (he2 _ (by rfl) (by rfl)) ?_ | refine CallsAbs.use1 (he3 _ (by rfl) (by rfl)) ?_ | refine CallsAbs.use1 (he4 _ (by rfl) (by rfl)) ?_ | refine CallsAbs.use1 (he5 _ (by rfl) (by rfl)) ?_ | refine CallsAbs.use1 (he6 _ (by rfl) (by rfl)) ?_ | refine CallsAbs.use1 (he7 _ (by rfl) (by rfl)) ?_ | refine CallsAbs.use1 (he8 _ (by rfl) (by rfl)) ?_ | refine ⟨fun _ => ?_, fun h => absurd h (by decide)⟩ | refine ⟨fun h => absurd h (by decide), fun _ => ?_⟩ | (refine ⟨fun h => ?_, fun h => ?_⟩ <;> (try simp only [wS, List.length_cons, List.length_nil] at h) <;> (try exact wX h)) | refine ⟨⟨oB, oB⟩, _, by assumption, by rfl, ?_⟩ | refine .inl ⟨⟨oB, oB⟩, ?_⟩ | refine ⟨⟨oB, oB⟩, ?_⟩ | refine ⟨⟨oB, oB, oB⟩, ?_⟩ | refine ⟨.inl rfl, ?_⟩ | refine ⟨.inr (.inl oB), ?_⟩ | refine ⟨_, rfl, rfl, by (first | exact Nat.le_refl _ | exact Nat.le_of_ble_eq_true rfl | decide), ?_⟩ | refine ⟨_, rfl, by (first | exact Nat.le_refl _ | exact Nat.le_of_ble_eq_true rfl | decide), ?_⟩ | refine ⟨by (first | exact Nat.le_refl _ | exact Nat.le_of_ble_eq_true rfl | decide | exact rfl), ?_⟩ | refine ⟨show _ ≤ (9223372036854775807 : Nat) from oB, ?_⟩ | refine ⟨show _ ≠ (0 : Int) from oB, ?_⟩ | refine ⟨_, rfl, _, rfl, ?_⟩ | refine ⟨_, by assumption, Nat.le_of_ble_eq_true rfl, ?_⟩ | refine ⟨_, by assumption, _, rfl, ?_⟩ | refine ⟨_, rfl, ?_⟩ | fail)
  refine E.seq (E.of Tryz.wf Tryz.tab_ok ?_)
  repeat' (first | refine PureC.use hc1 ?_ | refine PureC.use hc2 ?_ | refine PureC.use hc3 ?_ | refine PureC.use hc5 ?_ | refine PureC.use hc6 ?_ | refine CallsAbs.use1 hd2 ?_ | refine CallsAbs.use1 hd4 ?_ | refine CallsAbs.use1 (he1 _ (by rfl) (by rfl)) ?_ | refine CallsAbs.use1 (he2 _ (by rfl) (by rfl)) ?_ | refine CallsAbs.use1 (he3 _ (by rfl) (by rfl)) ?_ | refine CallsAbs.use1 (he4 _ (by rfl) (by rfl)) ?_ | refine CallsAbs.use1 (he5 _ (by rfl) (by rfl)) ?_ | refine CallsAbs.use1 (he6 _ (by rfl) (by rfl)) ?_ | refine CallsAbs.use1 (he7 _ (by rfl) (by rfl)) ?_ | refine CallsAbs.use1 (he8 _ (by rfl) (by rfl)) ?_ | refine ⟨fun _ => ?_, fun h => absurd h (by decide)⟩ | refine ⟨fun h => absurd h (by decide), fun _ => ?_⟩ | (refine ⟨fun h => ?_, fun h => ?_⟩ <;> (try simp only [wS, List.length_cons, List.length_nil] at h) <;> (try exact wX h)) | refine ⟨⟨oB, oB⟩, _, by assumption, by rfl, ?_⟩ | refine .inl ⟨⟨oB, oB⟩, ?_⟩ | refine ⟨⟨oB, oB⟩, ?_⟩ | refine ⟨⟨oB, oB, oB⟩, ?_⟩ | refine ⟨.inl rfl, ?_⟩ | refine ⟨.inr (.inl oB), ?_⟩ | refine ⟨_, rfl, rfl, by (first | exact Nat.le_refl _ | exact Nat.le_of_ble_eq_true rfl | decide), ?_⟩ | refine ⟨_, rfl, by (first | exact Nat.le_refl _ | exact Nat.le_of_ble_eq_true rfl | decide), ?_⟩ | refine ⟨by (first | exact Nat.le_refl _ | exact Nat.le_of_ble_eq_true rfl | decide | exact rfl), ?_⟩ | refine ⟨show _ ≤ (9223372036854775807 : Nat) from oB, ?_⟩ | refine ⟨show _ ≠ (0 : Int) from oB, ?_⟩ | refine ⟨_, rfl, _, rfl, ?_⟩ | refine ⟨_, by assumption, Nat.le_of_ble_eq_true rfl, ?_⟩ | refine ⟨_, by assumption, _, rfl, ?_⟩ | refine ⟨_, rfl, ?_⟩ | fail)
  refine E.seq (E.of Tryz.wf Tryz.tab_ok ?_)
  repeat' (first | refine PureC.use hc1 ?_ | refine PureC.use hc2 ?_ | refine PureC.use hc3 ?_ | refine PureC.use hc5 ?_ | refine PureC.use hc6 ?_ | refine CallsAbs.use1 hd2 ?_ | refine CallsAbs.use1 hd4 ?_ | refine CallsAbs.use1 (he1 _ (by rfl) (by rfl)) ?_ | refine CallsAbs.use1 (he2 _ (by rfl) (by rfl)) ?_ | refine CallsAbs.use1 (he3 _ (by rfl) (by rfl)) ?_ | refine CallsAbs.use1 (he4 _ (by rfl) (by rfl)) ?_ | refine CallsAbs.use1 (he5 _ (by rfl) (by rfl)) ?_ | refine CallsAbs.use1 (he6 _ (by rfl) (by rfl)) ?_ | refine CallsAbs.use1 (he7 _ (by rfl) (by rfl)) ?_ | refine CallsAbs.use1 (he8 _ (by rfl) (by rfl)) ?_ | refine ⟨fun _ => ?_, fun h => absurd h (by decide)⟩ | refine ⟨fun h => absurd h (by decide), fun _ => ?_⟩ | (refine ⟨fun h => ?_, fun h => ?_⟩ <;> (try simp only [wS, List.length_cons, List.length_nil] at h) <;> (try exact wX h)) | refine ⟨⟨oB, oB⟩, _, by assumption, by rfl, ?_⟩ | refine .inl ⟨⟨oB, oB⟩, ?_⟩ | refine ⟨⟨oB, oB⟩, ?_⟩ | refine ⟨⟨oB, oB, oB⟩, ?_⟩ | refine ⟨.inl rfl, ?_⟩ | refine ⟨.inr (.inl oB), ?_⟩ | refine ⟨_, rfl, rfl, by (first | exact Nat.le_refl _ | exact Nat.le_of_ble_eq_true rfl | decide), ?_⟩ | refine ⟨_, rfl, by (first | exact Nat.le_refl _ | exact Nat.le_of_ble_eq_true rfl | decide), ?_⟩ | refine ⟨by (first | exact Nat.le_refl _ | exact Nat.le_of_ble_eq_true rfl | decide | exact rfl), ?_⟩ | refine ⟨show _ ≤ (9223372036854775807 : Nat) from oB, ?_⟩ | refine ⟨show _ ≠ (0 : Int) from oB, ?_⟩ | refine ⟨_, rfl, _, rfl, ?_⟩ | refine ⟨_, by assumption, Nat.le_of_ble_eq_true rfl, ?_⟩ | refine ⟨_, by assumption, _, rfl, ?_⟩ | refine ⟨_, rfl, ?_⟩ | fail)
  refine E.seq (E.of Tryz.wf Tryz.tab_ok ?_)
  refine E.view (s' := tagSt) (σ' := tagSr s l (lower ((s.drop n).take (runN (hdB nameC) (s.drop n)))) (n + runN (hdB nameC) (s.drop n)) false [] [] ([], [])) ?_ ?_
  ·exact Mv.of [.old 2, .old 3, .old 4, .old 5, .phan 2] rfl rfl rfl ⟨rfl, ⟨rfl, .inl ⟨rfl, fun row h => by rw [List.mem_singleton.1 h]; rfl⟩⟩, .inl ⟨rfl, fun e he => by simp at he⟩, ⟨rfl, .inr ⟨⟨rfl, rfl, ⟨rfl, rfl, rfl⟩, rfl, rfl, trivial⟩, trivial⟩⟩, ⟨rfl, .inl ⟨rfl, fun row h => by rw [List.mem_singleton.1 h]; rfl⟩⟩, ⟨rfl, .inl ⟨rfl, dataA_pure _⟩⟩, ⟨rfl, .inr ⟨⟨rfl, rfl, ⟨rfl, rfl, rfl⟩, trivial⟩, trivial⟩⟩, trivial⟩ ⟨⟨rfl, rfl, rfl⟩, ⟨rfl, rfl, rfl⟩, rfl, ⟨rfl, rfl, rfl⟩, rfl, ⟨rfl, rfl, rfl⟩, trivial⟩
  ·obtain ⟨r, h1, h2⟩ := key 0 _ _ _ ⟨n + runN (hdB nameC) (s.drop n), false, [], [], ([], []), rfl, by omega, by simp, hR, ⟨by intro e he; simp at he, by intro e he; simp at he, by intro x; rfl⟩, rfl, rfl⟩
   cases h1
   exact h2
def NextK (s : List UInt8) (l : List Tok) (x : List UInt8) (r : AV) (σ' : Store) : Prop := match step x with
 | some (e, r') => r = .d (.bool true) ∧ ((e = [] ∧ σ' = rdS s (s.length - r'.length) l) ∨ (e ≠ [] ∧ σ' = rdS2 s (s.length - r'.length) (l ++ e)))
 | none => ∃ m, m ≤ s.length ∧ r = .d (.bool false) ∧ σ' = rdS s m l
theorem kind_cases {x : List UInt8} (hk : kindL x ≠ 0) : ∃ c r, x = 60 :: c :: r ∧
    ((kindL x = 1 ∧ hasPre x [60, 33, 45, 45] = true ∧ c = 33) ∨
     (hasPre x [60, 33, 45, 45] = false ∧ ((kindL x = 3 ∧ (c = 33 ∨ c = 63)) ∨ (kindL x = 4 ∧ ltrB c = true ∧ c ≠ 47) ∨
       (c = 47 ∧ ∃ d r', r = d :: r' ∧ ((kindL x = 2 ∧ d = 62) ∨ (kindL x = 5 ∧ ltrB d = true ∧ d ≠ 62) ∨ (kindL x = 3 ∧ ltrB d = false ∧ d ≠ 62)))))) := by
  obtain ⟨c, r, rfl⟩ := kind_pos hk
  refine ⟨c, r, rfl, ?_⟩
  have e1 : hasPre (60 :: c :: r) [60, 33, 45, 45] = hasPre (c :: r) [33, 45, 45] := by simp [hasPre]
  rw [e1]
  unfold kindL at hk ⊢
  simp only [if_true] at hk ⊢
  by_cases h1 : hasPre (c :: r) [33, 45, 45] = true
  · refine .inl ⟨by rw [if_pos h1], h1, ?_⟩
    simp [hasPre] at h1; exact h1.2.1
  · refine .inr ⟨by simpa using h1, ?_⟩
    rw [if_neg h1] at hk ⊢
    by_cases h2 : c = 33 ∨ c = 63
    · exact .inl ⟨if_pos h2, h2⟩
    · rw [if_neg h2] at hk ⊢
      by_cases h3 : ltrB c = true
      · rw [if_pos h3] at hk ⊢
        exact .inr (.inl ⟨rfl, h3, fun e => by subst e; revert h3; decide⟩)
      · rw [if_neg h3] at hk ⊢
        by_cases h4 : c = 47
        · rw [if_pos h4] at hk ⊢
          cases r with
          | nil => exact absurd rfl hk
          | cons d r' =>
            refine .inr (.inr ⟨h4, d, r', rfl, ?_⟩)
            dsimp only
            by_cases h5 : d = 62
            · exact .inl ⟨if_pos h5, h5⟩
            · rw [if_neg h5]
              by_cases h6 : ltrB d = true
              · exact .inr (.inl ⟨if_pos h6, h6, h5⟩)
              · exact .inr (.inr ⟨if_neg h6, by simpa using h6, h5⟩)
        · rw [if_neg h4] at hk
          exact absurd rfl hk
set_option maxRecDepth 100000 in
theorem next_text (s : List UInt8) (n : Nat) (l : List Tok) (hn : n < s.length) (hs : s.length ≤ 1000000) (hl : l.length ≤ 1000000) (hk : kindL (s.drop n) = 0) :
  CallsAbs Tryz.prog 65 [.ref 0 0 0] (rdS s n l) (NextK s l (s.drop n)) := by
 have hd1 := left_any s n l (by omega) (rdS s n l) rfl rfl
 have hd2 := plain_any s n l hn (rdS s n l) rfl rfl
 have hd3 := text_ok s n l (by omega) hs hl
 have hle := runN_le plainB (s.drop n)
 have hlen : ((s.drop n).drop (runN plainB (s.drop n))).length = s.length - n - runN plainB (s.drop n) := by simp [Nat.sub_sub]
 rw [List.length_drop] at hle
 have hst : step (s.drop n) = some ([textT (resolve ((s.drop n).take (runN plainB (s.drop n))))], (s.drop n).drop (runN plainB (s.drop n))) := by unfold step; rw [hk]; rfl
 have hp : plainB (s.drop n) = true := by unfold plainB; rw [hk]; rfl
 rw [hp] at hd2
 unfold NextK
 rw [hst]
 refine fn_okT Tryz.wf Tryz.tab_ok Tryz.func65 (by decide +kernel) rfl rfl ?_
 repeat' (first | refine CallsAbs.use1 hd1 ?_ | refine CallsAbs.use1 hd2 ?_ | refine CallsAbs.use1 hd3 ?_ | refine wO ?_ | (refine ⟨fun h => ?_, fun h => ?_⟩ <;> (try simp only [wS, List.length_cons, List.length_nil] at h) <;> (try exact wX h)) | refine wP ?_ | fail)
 exact ⟨_, _, FinMove.refl _ _ _, rfl, .inr ⟨by simp, by rw [hlen, show s.length - (s.length - n - runN plainB (s.drop n)) = n + runN plainB (s.drop n) by omega]⟩⟩
set_option maxRecDepth 100000 in
theorem next_over (s : List UInt8) (n : Nat) (l : List Tok) (hn : n < s.length) (hs : s.length ≤ 1000000) (hl : l.length ≤ 1000000) (hk : kindL (s.drop n) = 2 ∨ kindL (s.drop n) = 3) :
  CallsAbs Tryz.prog 65 [.ref 0 0 0] (rdS s n l) (NextK s l (s.drop n)) := by
 have hd1 := left_any s n l (by omega) (rdS s n l) rfl rfl
 have hd2 := plain_any s n l hn (rdS s n l) rfl rfl
 have hd3 := over_ok s n l [62] (by simp) (by simp) (by omega) hs
 have hp : plainB (s.drop n) = false := by unfold plainB; rw [decide_eq_false_iff_not]; omega
 rw [hp] at hd2
 have hc1 := HasPrefix_ok (s.drop n) [60, 33, 45, 45]
 have hc2 := HasPrefix_ok (s.drop n) [60, 47, 62]
 obtain ⟨c, r, hx, hcs⟩ := kind_cases (show kindL (s.drop n) ≠ 0 by omega)
 have hc3 := letter_ok c
 have hlx : (s.drop n).length = s.length - n := by simp
 rcases hcs with ⟨h1, _⟩ | ⟨h0, ⟨h1, h2⟩ | ⟨h1, _⟩ | ⟨rfl, d, r', rfl, ⟨h1, rfl⟩ | ⟨h1, _⟩ | ⟨h1, h2, h3⟩⟩⟩
 ·omega
 ·have hst : step (s.drop n) = some ([], (s.drop n).drop (toN [62] (s.drop n) + 1)) := by unfold step; rw [h1]; rfl
  unfold NextK
  rw [hst]
  rw [h0] at hc1
  have h3 : hasPre (s.drop n) [60, 47, 62] = false := by
   rw [hx]; rcases h2 with rfl | rfl <;> simp [hasPre]
  rw [h3] at hc2
  have h4 : ltrB c = false := by rcases h2 with rfl | rfl <;> rfl
  rw [h4] at hc3
  have h5 : ¬ (((60 :: c :: r).getD (1 : Int).toNat 0).toNat : Int) = 47 := by
   rcases h2 with rfl | rfl
   ·exact (by decide : ¬ ((33 : UInt8).toNat : Int) = 47)
   ·exact (by decide : ¬ ((63 : UInt8).toNat : Int) = 47)
  rw [hx] at hd1 hc1 hc2 hlx
  simp only [List.length_cons] at hlx
  refine fn_okT Tryz.wf Tryz.tab_ok Tryz.func65 (by decide +kernel) rfl rfl ?_
  repeat' (first | refine PureC.use hc1 ?_ | refine PureC.use hc2 ?_ | refine PureC.use hc3 ?_ | refine PureC.use hc4 ?_ | refine CallsAbs.use1 hd1 ?_ | refine CallsAbs.use1 hd2 ?_ | refine CallsAbs.use1 hd3 ?_ | refine wO ?_ | (refine ⟨fun h => ?_, fun h => ?_⟩ <;> (try simp only [wS, List.length_cons, List.length_nil] at h) <;> (try exact wX h)) | refine wP ?_ | fail)
  exact ⟨_, _, FinMove.refl _ _ _, rfl, .inl ⟨rfl, rfl⟩⟩
 ·omega
 ·have hst : step (s.drop n) = some ([], (s.drop n).drop 3) := by unfold step; rw [h1]; rfl
  unfold NextK
  rw [hst]
  rw [h0] at hc1
  have h3 : hasPre (s.drop n) [60, 47, 62] = true := by rw [hx]; simp [hasPre]
  rw [h3] at hc2
  have hl3 : ((s.drop n).drop 3).length = s.length - n - 3 := by simp; omega
  rw [hx] at hd1 hc1 hc2 hlx
  simp only [List.length_cons] at hlx
  refine fn_okT Tryz.wf Tryz.tab_ok Tryz.func65 (by decide +kernel) rfl rfl ?_
  repeat' (first | refine PureC.use hc1 ?_ | refine PureC.use hc2 ?_ | refine PureC.use hc3 ?_ | refine PureC.use hc4 ?_ | refine CallsAbs.use1 hd1 ?_ | refine CallsAbs.use1 hd2 ?_ | refine CallsAbs.use1 hd3 ?_ | refine wO ?_ | (refine ⟨fun h => ?_, fun h => ?_⟩ <;> (try simp only [wS, List.length_cons, List.length_nil] at h) <;> (try exact wX h)) | refine wP ?_ | fail)
  refine ⟨.d (.bool true), rdS s (s.length - ((s.drop n).drop 3).length) l, ?_, rfl, .inl ⟨rfl, rfl⟩⟩
  rw [hl3]
  exact fin_mv [] rfl rfl rfl (store_out s n _ l _ (by omega)) rfl
 ·omega
 ·have hst : step (s.drop n) = some ([], (s.drop n).drop (toN [62] (s.drop n) + 1)) := by unfold step; rw [h1]; rfl
  unfold NextK
  rw [hst]
  rw [h0] at hc1
  have h4 : hasPre (s.drop n) [60, 47, 62] = false := by
   rw [hx]; simp [hasPre]; exact h3
  rw [h4] at hc2
  have h5 : ltrB 47 = false := rfl
  rw [h5] at hc3
  have hc4 := letter_ok d
  rw [h2] at hc4
  rw [hx] at hd1 hc1 hc2 hlx
  simp only [List.length_cons] at hlx
  refine fn_okT Tryz.wf Tryz.tab_ok Tryz.func65 (by decide +kernel) rfl rfl ?_
  repeat' (first | refine PureC.use hc1 ?_ | refine PureC.use hc2 ?_ | refine PureC.use hc3 ?_ | refine PureC.use hc4 ?_ | refine CallsAbs.use1 hd1 ?_ | refine CallsAbs.use1 hd2 ?_ | refine CallsAbs.use1 hd3 ?_ | refine wO ?_ | (refine ⟨fun h => ?_, fun h => ?_⟩ <;> (try simp only [wS, List.length_cons, List.length_nil] at h) <;> (try exact wX h)) | refine wP ?_ | fail)
  exact ⟨_, _, FinMove.refl _ _ _, rfl, .inl ⟨rfl, rfl⟩⟩
set_option maxRecDepth 100000 in
theorem next_note (s : List UInt8) (n : Nat) (l : List Tok) (hn : n < s.length) (hs : s.length ≤ 1000000) (hl : l.length ≤ 1000000) (hk : kindL (s.drop n) = 1) :
  CallsAbs Tryz.prog 65 [.ref 0 0 0] (rdS s n l) (NextK s l (s.drop n)) := by
 have hd1 := left_any s n l (by omega) (rdS s n l) rfl rfl
 have hd2 := plain_any s n l hn (rdS s n l) rfl rfl
 have hp : plainB (s.drop n) = false := by unfold plainB; rw [decide_eq_false_iff_not]; omega
 rw [hp] at hd2
 have hc1 := HasPrefix_ok (s.drop n) [60, 33, 45, 45]
 have hlx : (s.drop n).length = s.length - n := by simp
 have h1 : hasPre (s.drop n) [60, 33, 45, 45] = true := by
  obtain ⟨c, r, hx, hcs⟩ := kind_cases (show kindL (s.drop n) ≠ 0 by omega)
  rcases hcs with ⟨_, h, _⟩ | ⟨_, ⟨h, _⟩ | ⟨h, _⟩ | ⟨_, _, _, _, ⟨h, _⟩ | ⟨h, _⟩ | ⟨h, _⟩⟩⟩
  ·exact h
  all_goals omega
 have h4 : n + 4 ≤ s.length := by have := hasPre_len h1; rw [hlx] at this; simp only [List.length_cons, List.length_nil] at this; omega
 rw [h1] at hc1
 have hst : step (s.drop n) = some ([noteT ((s.drop (n + 4)).take (toN [45, 45, 62] (s.drop (n + 4))))], (s.drop (n + 4)).drop (toN [45, 45, 62] (s.drop (n + 4)) + 3)) := by rw [← show (s.drop n).drop 4 = s.drop (n + 4) by rw [List.drop_drop]]; unfold step; rw [hk]; rfl
 have hd3 := over_ok s (n + 4) l [45, 45, 62] (by simp) (by simp) (by omega) hs
 have he1 := over_any s (n + 4) l [45, 45, 62] (by simp) (by simp) (by omega) hs
 unfold NextK
 rw [hst]
 generalize (s.drop (n + 4)).take (toN [45, 45, 62] (s.drop (n + 4))) = y at *
 have hm : s.length - ((s.drop (n + 4)).drop (toN [45, 45, 62] (s.drop (n + 4)) + 3)).length = s.length - ((s.drop (n + 4)).drop (toN [45, 45, 62] (s.drop (n + 4)) + ([45, 45, 62] : List UInt8).length)).length := rfl
 dsimp only
 rw [hm]
 clear hm
 generalize s.length - ((s.drop (n + 4)).drop (toN [45, 45, 62] (s.drop (n + 4)) + ([45, 45, 62] : List UInt8).length)).length = m at *
 have hb1 := tok_sub 4 [] y
 refine fn_okT Tryz.wf Tryz.tab_ok Tryz.func65 (by decide +kernel) rfl rfl ?_
 repeat' (first | refine PureC.use hc1 ?_ | refine CallsAbs.use1 hd1 ?_ | refine CallsAbs.use1 hd2 ?_ | refine CallsAbs.use1 hd3 ?_ | refine CallsAbs.use1 (he1 _ (by rfl) (by rfl)) ?_ | refine wO ?_ | (refine ⟨fun h => ?_, fun h => ?_⟩ <;> (try simp only [wS, List.length_cons, List.length_nil] at h) <;> (try exact wX h)) | refine wP ?_ | fail)
 refine E.view (s' := [(0, .ref 0 0 0)]) (σ' := rdS s (n + 4) l) (Mv.of [] rfl rfl rfl ⟨⟨rfl, .inl ⟨rfl, dataA_pure _⟩⟩, ⟨rfl, .inr ⟨⟨rfl, rfl, ⟨rfl, rfl, rfl⟩, trivial⟩, trivial⟩⟩, trivial⟩ ⟨⟨rfl, rfl, rfl⟩, trivial⟩) ?_
 refine drawnZ Tryz.wf Tryz.tab_ok [6, 9, 12] (fun t => match t with
  | 0 => rdS s (n + 4) l
  | 1 => rdS s m l
  | 2 => ⟨3, [(2, outO (l ++ [noteT y])), (0, rdO s m l.length)]⟩
  | _ => rdS2 s m (l ++ [noteT y])) rfl Tryz.mixed (by decide +kernel) ?_
 iterate 4 refine zblind (by decide +kernel) rfl rfl (fun _ => FinMove.refl _ _ _) ?_
 refine zreadL [0, 1] (by decide +kernel) rfl rfl ⟨⟨_, rfl, _, rfl, FinMove.refl _ _ _⟩, ⟨_, rfl, _, rfl, FinMove.refl _ _ _⟩, trivial⟩ ?_
 refine zblind (by decide +kernel) rfl rfl (fun _ => FinMove.refl _ _ _) ?_
 refine zeff (r := .d (.str y)) rfl rfl rfl (CallsAbs.use1 hd3 (FinMove.refl _ _ _)) ?_
 refine zblind (by decide +kernel) rfl rfl (fun _ => hb1 _) ?_
 refine zreadL (r := .d (.sl [tokD (noteT y)])) [1] (by decide +kernel) rfl rfl ⟨fin_lit rfl rfl rfl ⟨⟨rfl, .inl ⟨rfl, dataA_pure _⟩⟩, ⟨rfl, .inr ⟨⟨rfl, rfl, ⟨rfl, rfl, rfl⟩, trivial⟩, trivial⟩⟩, trivial⟩, trivial⟩ ?_
 refine zeff (r := .own 2 0 (l ++ [noteT y]).length) rfl rfl rfl ?_ ?_
 ·refine out_app l (noteT y) (rdS s m l) (fun v σ' => FinMove (rdS s m l) v σ' (.own 2 0 (l ++ [noteT y]).length) ⟨3, [(2, outO (l ++ [noteT y])), (0, rdO s m l.length)]⟩) rfl hl ?_
  exact fin_mv [.old 2] rfl rfl rfl ⟨⟨rfl, .inl ⟨rfl, dataA_pure _⟩⟩, ⟨rfl, .inr ⟨⟨rfl, rfl, ⟨rfl, rfl, rfl⟩, trivial⟩, trivial⟩⟩, trivial⟩ ⟨rfl, rfl, rfl⟩
 iterate 2 refine zblind (by decide +kernel) rfl rfl (fun _ => FinMove.refl _ _ _) ?_
 refine zeff rfl rfl rfl ⟨_, rfl, rfl, Nat.le_of_ble_eq_true rfl, fin_mv (r' := .top) [] rfl rfl rfl ⟨⟨rfl, .inl ⟨rfl, dataA_pure _⟩⟩, ⟨rfl, .inr ⟨⟨rfl, rfl, ⟨rfl, rfl, rfl⟩, trivial⟩, trivial⟩⟩, trivial⟩ trivial⟩ ?_
 repeat' (first | refine PureC.use hc1 ?_ | refine CallsAbs.use1 hd1 ?_ | refine CallsAbs.use1 hd2 ?_ | refine CallsAbs.use1 hd3 ?_ | refine CallsAbs.use1 (he1 _ (by rfl) (by rfl)) ?_ | refine wO ?_ | (refine ⟨fun h => ?_, fun h => ?_⟩ <;> (try simp only [wS, List.length_cons, List.length_nil] at h) <;> (try exact wX h)) | refine wP ?_ | fail)
 exact ⟨_, _, FinMove.refl _ _ _, rfl, .inr ⟨by simp, rfl⟩⟩
theorem rd_anyE {f : FuncId} {args : List AV} {r0 : AV} (hc : Callable Tryz.prog f) {s : List UInt8} {n : Nat} {l : List Tok} (hp : pureL args = true) (hr : r0.pure = true)
  (h : CallsAbs Tryz.prog f (.ref 0 0 0 :: args) (rdS s n l) fun r σ' => ∃ m, m ≤ s.length ∧ r = r0 ∧ σ' = rdS s m l) (σ : Store) (h0 : σ.get 0 = rdO s n l.length) (h1 : σ.get 1 = outO l) :
  CallsAbs Tryz.prog f (.ref 0 0 0 :: args) σ fun r σ' => ∃ m, m ≤ s.length ∧ r = r0 ∧ σ' = ⟨σ.n, (0, rdO s m l.length) :: (1, outO l) :: σ.objs⟩ := by
 rcases Nat.lt_or_ge 1 σ.n with hn | hn
 ·obtain ⟨k, objs⟩ := σ
  obtain ⟨k, rfl⟩ : ∃ j, k = j + 2 := ⟨k - 2, by dsimp only at hn; omega⟩
  refine CallsAbs.frame h [.old 0, .old 1] ⟨Nat.zero_le _, rfl, by simp [goodr, idx], ⟨?_, ?_, trivial⟩⟩ ⟨⟨rfl, rfl, rfl⟩, vrelL_self args hp⟩ ?_
  ·show orel _ (outO l) (Store.get ⟨k + 2, objs⟩ 1)
   rw [h1]
   exact ⟨rfl, .inl ⟨rfl, dataA_pure _⟩⟩
  ·show orel _ (rdO s n l.length) (Store.get ⟨k + 2, objs⟩ 0)
   rw [h0]
   exact ⟨rfl, .inr ⟨⟨rfl, rfl, ⟨rfl, rfl, rfl⟩, trivial⟩, trivial⟩⟩
  ·rintro _ _ ⟨m, hm, rfl, rfl⟩
   exact ⟨_, [(0, rdO s m l.length), (1, outO l)], ⟨⟨rfl, .inr ⟨⟨rfl, rfl, ⟨rfl, rfl, rfl⟩, trivial⟩, trivial⟩⟩, ⟨rfl, .inl ⟨rfl, dataA_pure _⟩⟩, trivial⟩, rfl, vrel_self _ hr, m, hm, rfl, rfl⟩
 ·exact .inl ⟨hc, fun g w vs R hL => by
   have := R.dead 1 (by rw [← R.n]; exact hn)
   rw [h1] at this; cases this⟩
theorem tag_some (s : List UInt8) (n : Nat) (l : List Tok) (hn : n ≤ s.length) (hs : s.length ≤ 1000000) {nm : List UInt8} {cl : Bool} {ats : List Attr} {rest : List UInt8} (ht : tagAt (s.drop n) = some (nm, cl, ats, rest)) (σ : Store) (h0 : σ.get 0 = rdO s n l.length) (h1 : σ.get 1 = outO l) :
  CallsAbs Tryz.prog 110 [.ref 0 0 0] σ fun r σ' => r = .tup [.agg ((tokD (startT nm cl ats)).map .d), .d (.bool true)] ∧ σ' = ⟨σ.n, (0, rdO s (s.length - rest.length) l.length) :: (1, outO l) :: σ.objs⟩ :=
 rd_any ⟨_, Tryz.func110, by decide +kernel, rfl⟩ rfl rfl (by have := tag_ok s n l hn hs; rw [ht] at this; exact this) σ h0 h1
theorem tag_none (s : List UInt8) (n : Nat) (l : List Tok) (hn : n ≤ s.length) (hs : s.length ≤ 1000000) (ht : tagAt (s.drop n) = none) (σ : Store) (h0 : σ.get 0 = rdO s n l.length) (h1 : σ.get 1 = outO l) :
  CallsAbs Tryz.prog 110 [.ref 0 0 0] σ fun r σ' => ∃ m, m ≤ s.length ∧ r = .tup [.agg ((tokD ⟨0, [], [], false, []⟩).map .d), .d (.bool false)] ∧ σ' = ⟨σ.n, (0, rdO s m l.length) :: (1, outO l) :: σ.objs⟩ :=
 rd_anyE ⟨_, Tryz.func110, by decide +kernel, rfl⟩ rfl rfl (by have := tag_ok s n l hn hs; rw [ht] at this; exact this) σ h0 h1
theorem tag_tests {x : List UInt8} (hk : kindL x = 4 ∨ kindL x = 5) : ∃ c r, x = 60 :: c :: r ∧ hasPre x [60, 33, 45, 45] = false ∧ hasPre x [60, 47, 62] = false ∧
  ((kindL x = 4 ∧ ltrB c = true) ∨ (kindL x = 5 ∧ ltrB c = false ∧ c = 47 ∧ ∃ d r', r = d :: r' ∧ ltrB d = true)) := by
 obtain ⟨c, r, hx, hcs⟩ := kind_cases (show kindL x ≠ 0 by omega)
 refine ⟨c, r, hx, ?_⟩
 rcases hcs with ⟨h, _⟩ | ⟨h0, ⟨h, _⟩ | ⟨h, h2, h3⟩ | ⟨rfl, d, r', rfl, ⟨h, _⟩ | ⟨h, h2, h3⟩ | ⟨h, _⟩⟩⟩
 ·omega
 ·omega
 ·refine ⟨h0, ?_, .inl ⟨h, h2⟩⟩
  rw [hx]; simp [hasPre, h3]
 ·omega
 ·refine ⟨h0, ?_, .inr ⟨h, rfl, rfl, d, r', rfl, h2⟩⟩
  rw [hx]; simp [hasPre, h3]
 ·omega
set_option maxRecDepth 100000 in
theorem next_stop (s : List UInt8) (n : Nat) (l : List Tok) (hn : n < s.length) (hs : s.length ≤ 1000000) (hl : l.length ≤ 1000000) (hk : kindL (s.drop n) = 4 ∨ kindL (s.drop n) = 5) (hst : step (s.drop n) = none) :
  CallsAbs Tryz.prog 65 [.ref 0 0 0] (rdS s n l) (NextK s l (s.drop n)) := by
 have hd1 := left_any s n l (by omega) (rdS s n l) rfl rfl
 have hd2 := plain_any s n l hn (rdS s n l) rfl rfl
 have hp : plainB (s.drop n) = false := by unfold plainB; rw [decide_eq_false_iff_not]; omega
 rw [hp] at hd2
 have hc1 := HasPrefix_ok (s.drop n) [60, 33, 45, 45]
 have hc2 := HasPrefix_ok (s.drop n) [60, 47, 62]
 have hlx : (s.drop n).length = s.length - n := by simp
 obtain ⟨c, r, hx, h1, h2, h3⟩ := tag_tests hk
 unfold NextK
 rw [hst]
 rw [h1] at hc1
 rw [h2] at hc2
 have hc3 := letter_ok c
 unfold step at hst
 have hlx2 := hlx
 rw [hx] at hd1 hc1 hc2 hlx
 simp only [List.length_cons] at hlx
 rcases h3 with ⟨h3, h4⟩ | ⟨h3, h4, rfl, d, r', rfl, h5⟩
 ·rw [h4] at hc3
  have ht : tagAt (s.drop (n + 1)) = none := by
   rw [← List.drop_drop]
   cases ht : tagAt ((s.drop n).drop 1) with
   | none => rfl
   | some t =>
    simp only [h3, ht] at hst
    by_cases hb : rawB t.1 = true
    ·rw [if_pos hb] at hst; cases hst
    ·rw [if_neg hb] at hst; cases hst
  have ht2 := tag_none s (n + 1) l (by omega) hs ht
  refine fn_okT Tryz.wf Tryz.tab_ok Tryz.func65 (by decide +kernel) rfl rfl ?_
  repeat' (first | refine PureC.use hc1 ?_ | refine PureC.use hc2 ?_ | refine PureC.use hc3 ?_ | refine PureC.use hc4 ?_ | refine CallsAbs.use1 hd1 ?_ | refine CallsAbs.use1 hd2 ?_ | refine wO ?_ | (refine ⟨fun h => ?_, fun h => ?_⟩ <;> (try simp only [wS, List.length_cons, List.length_nil] at h) <;> (try exact wX h)) | refine wP ?_ | fail)
  refine (ht2 _ rfl rfl).mono ?_
  rintro _ _ ⟨m, hm, rfl, rfl⟩
  repeat' (first | refine PureC.use hc1 ?_ | refine PureC.use hc2 ?_ | refine PureC.use hc3 ?_ | refine PureC.use hc4 ?_ | refine CallsAbs.use1 hd1 ?_ | refine CallsAbs.use1 hd2 ?_ | refine wO ?_ | (refine ⟨fun h => ?_, fun h => ?_⟩ <;> (try simp only [wS, List.length_cons, List.length_nil] at h) <;> (try exact wX h)) | refine wP ?_ | fail)
  exact ⟨.d (.bool false), rdS s m l, fin_mv [] rfl rfl rfl ⟨⟨rfl, .inl ⟨rfl, dataA_pure _⟩⟩, ⟨rfl, .inr ⟨⟨rfl, rfl, ⟨rfl, rfl, rfl⟩, trivial⟩, trivial⟩⟩, trivial⟩ rfl, m, hm, rfl, rfl⟩
 ·rw [h4] at hc3
  have hc4 := letter_ok d
  rw [h5] at hc4
  have ht : tagAt (s.drop (n + 2)) = none := by
   rw [← List.drop_drop]
   cases ht : tagAt ((s.drop n).drop 2) with
   | none => rfl
   | some t =>
    simp only [h3, ht] at hst
    cases hst
  have ht2 := tag_none s (n + 2) l (by simp only [List.length_cons] at hlx; omega) hs ht
  simp only [List.length_cons] at hlx
  refine fn_okT Tryz.wf Tryz.tab_ok Tryz.func65 (by decide +kernel) rfl rfl ?_
  repeat' (first | refine PureC.use hc1 ?_ | refine PureC.use hc2 ?_ | refine PureC.use hc3 ?_ | refine PureC.use hc4 ?_ | refine CallsAbs.use1 hd1 ?_ | refine CallsAbs.use1 hd2 ?_ | refine wO ?_ | (refine ⟨fun h => ?_, fun h => ?_⟩ <;> (try simp only [wS, List.length_cons, List.length_nil] at h) <;> (try exact wX h)) | refine wP ?_ | fail)
  refine (ht2 _ rfl rfl).mono ?_
  rintro _ _ ⟨m, hm, rfl, rfl⟩
  repeat' (first | refine PureC.use hc1 ?_ | refine PureC.use hc2 ?_ | refine PureC.use hc3 ?_ | refine PureC.use hc4 ?_ | refine CallsAbs.use1 hd1 ?_ | refine CallsAbs.use1 hd2 ?_ | refine wO ?_ | (refine ⟨fun h => ?_, fun h => ?_⟩ <;> (try simp only [wS, List.length_cons, List.length_nil] at h) <;> (try exact wX h)) | refine wP ?_ | fail)
  exact ⟨.d (.bool false), rdS s m l, fin_mv [] rfl rfl rfl ⟨⟨rfl, .inl ⟨rfl, dataA_pure _⟩⟩, ⟨rfl, .inr ⟨⟨rfl, rfl, ⟨rfl, rfl, rfl⟩, trivial⟩, trivial⟩⟩, trivial⟩ rfl, m, hm, rfl, rfl⟩
def rdOj (j : Nat) (s : List UInt8) (n : Nat) (m : Nat) : Ob := .rows (3, 88) [[.d (.str s), .d (.int .i64 n), .own j 0 m]]
def tkO (t : Tok) : Ob := .rows (5, 45) [(tokD t).map .d]
theorem tk_pure (t : Tok) : ∀ row ∈ [(tokD t).map AV.d], pureL row = true := fun row h => by rw [List.mem_singleton.1 h]; rfl
set_option maxRecDepth 100000 in
theorem next_end (s : List UInt8) (n : Nat) (l : List Tok) (hn : n < s.length) (hs : s.length ≤ 1000000) (hl : l.length ≤ 1000000) (hk : kindL (s.drop n) = 5) {nm : List UInt8} {cl : Bool} {ats : List Attr} {rest : List UInt8} (ht : tagAt (s.drop (n + 2)) = some (nm, cl, ats, rest)) :
  CallsAbs Tryz.prog 65 [.ref 0 0 0] (rdS s n l) (NextK s l (s.drop n)) := by
 have hd1 := left_any s n l (by omega) (rdS s n l) rfl rfl
 have hd2 := plain_any s n l hn (rdS s n l) rfl rfl
 have hp : plainB (s.drop n) = false := by unfold plainB; rw [decide_eq_false_iff_not]; omega
 rw [hp] at hd2
 have hc1 := HasPrefix_ok (s.drop n) [60, 33, 45, 45]
 have hc2 := HasPrefix_ok (s.drop n) [60, 47, 62]
 have hlx : (s.drop n).length = s.length - n := by simp
 obtain ⟨c, r, hx, h1, h2, h3⟩ := tag_tests (.inr hk)
 rcases h3 with ⟨h3, _⟩ | ⟨h3, h4, rfl, d, r', rfl, h5⟩
 ·omega
 have hst : step (s.drop n) = some ([endT nm], rest) := by
  have ht' : tagAt ((s.drop n).drop 2) = some (nm, cl, ats, rest) := by rw [List.drop_drop]; exact ht
  unfold step
  simp only [h3, ht']
 unfold NextK
 rw [hst]
 rw [h1] at hc1
 rw [h2] at hc2
 have hc3 := letter_ok 47
 have hc4 := letter_ok d
 rw [h4] at hc3
 rw [h5] at hc4
 rw [hx] at hd1 hc1 hc2 hlx
 simp only [List.length_cons] at hlx
 have he1 := tag_some s (n + 2) l (by omega) hs ht
 dsimp only
 generalize s.length - rest.length = m at *
 have hb1 := tok_sub 3 nm []
 refine fn_okT Tryz.wf Tryz.tab_ok Tryz.func65 (by decide +kernel) rfl rfl ?_
 repeat' (first | refine PureC.use hc1 ?_ | refine PureC.use hc2 ?_ | refine PureC.use hc3 ?_ | refine PureC.use hc4 ?_ | refine CallsAbs.use1 hd1 ?_ | refine CallsAbs.use1 hd2 ?_ | refine CallsAbs.use1 (he1 _ (by rfl) (by rfl)) ?_ | refine wO ?_ | (refine ⟨fun h => ?_, fun h => ?_⟩ <;> (try simp only [wS, List.length_cons, List.length_nil] at h) <;> (try exact wX h)) | refine wP ?_ | fail)
 refine E.view (s' := [(0, .ref 0 0 0), (8, .ref 2 0 0)]) (σ' := ⟨3, [(2, tkO (startT nm cl ats)), (1, outO l), (0, rdO s m l.length)]⟩) (Mv.of [.old 2] rfl rfl rfl ⟨⟨rfl, .inl ⟨rfl, tk_pure _⟩⟩, ⟨rfl, .inl ⟨rfl, dataA_pure _⟩⟩, ⟨rfl, .inr ⟨⟨rfl, rfl, ⟨rfl, rfl, rfl⟩, trivial⟩, trivial⟩⟩, trivial⟩ ⟨⟨rfl, rfl, rfl⟩, ⟨rfl, rfl, rfl⟩, trivial⟩) ?_
 refine drawnZ Tryz.wf Tryz.tab_ok [9, 12] (fun t => match t with
  | 0 => ⟨3, [(2, tkO (startT nm cl ats)), (1, outO l), (0, rdO s m l.length)]⟩
  | 1 => ⟨4, [(3, outO (l ++ [endT nm])), (2, tkO (startT nm cl ats)), (0, rdO s m l.length)]⟩
  | _ => ⟨4, [(3, outO (l ++ [endT nm])), (2, tkO (startT nm cl ats)), (0, rdOj 3 s m (l ++ [endT nm]).length)]⟩) rfl Tryz.mixed (by decide +kernel) ?_
 iterate 7 (first | refine zblind (by decide +kernel) rfl rfl (fun _ => FinMove.refl _ _ _) ?_ | refine zreadL [0] (by decide +kernel) rfl rfl ⟨⟨_, rfl, _, rfl, FinMove.refl _ _ _⟩, trivial⟩ ?_)
 refine zblind (by decide +kernel) rfl rfl (fun _ => hb1 _) ?_
 refine zreadL (r := .d (.sl [tokD (endT nm)])) [0] (by decide +kernel) rfl rfl ⟨fin_lit rfl rfl rfl ⟨⟨rfl, .inl ⟨rfl, tk_pure _⟩⟩, ⟨rfl, .inl ⟨rfl, dataA_pure _⟩⟩, ⟨rfl, .inr ⟨⟨rfl, rfl, ⟨rfl, rfl, rfl⟩, trivial⟩, trivial⟩⟩, trivial⟩, trivial⟩ ?_
 refine zeff (r := .own 3 0 (l ++ [endT nm]).length) rfl rfl rfl ?_ ?_
 ·refine out_app l (endT nm) ⟨3, [(2, tkO (startT nm cl ats)), (1, outO l), (0, rdO s m l.length)]⟩ (fun v σ' => FinMove ⟨3, [(2, tkO (startT nm cl ats)), (1, outO l), (0, rdO s m l.length)]⟩ v σ' (.own 3 0 (l ++ [endT nm]).length) ⟨4, [(3, outO (l ++ [endT nm])), (2, tkO (startT nm cl ats)), (0, rdO s m l.length)]⟩) rfl hl ?_
  exact fin_mv [.old 3] rfl rfl rfl ⟨⟨rfl, .inl ⟨rfl, dataA_pure _⟩⟩, ⟨rfl, .inl ⟨rfl, tk_pure _⟩⟩, ⟨rfl, .inr ⟨⟨rfl, rfl, ⟨rfl, rfl, rfl⟩, trivial⟩, trivial⟩⟩, trivial⟩ ⟨rfl, rfl, rfl⟩
 iterate 2 refine zblind (by decide +kernel) rfl rfl (fun _ => FinMove.refl _ _ _) ?_
 refine zeff rfl rfl rfl ⟨_, rfl, rfl, Nat.le_of_ble_eq_true rfl, fin_mv (r' := .top) [] rfl rfl rfl ⟨⟨rfl, .inl ⟨rfl, dataA_pure _⟩⟩, ⟨rfl, .inl ⟨rfl, tk_pure _⟩⟩, ⟨rfl, .inr ⟨⟨rfl, rfl, ⟨rfl, rfl, rfl⟩, trivial⟩, trivial⟩⟩, trivial⟩ trivial⟩ ?_
 repeat' (first | refine PureC.use hc1 ?_ | refine PureC.use hc2 ?_ | refine PureC.use hc3 ?_ | refine PureC.use hc4 ?_ | refine CallsAbs.use1 hd1 ?_ | refine CallsAbs.use1 hd2 ?_ | refine CallsAbs.use1 (he1 _ (by rfl) (by rfl)) ?_ | refine wO ?_ | (refine ⟨fun h => ?_, fun h => ?_⟩ <;> (try simp only [wS, List.length_cons, List.length_nil] at h) <;> (try exact wX h)) | refine wP ?_ | fail)
 exact ⟨.d (.bool true), rdS2 s m (l ++ [endT nm]), fin_mv [.old 3] rfl rfl rfl ⟨⟨rfl, .inl ⟨rfl, dataA_pure _⟩⟩, ⟨rfl, .inr ⟨⟨rfl, rfl, ⟨rfl, rfl, rfl⟩, trivial⟩, trivial⟩⟩, trivial⟩ rfl, rfl, .inr ⟨by simp, rfl⟩⟩
set_option maxRecDepth 100000 in
theorem next_start (s : List UInt8) (n : Nat) (l : List Tok) (hn : n < s.length) (hs : s.length ≤ 1000000) (hl : l.length < 1000000) (hk : kindL (s.drop n) = 4) {nm : List UInt8} {cl : Bool} {ats : List Attr} {rest : List UInt8} (ht : tagAt (s.drop (n + 1)) = some (nm, cl, ats, rest)) (hrest : s.drop (s.length - rest.length) = rest) (hrl : rest.length ≤ s.length) (hnm : nm.length ≤ 1000000) :
  CallsAbs Tryz.prog 65 [.ref 0 0 0] (rdS s n l) (NextK s l (s.drop n)) := by
 have hd1 := left_any s n l (by omega) (rdS s n l) rfl rfl
 have hd2 := plain_any s n l hn (rdS s n l) rfl rfl
 have hp : plainB (s.drop n) = false := by unfold plainB; rw [decide_eq_false_iff_not]; omega
 rw [hp] at hd2
 have hc1 := HasPrefix_ok (s.drop n) [60, 33, 45, 45]
 have hc2 := HasPrefix_ok (s.drop n) [60, 47, 62]
 have hlx : (s.drop n).length = s.length - n := by simp
 obtain ⟨c, r, hx, h1, h2, h3⟩ := tag_tests (.inl hk)
 obtain ⟨h3, h4⟩ := h3.resolve_right (fun h => by have := h.1; omega)
 have hst : step (s.drop n) = if rawB nm then some (startT nm cl ats :: (if rawText nm rest = [] then [] else [textT (rawText nm rest)]), rest.drop (rawN nm rest)) else some ([startT nm cl ats], rest) := by
  have ht' : tagAt ((s.drop n).drop 1) = some (nm, cl, ats, rest) := by rw [List.drop_drop]; exact ht
  unfold step
  simp only [h3, ht']
 unfold NextK
 rw [hst]
 rw [h1] at hc1
 rw [h2] at hc2
 have hc3 := letter_ok c
 rw [h4] at hc3
 rw [hx] at hd1 hc1 hc2 hlx
 simp only [List.length_cons] at hlx
 have he1 := tag_some s (n + 1) l (by omega) hs ht
 have hraw := raw_ok s (s.length - rest.length) (l ++ [startT nm cl ats]) nm (softB nm) (by omega) hs
 rw [hrest] at hraw
 have hrn : rawN nm rest ≤ rest.length := runN_le _ _
 have hc4 := tRaw_ok nm
 rw [show rawV nm = .tup [.d (.bool (rawB nm)), .d (.bool (softB nm))] from rfl] at hc4
 have hpos : s.length - (rest.drop (rawN nm rest)).length = s.length - rest.length + rawN nm rest := by rw [List.length_drop]; omega
 have hRX : rawX (softB nm) nm rest = rawText nm rest := rfl
 rw [hRX] at hraw
 suffices hS : CallsAbs Tryz.prog 65 [.ref 0 0 0] (rdS s n l) fun r σ' => r = .d (.bool true) ∧ ((rawB nm = false ∧ σ' = rdS2 s (s.length - rest.length) (l ++ [startT nm cl ats])) ∨
   (rawB nm = true ∧ rawText nm rest = [] ∧ σ' = rdS2 s (s.length - rest.length + rawN nm rest) (l ++ [startT nm cl ats])) ∨
   (rawB nm = true ∧ rawText nm rest ≠ [] ∧ σ' = rdS2 s (s.length - rest.length + rawN nm rest) (l ++ [startT nm cl ats] ++ [textT (rawText nm rest)]))) by
  refine hS.mono fun r σ' ⟨e1, h⟩ => ?_
  rcases h with ⟨q1, q2⟩ | ⟨q1, q2, q3⟩ | ⟨q1, q2, q3⟩
  ·rw [q1]; exact ⟨e1, .inr ⟨by simp, q2⟩⟩
  ·rw [q1, if_pos rfl, if_pos q2]; exact ⟨e1, .inr ⟨by simp, by rw [hpos]; exact q3⟩⟩
  ·rw [q1, if_pos rfl, if_neg q2]; exact ⟨e1, .inr ⟨by simp, by rw [hpos, q3, List.append_assoc]; rfl⟩⟩
 generalize hm : s.length - rest.length = m at *
 clear hpos hst
 refine fn_okT Tryz.wf Tryz.tab_ok Tryz.func65 (by decide +kernel) rfl rfl ?_
 repeat' (first | refine PureC.use hc1 ?_ | refine PureC.use hc2 ?_ | refine PureC.use hc3 ?_ | refine PureC.use hc4 ?_ | refine CallsAbs.use1 hd1 ?_ | refine CallsAbs.use1 hd2 ?_ | refine CallsAbs.use1 (he1 _ (by rfl) (by rfl)) ?_ | refine wO ?_ | (refine ⟨fun h => ?_, fun h => ?_⟩ <;> (try simp only [wS, List.length_cons, List.length_nil] at h) <;> (try exact wX h)) | refine wP ?_ | fail)
 refine E.view (s' := [(0, .ref 0 0 0), (4, .ref 2 0 0)]) (σ' := ⟨3, [(2, tkO (startT nm cl ats)), (1, outO l), (0, rdO s m l.length)]⟩) (Mv.of [.old 2] rfl rfl rfl ⟨⟨rfl, .inl ⟨rfl, tk_pure _⟩⟩, ⟨rfl, .inl ⟨rfl, dataA_pure _⟩⟩, ⟨rfl, .inr ⟨⟨rfl, rfl, ⟨rfl, rfl, rfl⟩, trivial⟩, trivial⟩⟩, trivial⟩ ⟨⟨rfl, rfl, rfl⟩, ⟨rfl, rfl, rfl⟩, trivial⟩) ?_
 refine drawnZ Tryz.wf Tryz.tab_ok [7, 10] (fun t => match t with
  | 0 => ⟨3, [(2, tkO (startT nm cl ats)), (1, outO l), (0, rdO s m l.length)]⟩
  | 1 => ⟨4, [(3, outO (l ++ [startT nm cl ats])), (2, tkO (startT nm cl ats)), (0, rdO s m l.length)]⟩
  | _ => ⟨4, [(3, outO (l ++ [startT nm cl ats])), (2, tkO (startT nm cl ats)), (0, rdOj 3 s m (l ++ [startT nm cl ats]).length)]⟩) rfl Tryz.mixed (by decide +kernel) ?_
 iterate 5 (first | refine zblind (by decide +kernel) rfl rfl (fun _ => FinMove.refl _ _ _) ?_ | refine zreadL [0] (by decide +kernel) rfl rfl ⟨⟨_, rfl, _, rfl, FinMove.refl _ _ _⟩, trivial⟩ ?_)
 refine zreadL (r := .agg ((tokD (startT nm cl ats)).map .d)) [0, 1, 2] (by decide +kernel) rfl rfl ⟨⟨_, rfl, Nat.le_of_ble_eq_true rfl, FinMove.refl _ _ _⟩, ⟨_, rfl, Nat.le_of_ble_eq_true rfl, FinMove.refl _ _ _⟩, ⟨_, rfl, Nat.le_of_ble_eq_true rfl, FinMove.refl _ _ _⟩, trivial⟩ ?_
 refine zreadL (r := .d (.sl [tokD (startT nm cl ats)])) [0] (by decide +kernel) rfl rfl ⟨fin_lit rfl rfl rfl ⟨⟨rfl, .inl ⟨rfl, tk_pure _⟩⟩, ⟨rfl, .inl ⟨rfl, dataA_pure _⟩⟩, ⟨rfl, .inr ⟨⟨rfl, rfl, ⟨rfl, rfl, rfl⟩, trivial⟩, trivial⟩⟩, trivial⟩, trivial⟩ ?_
 refine zeff (r := .own 3 0 (l ++ [startT nm cl ats]).length) rfl rfl rfl ?_ ?_
 ·refine out_app l (startT nm cl ats) ⟨3, [(2, tkO (startT nm cl ats)), (1, outO l), (0, rdO s m l.length)]⟩ (fun v σ' => FinMove ⟨3, [(2, tkO (startT nm cl ats)), (1, outO l), (0, rdO s m l.length)]⟩ v σ' (.own 3 0 (l ++ [startT nm cl ats]).length) ⟨4, [(3, outO (l ++ [startT nm cl ats])), (2, tkO (startT nm cl ats)), (0, rdO s m l.length)]⟩) rfl (Nat.le_of_lt hl) ?_
  exact fin_mv [.old 3] rfl rfl rfl ⟨⟨rfl, .inl ⟨rfl, dataA_pure _⟩⟩, ⟨rfl, .inl ⟨rfl, tk_pure _⟩⟩, ⟨rfl, .inr ⟨⟨rfl, rfl, ⟨rfl, rfl, rfl⟩, trivial⟩, trivial⟩⟩, trivial⟩ ⟨rfl, rfl, rfl⟩
 iterate 2 refine zblind (by decide +kernel) rfl rfl (fun _ => FinMove.refl _ _ _) ?_
 refine zeff rfl rfl rfl ⟨_, rfl, rfl, Nat.le_of_ble_eq_true rfl, fin_mv (r' := .top) [] rfl rfl rfl ⟨⟨rfl, .inl ⟨rfl, dataA_pure _⟩⟩, ⟨rfl, .inl ⟨rfl, tk_pure _⟩⟩, ⟨rfl, .inr ⟨⟨rfl, rfl, ⟨rfl, rfl, rfl⟩, trivial⟩, trivial⟩⟩, trivial⟩ trivial⟩ ?_
 repeat' (first | refine PureC.use hc1 ?_ | refine PureC.use hc2 ?_ | refine PureC.use hc3 ?_ | refine PureC.use hc4 ?_ | refine CallsAbs.use1 hd1 ?_ | refine CallsAbs.use1 hd2 ?_ | refine CallsAbs.use1 (he1 _ (by rfl) (by rfl)) ?_ | refine wO ?_ | (refine ⟨fun h => ?_, fun h => ?_⟩ <;> (try simp only [wS, List.length_cons, List.length_nil] at h) <;> (try exact wX h)) | refine wP ?_ | fail)
 ·refine CallsAbs.frame (hraw (by simp; omega) hnm) [.old 0, .old 3] ⟨Nat.zero_le _, rfl, rfl, ⟨⟨rfl, .inl ⟨rfl, dataA_pure _⟩⟩, ⟨rfl, .inr ⟨⟨rfl, rfl, ⟨rfl, rfl, rfl⟩, trivial⟩, trivial⟩⟩, trivial⟩⟩ ⟨⟨rfl, rfl, rfl⟩, rfl, rfl, trivial⟩ ?_
  rintro _ _ ⟨rfl, ⟨q1, rfl⟩ | ⟨q1, rfl⟩⟩
  ·refine ⟨.tup [], [(0, rdOj 3 s (m + rawN nm rest) (l ++ [startT nm cl ats]).length), (3, outO (l ++ [startT nm cl ats]))], ⟨⟨rfl, .inr ⟨⟨rfl, rfl, ⟨rfl, rfl, rfl⟩, trivial⟩, trivial⟩⟩, ⟨rfl, .inl ⟨rfl, dataA_pure _⟩⟩, trivial⟩, rfl, trivial, ?_⟩
   repeat' (first | refine PureC.use hc1 ?_ | refine PureC.use hc2 ?_ | refine PureC.use hc3 ?_ | refine PureC.use hc4 ?_ | refine CallsAbs.use1 hd1 ?_ | refine CallsAbs.use1 hd2 ?_ | refine CallsAbs.use1 (he1 _ (by rfl) (by rfl)) ?_ | refine wO ?_ | (refine ⟨fun h => ?_, fun h => ?_⟩ <;> (try simp only [wS, List.length_cons, List.length_nil] at h) <;> (try exact wX h)) | refine wP ?_ | fail)
   exact ⟨.d (.bool true), rdS2 s (m + rawN nm rest) (l ++ [startT nm cl ats]), fin_mv [.old 3] rfl rfl rfl ⟨⟨rfl, .inl ⟨rfl, dataA_pure _⟩⟩, ⟨rfl, .inr ⟨⟨rfl, rfl, ⟨rfl, rfl, rfl⟩, trivial⟩, trivial⟩⟩, trivial⟩ rfl, rfl, .inr (.inl ⟨by assumption, q1, rfl⟩)⟩
  ·refine ⟨.tup [], [(0, rdOj 4 s (m + rawN nm rest) (l ++ [startT nm cl ats] ++ [textT (rawText nm rest)]).length), (3, .dead), (4, outO (l ++ [startT nm cl ats] ++ [textT (rawText nm rest)]))], ⟨⟨rfl, .inr ⟨⟨rfl, rfl, ⟨rfl, rfl, rfl⟩, trivial⟩, trivial⟩⟩, trivial, ⟨rfl, .inl ⟨rfl, dataA_pure _⟩⟩, trivial⟩, rfl, trivial, ?_⟩
   repeat' (first | refine PureC.use hc1 ?_ | refine PureC.use hc2 ?_ | refine PureC.use hc3 ?_ | refine PureC.use hc4 ?_ | refine CallsAbs.use1 hd1 ?_ | refine CallsAbs.use1 hd2 ?_ | refine CallsAbs.use1 (he1 _ (by rfl) (by rfl)) ?_ | refine wO ?_ | (refine ⟨fun h => ?_, fun h => ?_⟩ <;> (try simp only [wS, List.length_cons, List.length_nil] at h) <;> (try exact wX h)) | refine wP ?_ | fail)
   exact ⟨.d (.bool true), rdS2 s (m + rawN nm rest) (l ++ [startT nm cl ats] ++ [textT (rawText nm rest)]), fin_mv [.old 4] rfl rfl rfl ⟨⟨rfl, .inl ⟨rfl, dataA_pure _⟩⟩, ⟨rfl, .inr ⟨⟨rfl, rfl, ⟨rfl, rfl, rfl⟩, trivial⟩, trivial⟩⟩, trivial⟩ rfl, rfl, .inr (.inr ⟨by assumption, q1, rfl⟩)⟩
 ·exact ⟨.d (.bool true), rdS2 s m (l ++ [startT nm cl ats]), fin_mv [.old 3] rfl rfl rfl ⟨⟨rfl, .inl ⟨rfl, dataA_pure _⟩⟩, ⟨rfl, .inr ⟨⟨rfl, rfl, ⟨rfl, rfl, rfl⟩, trivial⟩, trivial⟩⟩, trivial⟩ rfl, rfl, .inl ⟨by assumption, rfl⟩⟩
theorem valueAt_suf {s v r : List UInt8} (h : valueAt s = some (v, r)) : r <:+ s := by
 unfold valueAt at h
 split at h
 ·cases h; exact List.suffix_refl _
 ·split at h
  ·split at h
   ·cases h
   ·cases h; exact (List.drop_suffix _ _).trans (List.suffix_cons _ _)
  ·cases h; exact List.drop_suffix _ _
theorem skipB_suf (s : List UInt8) : skipB s <:+ s := List.drop_suffix _ _
theorem attrAt_suf {c : UInt8} {r r' : List UInt8} {a : Attr} (h : attrAt c r = some (a, r')) : r' <:+ r := by
 have h1 := (skipB_suf (r.drop (runN (hdB attrC) r))).trans (List.drop_suffix _ _)
 unfold attrAt at h
 split at h
 ·cases h; exact List.nil_suffix
 ·rename_i d r1 e
  rw [e] at h1
  split at h
  ·cases hv : valueAt (skipB r1) with
   | none => rw [hv] at h; cases h
   | some v =>
    rw [hv] at h
    cases h
    exact ((valueAt_suf (v := v.1) (r := v.2) hv).trans (skipB_suf r1)).trans ((List.suffix_cons _ _).trans h1)
  ·cases h; exact h1
theorem tagF_suf : ∀ (n : Nat) (s : List UInt8) (cl : Bool) (ats : List Attr) {x : Bool} {y : List Attr} {r : List UInt8}, tagF n s cl ats = some (x, y, r) → r <:+ s
 | 0, _, _, _, _, _, _, h => by cases h
 | n + 1, [], _, _, _, _, _, h => by cases h
 | n + 1, c :: r, cl, ats, x, y, r', h => by
  unfold tagF at h
  split at h
  ·exact (tagF_suf n _ _ _ h).trans (List.suffix_cons _ _)
  ·split at h
   ·exact (tagF_suf n _ _ _ h).trans (List.suffix_cons _ _)
   ·split at h
    ·cases h; exact List.suffix_cons _ _
    ·split at h
     ·cases h
     ·rename_i e
      exact ((tagF_suf n _ _ _ h).trans (attrAt_suf e)).trans (List.suffix_cons _ _)
theorem tagAt_suf {s nm r : List UInt8} {cl : Bool} {ats : List Attr} (h : tagAt s = some (nm, cl, ats, r)) : r <:+ s ∧ nm.length ≤ s.length := by
 unfold tagAt at h
 cases e : between (s.drop (runN (hdB nameC) s)) false [] with
 | none => rw [e] at h; cases h
 | some t =>
  rw [e] at h
  cases h
  refine ⟨(tagF_suf _ _ _ _ (x := t.1) (y := t.2.1) (r := t.2.2) e).trans (List.drop_suffix _ _), ?_⟩
  simp [lower]; omega
theorem suf_drop {r s : List UInt8} (h : r <:+ s) : s.drop (s.length - r.length) = r := (List.suffix_iff_eq_drop.1 h).symm
theorem suf_drop_n {r s : List UInt8} {n : Nat} (h : r <:+ s.drop n) : s.drop (s.length - r.length) = r ∧ r.length ≤ s.length - n := by
 refine ⟨suf_drop (h.trans (List.drop_suffix _ _)), ?_⟩
 have := h.length_le
 rwa [List.length_drop] at this
theorem step_suf {s r : List UInt8} {e : List Tok} (h : step s = some (e, r)) : r <:+ s := by
 unfold step at h
 split at h
 ·cases h; exact List.drop_suffix _ _
 ·cases h; exact (List.drop_suffix _ _).trans (List.drop_suffix _ _)
 ·cases h; exact List.drop_suffix _ _
 ·cases h; exact List.drop_suffix _ _
 ·split at h
  ·cases h
  ·rename_i e
   have h1 := (tagAt_suf e).1
   split at h
   ·cases h; exact ((List.drop_suffix _ _).trans h1).trans (List.drop_suffix _ _)
   ·cases h; exact h1.trans (List.drop_suffix _ _)
 ·split at h
  ·cases h
  ·rename_i e
   cases h
   exact (tagAt_suf e).1.trans (List.drop_suffix _ _)
theorem step_count {s r : List UInt8} {e : List Tok} (hs : s ≠ []) (h : step s = some (e, r)) : e.length + r.length ≤ s.length := by
 have hlt := step_lt hs h
 unfold step at h
 split at h
 ·cases h; simp at hlt ⊢; omega
 ·cases h; simp at hlt ⊢; omega
 ·cases h; simp at hlt ⊢
 ·cases h; simp at hlt ⊢
 ·split at h
  ·cases h
  ·rename_i e
   have h1 := tagAt_le e
   rw [List.length_drop] at h1
   split at h
   ·cases h
    split
    ·simp at hlt ⊢; omega
    ·simp at hlt ⊢; omega
   ·cases h; simp at hlt ⊢; omega
 ·split at h
  ·cases h
  ·cases h; simp at hlt ⊢; omega
theorem kind_le (s : List UInt8) : kindL s = 0 ∨ kindL s = 1 ∨ kindL s = 2 ∨ kindL s = 3 ∨ kindL s = 4 ∨ kindL s = 5 := by
 unfold kindL
 repeat' split
 all_goals simp
theorem next_ok (s : List UInt8) (n : Nat) (l : List Tok) (hn : n < s.length) (hs : s.length ≤ 1000000) (hl : l.length < 1000000) :
  CallsAbs Tryz.prog 65 [.ref 0 0 0] (rdS s n l) (NextK s l (s.drop n)) := by
 have hl' : l.length ≤ 1000000 := by omega
 rcases kind_le (s.drop n) with hk | hk | hk | hk | hk | hk
 ·exact next_text s n l hn hs hl' hk
 ·exact next_note s n l hn hs hl' hk
 ·exact next_over s n l hn hs hl' (.inl hk)
 ·exact next_over s n l hn hs hl' (.inr hk)
 ·cases ht : tagAt (s.drop (n + 1)) with
  | none =>
   refine next_stop s n l hn hs hl' (.inl hk) ?_
   have ht' : tagAt ((s.drop n).drop 1) = none := by rw [List.drop_drop]; exact ht
   unfold step
   simp only [hk, ht']
  | some t =>
   obtain ⟨nm, cl, ats, rest⟩ := t
   obtain ⟨h1, h2⟩ := tagAt_suf ht
   obtain ⟨h3, h4⟩ := suf_drop_n h1
   rw [List.length_drop] at h2
   exact next_start s n l hn hs hl hk ht h3 (by omega) (by omega)
 ·cases ht : tagAt (s.drop (n + 2)) with
  | none =>
   refine next_stop s n l hn hs hl' (.inr hk) ?_
   have ht' : tagAt ((s.drop n).drop 2) = none := by rw [List.drop_drop]; exact ht
   unfold step
   simp only [hk, ht']
  | some t =>
   obtain ⟨nm, cl, ats, rest⟩ := t
   exact next_end s n l hn hs hl' hk ht
theorem fin_ownD {σ : Store} {i len : Nat} {sz : Nat × Nat} {rs : List (List AV)} {ds : List (List D)} (ho : σ.get i = .rows sz rs) (hds : rowsD rs = some ds) (hl : len = ds.length) : FinMove ⟨0, []⟩ (.own i 0 len) σ (.d (.sl ds)) ⟨0, []⟩ := by
 have h1 := fin_freeze (σ0 := ⟨0, []⟩) (r := .own i 0 len) i ho hds (fun _ => by rw [Nat.zero_add, hl, (rowsD_get hds).1]; exact Nat.le_refl _)
 rw [frz_whole i ds len hl] at h1
 exact h1.trans (fin_mv [] (Nat.ble_eq_true_of_le (Nat.zero_le _)) rfl rfl trivial rfl)
set_option maxRecDepth 100000 in
theorem TokensO_ok (s : List UInt8) (hs : s.length < 1000000) : CallsAbs Tryz.prog 26 [.d (.str s)] ⟨0, []⟩ fun r σ' => r = .own 0 0 (toks s).length ∧ σ' = ⟨1, [(0, outO (toks s))]⟩ := by
 refine fn_okT Tryz.wf Tryz.tab_ok Tryz.func26 (by decide +kernel) rfl rfl ?_
 refine wR (k := ?_)
 have out : ∀ (n : Nat) (l : List Tok), l = toks s → ∃ r2 σ2, FinMove ⟨0, []⟩ (.own 1 0 l.length) (rdS s n l) r2 σ2 ∧ r2 = .own 0 0 (toks s).length ∧ σ2 = ⟨1, [(0, outO (toks s))]⟩ := fun n l e => by
  subst e
  exact ⟨.own 0 0 (toks s).length, ⟨1, [(0, outO (toks s))]⟩, fin_mv [.old 1] rfl rfl rfl ⟨⟨rfl, .inl ⟨rfl, dataA_pure _⟩⟩, trivial⟩ ⟨rfl, rfl, rfl⟩, rfl, rfl⟩
 refine loopT Tryz.wf Tryz.tab_ok (fun m s' σ => ∃ (n : Nat) (l : List Tok), m = s.length - n ∧ n ≤ s.length ∧ l.length ≤ n ∧ l ++ toks (s.drop n) = toks s ∧ s' = [(0, .d (.str s)), (3, .ref 0 0 0)] ∧ σ = rdS s n l)
  ⟨0, [], rfl, Nat.zero_le _, Nat.le_refl _, rfl, rfl, rfl⟩ (Mv.of [.old 0, .phan 5] rfl rfl rfl ⟨rfl, ⟨rfl, .inr ⟨⟨rfl, rfl, ⟨rfl, rfl, rfl⟩, trivial⟩, trivial⟩⟩, trivial⟩ ⟨rfl, ⟨rfl, rfl, rfl⟩, trivial⟩) ?_
 rintro _ _ _ ⟨n, l, rfl, hn, hln, hI, rfl, rfl⟩
 by_cases hlt : n < s.length
 ·have hne : s.drop n ≠ [] := fun e => by rw [List.drop_eq_nil_iff] at e; omega
  have hnx := next_ok s n l hlt (by omega) (by omega)
  refine wR (k := ?_)
  refine hnx.mono fun r σ' h => ?_
  unfold NextK at h
  cases hst : step (s.drop n) with
  | none =>
   rw [hst] at h
   obtain ⟨m, hm, rfl, rfl⟩ := h
   rw [toks_none hst, List.append_nil] at hI
   refine wR (k := ?_)
   exact out _ _ hI
  | some x =>
   obtain ⟨e, r'⟩ := x
   rw [hst] at h
   have hsf := suf_drop_n (step_suf hst)
   have hct := step_count hne hst
   have hslt := step_lt hne hst
   rw [List.length_drop] at hct hslt
   rw [toks_some hne hst, ← List.append_assoc, ← hsf.1] at hI
   rcases h with ⟨rfl, ⟨rfl, rfl⟩ | ⟨he, rfl⟩⟩
   ·refine wR (k := ?_)
    rw [List.append_nil] at hI
    exact ⟨_, _, _, ⟨s.length - r'.length, l, rfl, by omega, by simp at hct; omega, hI, rfl, rfl⟩, by omega, Mv.of [.old 0, .old 1] rfl rfl rfl ⟨⟨rfl, .inl ⟨rfl, dataA_pure _⟩⟩, ⟨rfl, .inr ⟨⟨rfl, rfl, ⟨rfl, rfl, rfl⟩, trivial⟩, trivial⟩⟩, trivial⟩ ⟨rfl, ⟨rfl, rfl, rfl⟩, trivial⟩⟩
   ·refine wR (k := ?_)
    exact ⟨_, _, _, ⟨s.length - r'.length, l ++ e, rfl, by omega, by rw [List.length_append]; omega, hI, rfl, rfl⟩, by omega, Mv.of [.old 0, .old 2] rfl rfl rfl ⟨⟨rfl, .inl ⟨rfl, dataA_pure _⟩⟩, ⟨rfl, .inr ⟨⟨rfl, rfl, ⟨rfl, rfl, rfl⟩, trivial⟩, trivial⟩⟩, trivial⟩ ⟨rfl, ⟨rfl, rfl, rfl⟩, trivial⟩⟩
 ·have : s.drop n = [] := List.drop_eq_nil_iff.2 (by omega)
  rw [this, toks_nil, List.append_nil] at hI
  refine wR (k := ?_)
  exact out _ _ hI
theorem _root_.Go.Aw.CallsAbs.fin {P : Program} {f : FuncId} {args : List AV} {σ : Store} {R : AV → Store → Prop} (hout : Callable P f) (h : CallsAbs P f args σ fun r σ1 => ∃ r' σ', FinMove σ r σ1 r' σ' ∧ R r' σ') : CallsAbs P f args σ R := by
 rcases h with h | ⟨fn, e, h1, h2, h3, h4⟩
 ·exact .inl h.fin
 ·obtain ⟨fn', q1, q2, q3⟩ := hout
  rw [h1] at q1
  cases q1
  rw [h3] at q3; cases q3
theorem Tokens_ok (s : List UInt8) (hs : s.length < 1000000) : PureC Tryz.prog 26 [.d (.str s)] (.d (.sl (toksD (toks s)))) := by
 refine PureC.of rfl rfl (CallsAbs.fin ⟨_, Tryz.func26, by decide +kernel, rfl⟩ ((TokensO_ok s hs).mono ?_))
 rintro _ _ ⟨rfl, rfl⟩
 exact ⟨.d (.sl (toksD (toks s))), ⟨0, []⟩, fin_ownD rfl (rowsD_d _) (toksD_len _).symm, rfl, rfl⟩
theorem esc1_clean (q : Bool) (c : UInt8) : ∀ d ∈ esc1 q c, d ≠ 60 ∧ d ≠ 62 ∧ (q = true → d ≠ 34) := by
 unfold esc1
 split
 ·intro d hd; revert d; cases q <;> decide
 ·split
  ·intro d hd; revert d; cases q <;> decide
  ·split
   ·intro d hd; revert d; cases q <;> decide
   ·split
    ·intro d hd; revert d; cases q <;> decide
    ·rename_i h1 h2 h3 h4
     intro d hd
     simp at hd
     subst hd
     exact ⟨h2, h3, fun hq e => h4 ⟨e, hq⟩⟩
theorem escape_clean (q : Bool) : ∀ (n : Nat) (s : List UInt8), s.length ≤ n → ∀ d ∈ escape q s, d ≠ 60 ∧ d ≠ 62 ∧ (q = true → d ≠ 34)
 | _, [], _ => by simp [escape]
 | 0, _ :: _, h => by simp at h
 | n + 1, c :: r, h => by
  simp at h
  by_cases hc : c = 194 ∧ ∃ t, r = 160 :: t
  ·obtain ⟨rfl, t, rfl⟩ := hc
   rw [escape_nb]
   intro d hd
   rcases List.mem_append.1 hd with hd2 | hd
   ·clear hd; revert d; cases q <;> decide
   ·exact escape_clean q n t (by simp at h; omega) d hd
  ·rw [escape_cons _ c r hc]
   intro d hd
   rcases List.mem_append.1 hd with hd | hd
   ·exact esc1_clean q c d hd
   ·exact escape_clean q n r h d hd
theorem resolve_ref (x t : List UInt8) (u : List UInt8) (h : (59 : UInt8) ∉ x) (hl : x.length ≤ 10) (hs : stands x = some u) : resolve (38 :: (x ++ 59 :: t)) = u ++ resolve t := by
 rw [resolve_amp, oneR_some x t h hl, hs]; rfl
theorem resolve_escape (q : Bool) : ∀ (n : Nat) (s : List UInt8), s.length ≤ n → resolve (escape q s) = s
 | _, [], _ => rfl
 | 0, _ :: _, h => by simp at h
 | n + 1, c :: r, h => by
  simp at h
  by_cases hc : c = 194 ∧ ∃ t, r = 160 :: t
  ·obtain ⟨rfl, t, rfl⟩ := hc
   have ih := resolve_escape q n t (by simp at h; omega)
   rw [escape_nb]
   have := resolve_ref [110, 98, 115, 112] (escape q t) [194, 160] (by decide) (by decide) (by decide +kernel)
   exact this.trans (by rw [ih]; rfl)
  ·rw [escape_cons _ c r hc]
   have ih := resolve_escape q n r h
   unfold esc1
   split
   ·rename_i h1; subst h1
    exact (resolve_ref [97, 109, 112] (escape q r) [38] (by decide) (by decide) (by decide +kernel)).trans (by rw [ih]; rfl)
   ·split
    ·rename_i h1; subst h1
     exact (resolve_ref [108, 116] (escape q r) [60] (by decide) (by decide) (by decide +kernel)).trans (by rw [ih]; rfl)
    ·split
     ·rename_i h1; subst h1
      exact (resolve_ref [103, 116] (escape q r) [62] (by decide) (by decide) (by decide +kernel)).trans (by rw [ih]; rfl)
     ·split
      ·rename_i h1; obtain ⟨rfl, _⟩ := h1
       exact (resolve_ref [113, 117, 111, 116] (escape q r) [34] (by decide) (by decide) (by decide +kernel)).trans (by rw [ih]; rfl)
      ·rename_i h38 _ _ _
       show resolve (c :: escape q r) = _
       rw [resolve_other c _ h38, ih]
theorem u8_all (P : UInt8 → Bool) (h : ((List.range 256).all fun n => P (UInt8.ofNat n)) = true) (c : UInt8) : P c = true := by
 have := List.all_eq_true.1 h c.toNat (List.mem_range.2 c.toNat_lt)
 rwa [UInt8.ofNat_toNat] at this
theorem kind_head {c : UInt8} {r : List UInt8} (h : c ≠ 60) : kindL (c :: r) = 0 := by
 unfold kindL
 split
 ·rename_i a d t e
  cases e
  exact if_neg h
 ·rfl
theorem run_text (x y : List UInt8) (h : (60 : UInt8) ∉ x) (hy : y = [] ∨ kindL y ≠ 0) : runN plainB (x ++ y) = x.length := by
 refine runN_eq _ _ _ (by simp) (fun j hj => ?_) (fun hl => ?_)
 ·rw [List.drop_append_of_le_length (Nat.le_of_lt hj), List.drop_eq_getElem_cons hj]
  unfold plainB
  rw [List.cons_append, kind_head (fun e => h (e ▸ List.getElem_mem hj))]; rfl
 ·rw [List.drop_left]
  rcases hy with rfl | hy
  ·simp at hl
  ·unfold plainB; exact decide_eq_false hy
theorem toks_text (x y : List UInt8) (hx : x ≠ []) (h : (60 : UInt8) ∉ x) (hy : y = [] ∨ kindL y ≠ 0) : toks (x ++ y) = textT (resolve x) :: toks y := by
 have hk : kindL (x ++ y) = 0 := by
  cases x with
  | nil => exact absurd rfl hx
  | cons c r => exact kind_head (fun e => h (by simp [e]))
 have hst : step (x ++ y) = some ([textT (resolve x)], y) := by
  unfold step
  simp only [hk]
  rw [run_text x y h hy, List.take_left, List.drop_left]
 rw [toks_some (by simp [hx]) hst]; rfl
theorem toks_plain (x : List UInt8) (h : (60 : UInt8) ∉ x) : toks x = if x = [] then [] else [textT (resolve x)] := by
 by_cases hx : x = []
 ·subst hx; rfl
 ·rw [if_neg hx]
  have := toks_text x [] hx h (.inl rfl)
  rwa [List.append_nil, toks_nil] at this
theorem esc_free (q : Bool) (s : List UInt8) : (60 : UInt8) ∉ escape q s := fun h => (escape_clean q s.length s (Nat.le_refl _) 60 h).1 rfl
theorem res_esc (q : Bool) (s : List UInt8) : resolve (escape q s) = s := resolve_escape q s.length s (Nat.le_refl _)
theorem esc_nil (q : Bool) (s : List UInt8) : escape q s = [] ↔ s = [] := by
 constructor
 ·intro h
  have := (escape_len s.length q s (Nat.le_refl _)).1
  rw [h] at this
  exact List.length_eq_zero_iff.1 (by simpa using this)
 ·rintro rfl; rfl
theorem toks_esc (s : List UInt8) : toks (escape false s) = if s = [] then [] else [textT s] := by
 rw [toks_plain _ (esc_free false s), res_esc]
 by_cases h : s = []
 ·rw [if_pos h, if_pos ((esc_nil false s).2 h)]
 ·rw [if_neg h, if_neg (fun e => h ((esc_nil false s).1 e))]
def simC (c : UInt8) : Bool := (decide (97 ≤ c.toNat) && decide (c.toNat ≤ 122)) || (decide (48 ≤ c.toNat) && decide (c.toNat ≤ 57))
theorem letter_sim (c : UInt8) (h : (decide (97 ≤ c.toNat) && decide (c.toNat ≤ 122)) = true) : simC c = true ∧ ltrB c = true := by
 unfold simC ltrB
 rw [h]; exact ⟨rfl, rfl⟩
theorem run_all (p : UInt8 → Bool) (x y : List UInt8) (h : ∀ c ∈ x, p c = true) (hy : y = [] ∨ hdB p y = false) : runN (hdB p) (x ++ y) = x.length := by
 refine runN_eq _ _ _ (by simp) (fun j hj => ?_) (fun hl => ?_)
 ·rw [List.drop_append_of_le_length (Nat.le_of_lt hj), List.drop_eq_getElem_cons hj]
  exact h _ (List.getElem_mem hj)
 ·rw [List.drop_left]
  rcases hy with rfl | hy
  ·simp at hl
  ·exact hy
theorem enc_ne (n : Int) : enc n ≠ [] := fun e => by have := (enc_len n).1; rw [e] at this; simp at this
theorem stands_ne {s t : List UInt8} (h : stands s = some t) : t ≠ [] := by
 unfold stands at h
 split at h
 ·obtain ⟨n, _, rfl⟩ := Option.map_eq_some_iff.1 h
  exact enc_ne _
 ·unfold named at h
  obtain ⟨e, _, rfl⟩ := Option.map_eq_some_iff.1 h
  exact enc_ne _
theorem resolve_ne {s : List UInt8} (h : s ≠ []) : resolve s ≠ [] := by
 cases s with
 | nil => exact absurd rfl h
 | cons c r =>
  by_cases hc : c = 38
  ·subst hc
   rw [resolve_amp]
   split
   ·rename_i t r' ho
    unfold oneR at ho
    split at ho
    ·obtain ⟨u, hu, e⟩ := Option.map_eq_some_iff.1 ho
     cases e
     simp [stands_ne hu]
    ·cases ho
   ·simp
  ·rw [resolve_other c r hc]; simp
theorem valueAt_cons (c : UInt8) (r : List UInt8) : valueAt (c :: r) = if c = 34 ∨ c = 39 then
      (if runN (hdB fun x => !decide (x = c)) r = r.length then none else some (r.take (runN (hdB fun x => !decide (x = c)) r), r.drop (runN (hdB fun x => !decide (x = c)) r + 1)))
    else some ((c :: r).take (runN (hdB bareC) (c :: r)), (c :: r).drop (runN (hdB bareC) (c :: r))) := rfl
theorem toks_ind {P : Tok → Prop} (hstep : ∀ (s r : List UInt8) (e : List Tok), s ≠ [] → step s = some (e, r) → ∀ t ∈ e, P t) : ∀ (n : Nat) (s : List UInt8), s.length ≤ n → ∀ t ∈ toks s, P t
 | n, s, hn, t, ht => by
  by_cases hs : s = []
  ·subst hs; simp [toks_nil] at ht
  ·cases hst : step s with
   | none => rw [toks_none hst] at ht; simp at ht
   | some x =>
    obtain ⟨e, r⟩ := x
    rw [toks_some hs hst] at ht
    rcases List.mem_append.1 ht with h | h
    ·exact hstep s r e hs hst t h
    ·have hlt := step_lt hs hst
     cases n with
     | zero => omega
     | succ n => exact toks_ind hstep n r (by omega) t h
theorem toks_len : ∀ (n : Nat) (s : List UInt8), s.length ≤ n → (toks s).length ≤ s.length
 | n, s, hn => by
  by_cases hs : s = []
  ·subst hs; simp [toks_nil]
  ·cases hst : step s with
   | none => rw [toks_none hst]; simp
   | some x =>
    obtain ⟨e, r⟩ := x
    rw [toks_some hs hst, List.length_append]
    have hlt := step_lt hs hst
    have hct := step_count hs hst
    cases n with
    | zero => omega
    | succ n =>
     have := toks_len n r (by omega)
     omega
def Uniq (ats : List Attr) : Prop := ∀ (j k : Nat) (h : j < k) (hk : k < ats.length), (ats[j]'(by omega)).1 ≠ ats[k].1
theorem uniq_add {ats : List Attr} (h : Uniq ats) (a : Attr) : Uniq (addA ats a) := by
 unfold addA
 split
 ·exact h
 ·rename_i hn
  intro j k hjk hk
  simp at hk
  by_cases hk2 : k < ats.length
  ·rw [List.getElem_append_left (by omega), List.getElem_append_left hk2]
   exact h j k hjk hk2
  ·have : k = ats.length := by omega
   subst this
   rw [List.getElem_append_left (by omega), List.getElem_append_right (by omega)]
   simp
   intro e
   exact hn (List.mem_map.2 ⟨ats[j], List.getElem_mem _, e⟩)
theorem addA_len (ats : List Attr) (a : Attr) : (addA ats a).length ≤ ats.length + 1 := by
 unfold addA
 split <;> simp
theorem tagF_ats : ∀ (n : Nat) (s : List UInt8) (cl : Bool) (ats : List Attr) {x : Bool} {y : List Attr} {r : List UInt8}, tagF n s cl ats = some (x, y, r) → Uniq ats → Uniq y ∧ y.length ≤ ats.length + s.length
 | 0, _, _, _, _, _, _, h, _ => by cases h
 | n + 1, [], _, _, _, _, _, h, _ => by cases h
 | n + 1, c :: r, cl, ats, x, y, r', h, hu => by
  unfold tagF at h
  rw [List.length_cons]
  split at h
  ·have := tagF_ats n _ _ _ h hu; exact ⟨this.1, by omega⟩
  ·split at h
   ·have := tagF_ats n _ _ _ h hu; exact ⟨this.1, by omega⟩
   ·split at h
    ·cases h; exact ⟨hu, by omega⟩
    ·split at h
     ·cases h
     ·rename_i a r1 e
      have h1 := attrAt_le e
      have h2 := addA_len ats a
      have := tagF_ats n _ _ _ h (uniq_add hu a)
      exact ⟨this.1, by omega⟩
def badC (c : UInt8) : Bool := (decide (65 ≤ c.toNat) && decide (c.toNat ≤ 90)) || (decide (c.toNat = 32) || (decide (c.toNat = 62) || (decide (c.toNat = 47) || decide (c.toNat = 10))))
theorem nameC_low (c : UInt8) (h : nameC c = true) : badC (lowB c) = false := by
 have := u8_all (fun c => !nameC c || !badC (lowB c)) (by decide +kernel) c
 rw [h, Bool.not_true, Bool.false_or] at this
 simpa using this
def goodT (t : Tok) : Prop := (t.kd = 1 ∨ t.kd = 2 ∨ t.kd = 3 ∨ t.kd = 4) ∧ ((t.kd = 2 ∨ t.kd = 3) ↔ t.nm ≠ []) ∧ (t.tx ≠ [] → ¬ (t.kd = 2 ∨ t.kd = 3)) ∧ (t.kd ≠ 2 → t.cl = false ∧ t.ats = []) ∧ (∀ c ∈ t.nm, badC c = false) ∧ Uniq t.ats
theorem uniq_nil : Uniq [] := fun _ _ _ h => by simp at h
theorem good_text (x : List UInt8) : goodT (textT x) := ⟨.inl rfl, by simp [textT], by simp [textT], fun _ => ⟨rfl, rfl⟩, by simp [textT], uniq_nil⟩
theorem good_note (x : List UInt8) : goodT (noteT x) := ⟨.inr (.inr (.inr rfl)), by simp [noteT], by simp [noteT], fun _ => ⟨rfl, rfl⟩, by simp [noteT], uniq_nil⟩
theorem tagAt_good {s nm r : List UInt8} {cl : Bool} {ats : List Attr} (h : tagAt s = some (nm, cl, ats, r)) : (∀ c ∈ nm, badC c = false) ∧ Uniq ats ∧ ats.length ≤ s.length ∧ nm = lower (s.take (runN (hdB nameC) s)) := by
 unfold tagAt at h
 cases e : between (s.drop (runN (hdB nameC) s)) false [] with
 | none => rw [e] at h; cases h
 | some t =>
  rw [e] at h
  cases h
  have h1 := tagF_ats _ _ _ _ (x := t.1) (y := t.2.1) (r := t.2.2) e uniq_nil
  simp only [List.length_nil, List.length_drop] at h1
  refine ⟨fun c hc => ?_, h1.1, by omega, rfl⟩
  unfold lower at hc
  obtain ⟨d, hd, rfl⟩ := List.mem_map.1 hc
  obtain ⟨j, hj, rfl⟩ := List.mem_iff_getElem.1 hd
  rw [List.length_take] at hj
  have h2 := runN_in (hdB nameC) s j (by omega)
  rw [hd_drop nameC s j (by omega)] at h2
  rw [List.getElem_take]
  exact nameC_low _ h2
theorem ltr_name (c : UInt8) (h : ltrB c = true) : nameC c = true := by
 have := u8_all (fun c => !ltrB c || nameC c) (by decide +kernel) c
 rw [h, Bool.not_true, Bool.false_or] at this
 exact this
theorem tag_name {c : UInt8} {t nm r : List UInt8} {cl : Bool} {ats : List Attr} (hc : ltrB c = true) (h : tagAt (c :: t) = some (nm, cl, ats, r)) : nm ≠ [] := by
 rw [(tagAt_good h).2.2.2]
 have : runN (hdB nameC) (c :: t) = runN (hdB nameC) t + 1 := by
  rw [runN, if_pos (show hdB nameC (c :: t) = true from ltr_name c hc)]
 rw [this]
 simp [lower]
theorem step_good (s r : List UInt8) (e : List Tok) (hs : s ≠ []) (h : step s = some (e, r)) : ∀ t ∈ e, goodT t ∧ t.ats.length ≤ s.length := by
 intro t ht
 unfold step at h
 split at h
 ·cases h; rw [List.mem_singleton] at ht; subst ht; exact ⟨good_text _, by simp [textT]⟩
 ·cases h; rw [List.mem_singleton] at ht; subst ht; exact ⟨good_note _, by simp [noteT]⟩
 ·cases h; simp at ht
 ·cases h; simp at ht
 ·rename_i hk
  split at h
  ·cases h
  ·rename_i nm cl ats rest hta
   obtain ⟨c, r0, hx, _, _, h3⟩ := tag_tests (.inl hk)
   obtain ⟨_, h4⟩ := h3.resolve_right (fun h => by have := h.1; omega)
   obtain ⟨g1, g2, g3, _⟩ := tagAt_good hta
   rw [hx] at hta
   have g5 := tag_name h4 hta
   rw [List.length_drop] at g3
   have gs : goodT (startT nm cl ats) := ⟨.inr (.inl rfl), ⟨fun _ => g5, fun _ => .inl rfl⟩, by simp [startT], fun h => absurd rfl h, g1, g2⟩
   split at h
   ·cases h
    rcases List.mem_cons.1 ht with rfl | ht
    ·exact ⟨gs, by show ats.length ≤ _; omega⟩
    ·split at ht
     ·simp at ht
     ·rw [List.mem_singleton] at ht; subst ht; exact ⟨good_text _, by simp [textT]⟩
   ·cases h
    rw [List.mem_singleton] at ht; subst ht; exact ⟨gs, by show ats.length ≤ _; omega⟩
 ·rename_i k _ _ _ _ _
  split at h
  ·cases h
  ·rename_i nm cl ats rest hta
   cases h
   rw [List.mem_singleton] at ht; subst ht
   have hk : kindL s = 5 := by rcases kind_le s with h | h | h | h | h | h <;> simp_all
   obtain ⟨c, r0, hx, _, _, h3⟩ := tag_tests (.inr hk)
   rcases h3 with h3 | ⟨_, _, rfl, d, r', rfl, h5⟩
   ·omega
   ·obtain ⟨g1, _, _, _⟩ := tagAt_good hta
    rw [hx] at hta
    have g5 := tag_name h5 hta
    exact ⟨⟨.inr (.inr (.inl rfl)), ⟨fun _ => g5, fun _ => .inr rfl⟩, by simp [endT], fun _ => ⟨rfl, rfl⟩, g1, uniq_nil⟩, by simp [endT]⟩
theorem toks_good (s : List UInt8) : ∀ t ∈ toks s, goodT t := toks_ind (fun s r e hs h t ht => (step_good s r e hs h t ht).1) s.length s (Nat.le_refl _)
theorem toks_ats : ∀ (n : Nat) (s : List UInt8), s.length ≤ n → ∀ t ∈ toks s, t.ats.length ≤ s.length
 | n, s, hn, t, ht => by
  by_cases hs : s = []
  ·subst hs; simp [toks_nil] at ht
  ·cases hst : step s with
   | none => rw [toks_none hst] at ht; simp at ht
   | some x =>
    obtain ⟨e, r⟩ := x
    rw [toks_some hs hst] at ht
    have hlt := step_lt hs hst
    rcases List.mem_append.1 ht with h | h
    ·exact (step_good s r e hs hst t h).2
    ·cases n with
     | zero => omega
     | succ n => have := toks_ats n r (by omega) t h; omega
end Go.Proofs.YthngplknbbcecaaGreatDoor
namespace Go.Proofs.YthngplknbbcecaaGreatDoor
open Go.Aw
set_option maxHeartbeats 1600000
set_option linter.unusedSimpArgs false
set_option linter.unusedVariables false
mutual
def tkN : Node → List Tok
 | .mk nm a t k => if nm = [] then [textT t] else startT nm false a :: (if nm ∈ voids then [] else tkL k ++ [endT nm])
def tkL : List Node → List Tok
 | [] => []
 | n :: r => tkN n ++ tkL r
end
theorem tkN_eq (n : Node) : tkN n = if n.name = [] then [textT n.text] else startT n.name false n.attrs :: (if n.name ∈ voids then [] else tkL n.kids ++ [endT n.name]) := by cases n; unfold tkN; rfl
theorem tkL_cons (n : Node) (r : List Node) : tkL (n :: r) = tkN n ++ tkL r := by rw [tkL]
def markB (c : UInt8) : Bool := simC c || (decide (c = 45) || (decide (c = 95) || decide (c = 58)))
theorem mark_name (c : UInt8) (h : markB c = true) : nameC c = true ∧ attrC c = true ∧ lowB c = c ∧ blkB c = false ∧ c ≠ 60 ∧ c ≠ 61 ∧ c ≠ 62 ∧ c ≠ 47 ∧ c ≠ 33 ∧ c ≠ 63 := by
 have := u8_all (fun c => !markB c || decide (nameC c = true ∧ attrC c = true ∧ lowB c = c ∧ blkB c = false ∧ c ≠ 60 ∧ c ≠ 61 ∧ c ≠ 62 ∧ c ≠ 47 ∧ c ≠ 33 ∧ c ≠ 63)) (by decide +kernel) c
 rw [h, Bool.not_true, Bool.false_or] at this
 exact of_decide_eq_true this
theorem mark_lower {s : List UInt8} (h : ∀ c ∈ s, markB c = true) : lower s = s := by
 unfold lower
 have : s.map lowB = s.map id := List.map_congr_left fun c hc => (mark_name c (h c hc)).2.2.1
 rw [this, List.map_id]
theorem small_mark {s o : List UInt8} (h : small s o = true) (ho : ∀ c ∈ o, c ∈ ([45, 95, 58] : List UInt8)) : (∀ c ∈ s, markB c = true) ∧ ∃ c r, s = c :: r ∧ ltrB c = true := by
 cases s with
 | nil => cases h
 | cons c r =>
  unfold small at h
  rw [Bool.and_eq_true] at h
  have h1 := letter_sim c h.1
  refine ⟨fun d hd => ?_, c, r, rfl, h1.2⟩
  unfold markB
  rcases List.mem_cons.1 hd with rfl | hd
  ·rw [h1.1]; rfl
  ·have h2 := List.all_eq_true.1 h.2 d hd
   simp only [Bool.or_eq_true, decide_eq_true_eq] at h2
   rcases h2 with h2 | h2 | h2
   ·have : simC d = true := by unfold simC; unfold letB at h2; rw [h2]; rfl
    rw [this]; rfl
   ·have : simC d = true := by unfold simC; unfold digB at h2; rw [h2, Bool.or_true]
    rw [this]; rfl
   ·have := ho d h2
    simp at this
    rcases this with rfl | rfl | rfl <;> decide
theorem attr_one (c : UInt8) (r v y : List UInt8) (h : ∀ d ∈ c :: r, markB d = true) : attrAt c (r ++ 61 :: 34 :: (escape true v ++ 34 :: y)) = some ((c :: r, v), y) := by
 have hr2 : runN (hdB attrC) (r ++ 61 :: 34 :: (escape true v ++ 34 :: y)) = r.length := run_all _ _ _ (fun d hd => (mark_name d (h d (by simp [hd]))).2.1) (.inr (show attrC 61 = false by decide))
 have hq : ∀ d ∈ escape true v, (!decide (d = 34)) = true := fun d hd => by
  have := (escape_clean true v.length v (Nat.le_refl _) d hd).2.2 rfl
  simp [this]
 have hr3 : runN (hdB fun x => !decide (x = 34)) (escape true v ++ 34 :: y) = (escape true v).length := run_all _ _ _ hq (.inr (by simp [hdB]))
 have hva : valueAt (34 :: (escape true v ++ 34 :: y)) = some (escape true v, y) := by
  rw [valueAt_cons, if_pos (.inl rfl), hr3, if_neg (by simp), List.take_left, ← List.drop_drop, List.drop_left]; rfl
 unfold attrAt
 rw [hr2, List.drop_left, List.take_left, mark_lower h]
 have e1 : skipB (61 :: 34 :: (escape true v ++ 34 :: y)) = 61 :: 34 :: (escape true v ++ 34 :: y) := rfl
 have e2 : skipB (34 :: (escape true v ++ 34 :: y)) = 34 :: (escape true v ++ 34 :: y) := rfl
 rw [e1]
 simp only [if_true, e2, hva, Option.map_some, res_esc]
theorem between_attrs : ∀ (ats done : List Attr) (y : List UInt8), attrsFrom (done.map (·.1)) ats = true → between (attrsH ats ++ 62 :: y) false done = some (false, done ++ ats, y)
 | [], done, y, _ => by
  show between (62 :: y) false done = _
  rw [between_cons, if_neg (by decide), if_neg (by decide), if_pos rfl, List.append_nil]
 | a :: r, done, y, h => by
  unfold attrsFrom at h
  simp only [Bool.and_eq_true, Bool.not_eq_true', decide_eq_false_iff_not] at h
  obtain ⟨⟨h1, h2⟩, h3⟩ := h
  obtain ⟨hm, c, t, hc, _⟩ := small_mark h1 (fun c hc => hc)
  rw [hc] at hm
  have hmc := mark_name c (hm c (by simp))
  have e : attrsH (a :: r) ++ 62 :: y = 32 :: c :: (t ++ 61 :: 34 :: (escape true a.2 ++ 34 :: (attrsH r ++ 62 :: y))) := by
   rw [attrsH_cons]; unfold attrH; rw [hc]; simp
  have ea : (c :: t, a.2) = a := by rw [← hc]
  have ih := between_attrs r (done ++ [a]) y (by rw [List.map_append]; exact h3)
  rw [e, between_cons, if_pos (by decide), between_cons, hmc.2.2.2.1, if_neg (by decide), if_neg hmc.2.2.2.2.2.2.2.1, if_neg hmc.2.2.2.2.2.2.1, attr_one c t a.2 _ hm, ea]
  show between (attrsH r ++ 62 :: y) false (addA done a) = _
  unfold addA
  rw [if_neg h2, ih, List.append_assoc]; rfl
theorem attrs_hd (ats : List Attr) (y : List UInt8) : hdB nameC (attrsH ats ++ 62 :: y) = false := by
 cases ats with
 | nil => show nameC 62 = false; decide
 | cons a r => rw [attrsH_cons]; unfold attrH; show nameC 32 = false; decide
theorem tag_own (nm : List UInt8) (ats : List Attr) (y : List UInt8) (h : small nm [45] = true) (ha : attrsFrom [] ats = true) : tagAt (nm ++ (attrsH ats ++ 62 :: y)) = some (nm, false, ats, y) := by
 obtain ⟨h1, _⟩ := small_mark h (fun c hc => by simp at hc; subst hc; decide)
 have hr : runN (hdB nameC) (nm ++ (attrsH ats ++ 62 :: y)) = nm.length := run_all _ _ _ (fun c hc => (mark_name c (h1 c hc)).1) (.inr (attrs_hd ats y))
 unfold tagAt
 rw [hr, List.take_left, List.drop_left, between_attrs ats [] y ha, mark_lower h1]
 rfl
theorem kind_own (nm y : List UInt8) (h : small nm [45] = true) : kindL (60 :: (nm ++ y)) = 4 := by
 obtain ⟨h1, c, r, rfl, h2⟩ := small_mark h (fun c hc => by simp at hc; subst hc; decide)
 have hc := mark_name c (h1 c (by simp))
 have e1 : hasPre (c :: (r ++ y)) [33, 45, 45] = false := by simp [hasPre]; intro _ e; exact absurd e hc.2.2.2.2.2.2.2.2.1
 simp only [List.cons_append, kindL, if_true, e1, Bool.false_eq_true, if_false, h2]
 rw [if_neg]
 rintro (e | e)
 ·exact hc.2.2.2.2.2.2.2.2.1 e
 ·exact hc.2.2.2.2.2.2.2.2.2 e
theorem kind_shut (nm y : List UInt8) (h : small nm [45] = true) : kindL (60 :: 47 :: (nm ++ y)) = 5 := by
 obtain ⟨h1, c, r, rfl, h2⟩ := small_mark h (fun c hc => by simp at hc; subst hc; decide)
 have hc := mark_name c (h1 c (by simp))
 have e1 : hasPre (47 :: c :: (r ++ y)) [33, 45, 45] = false := by simp [hasPre]
 have e2 : ltrB 47 = false := by decide
 simp only [List.cons_append, kindL, if_true, e1, e2, Bool.false_eq_true, if_false, h2]
 rw [if_neg (by decide), if_neg hc.2.2.2.2.2.2.1]
theorem toks_own (nm : List UInt8) (ats : List Attr) (y : List UInt8) (h : small nm [45] = true) (ha : attrsFrom [] ats = true) (hraw : rawB nm = false) : toks (60 :: (nm ++ (attrsH ats ++ 62 :: y))) = startT nm false ats :: toks y := by
 have hst : step (60 :: (nm ++ (attrsH ats ++ 62 :: y))) = some ([startT nm false ats], y) := by
  unfold step
  simp only [kind_own nm _ h]
  show (match tagAt (nm ++ (attrsH ats ++ 62 :: y)) with | none => none | some (nm, cl, ats, r) => if rawB nm then some (startT nm cl ats :: (if rawText nm r = [] then [] else [textT (rawText nm r)]), r.drop (rawN nm r)) else some ([startT nm cl ats], r)) = _
  rw [tag_own nm ats y h ha]
  simp only [hraw, Bool.false_eq_true, if_false]
 rw [toks_some (by simp) hst]; rfl
theorem toks_shut (nm y : List UInt8) (h : small nm [45] = true) : toks (60 :: 47 :: (nm ++ 62 :: y)) = endT nm :: toks y := by
 have hst : step (60 :: 47 :: (nm ++ 62 :: y)) = some ([endT nm], y) := by
  unfold step
  simp only [kind_shut nm _ h]
  show (match tagAt (nm ++ 62 :: y) with | none => none | some (nm, _, _, r) => some ([endT nm], r)) = _
  have := tag_own nm [] y h rfl
  rw [show attrsH [] ++ 62 :: y = 62 :: y from rfl] at this
  rw [this]
 rw [toks_some (by simp) hst]; rfl
theorem ownB_parts {n : Node} (h : ownB n = true) : rawB n.name = false ∧ small n.name [45] = true ∧ n.text = [] ∧ (n.name ∈ voids → n.kids = []) ∧ attrsFrom [] n.attrs = true := by
 unfold ownB at h
 rw [Bool.and_eq_true, Bool.not_eq_true'] at h
 obtain ⟨h, h5⟩ := h
 simp only [Bool.or_eq_false_iff, Bool.not_eq_false', Bool.and_eq_false_iff, decide_eq_true_eq, decide_eq_false_iff_not] at h
 obtain ⟨⟨⟨h1, h2⟩, h3⟩, h4⟩ := h
 refine ⟨h1, h2, h3, fun hv => ?_, h5⟩
 rcases h4 with h4 | h4
 ·exact absurd hv h4
 ·exact h4
theorem next_kind {p li : Bool} {r : List Node} (h : stL true p li r = true) {y : List UInt8} (hy : y = [] ∨ kindL y ≠ 0) : htL r ++ y = [] ∨ kindL (htL r ++ y) ≠ 0 := by
 cases r with
 | nil => rw [htL]; exact hy
 | cons n r =>
  rw [stL_cons] at h
  split at h
  ·simp at h
  ·rename_i hn
   rw [Bool.and_eq_true, stN_eq] at h
   simp only [Bool.and_eq_true] at h
   have ho := ownB_parts h.1.1.1.1
   refine .inr ?_
   rw [htL_cons, htN_eq, if_neg hn]
   have : ([60] ++ n.name ++ attrsH n.attrs ++ [62] ++ (if n.name ∈ voids then [] else htL n.kids ++ ([60, 47] ++ n.name ++ [62])) ++ htL r ++ y) = 60 :: (n.name ++ (attrsH n.attrs ++ [62] ++ (if n.name ∈ voids then [] else htL n.kids ++ ([60, 47] ++ n.name ++ [62])) ++ htL r ++ y)) := by simp
   rw [this, kind_own _ _ ho.2.1]; decide
mutual
theorem toks_node : ∀ (n : Node) (p li : Bool), n.name ≠ [] → stN p li n = true → ∀ y : List UInt8, toks (htN n ++ y) = tkN n ++ toks y
 | .mk nm a t k, p, li, hn, h, y => by
  rw [stN] at h
  simp only [Bool.and_eq_true] at h
  obtain ⟨⟨⟨ho, _⟩, _⟩, hk⟩ := h
  obtain ⟨o1, o2, o3, o4, o5⟩ := ownB_parts ho
  dsimp only [Node.name, Node.text, Node.kids, Node.attrs] at *
  rw [htN, tkN, if_neg hn, if_neg hn]
  by_cases hv : nm ∈ voids
  ·rw [if_pos hv, if_pos hv]
   have e : [60] ++ nm ++ attrsH a ++ [62] ++ [] ++ y = 60 :: (nm ++ (attrsH a ++ 62 :: y)) := by simp
   rw [e, toks_own nm a y o2 o5 o1]; rfl
  ·rw [if_neg hv, if_neg hv]
   have e : [60] ++ nm ++ attrsH a ++ [62] ++ (htL k ++ ([60, 47] ++ nm ++ [62])) ++ y = 60 :: (nm ++ (attrsH a ++ 62 :: (htL k ++ 60 :: 47 :: (nm ++ 62 :: y)))) := by simp
   have ih := toks_page k false (p || decide (nm = [112])) (inLi li nm) hk (60 :: 47 :: (nm ++ 62 :: y)) (.inr (by rw [kind_shut nm _ o2]; decide))
   rw [e, toks_own nm a _ o2 o5 o1, ih, toks_shut nm y o2]
   simp
theorem toks_page : ∀ (l : List Node) (tx p li : Bool), stL tx p li l = true → ∀ y : List UInt8, (y = [] ∨ kindL y ≠ 0) → toks (htL l ++ y) = tkL l ++ toks y
 | [], tx, p, li, _, y, _ => by rw [htL, tkL]; rfl
 | n :: r, tx, p, li, h, y, hy => by
  rw [stL_cons] at h
  rw [htL_cons, tkL_cons, List.append_assoc, List.append_assoc]
  by_cases hn : n.name = []
  ·rw [if_pos hn] at h
   simp only [Bool.and_eq_true, Bool.not_eq_true', decide_eq_true_eq, decide_eq_false_iff_not] at h
   obtain ⟨⟨⟨⟨_, h2⟩, _⟩, _⟩, h5⟩ := h
   have ih := toks_page r true p li h5 y hy
   rw [htN_eq, if_pos hn, tkN_eq, if_pos hn, toks_text _ _ (fun e => h2 ((esc_nil false _).1 e)) (esc_free false _) (next_kind h5 hy), res_esc, ih]
   rfl
  ·rw [if_neg hn, Bool.and_eq_true] at h
   rw [toks_node n p li hn h.1, toks_page r false p li h.2 y hy]
end
end Go.Proofs.YthngplknbbcecaaGreatDoor

namespace Go.Proofs.YthngplknbbcecaaGreatDoor
open Go.Aw
set_option maxHeartbeats 1600000
set_option linter.unusedSimpArgs false
set_option linter.unusedVariables false
abbrev Op := List UInt8 × List Attr × List Node
structure Bs where
 ops : List Op
 cnt : Nat
 full : Bool
def putO (n : Node) : List Op → List Op
 | (a, b, k) :: r => (a, b, k ++ [n]) :: r
 | [] => []
def shutO : List Op → List Op
 | (a, b, k) :: r => putO (.mk a b [] k) r
 | [] => []
def openB (nm : List UInt8) : List Op → Bool
 | o :: o2 :: r => decide (o.1 = nm) || openB nm (o2 :: r)
 | _ => false
def closeF (nm : List UInt8) : Nat → List Op → List Op
 | n + 1, o :: o2 :: r => if o.1 = nm then shutO (o :: o2 :: r) else closeF nm n (shutO (o :: o2 :: r))
 | _, l => l
def closeO (nm : List UInt8) (ops : List Op) : List Op := if openB nm ops then closeF nm ops.length ops else ops
def liB : List Op → Bool
 | o :: o2 :: r => if o.1 = [108, 105] then true else if o.1 = [117, 108] ∨ o.1 = [111, 108] then false else liB (o2 :: r)
 | _ => false
def textB (k : List Node) : Bool := match k.getLast? with
 | some n => decide (n.name = [])
 | none => false
def countS (s : Bs) : Bs := ⟨s.ops, s.cnt + 1, s.full || (decide (65 < s.ops.length) || decide (2000 < s.cnt + 1))⟩
def startO (nm : List UInt8) (ops : List Op) : List Op :=
 let o1 := if nm ∈ blocks then closeO [112] ops else ops
 if nm = [108, 105] ∧ liB o1 = true then closeO [108, 105] o1 else o1
def startS (nm : List UInt8) (ats : List Attr) (s : Bs) : Bs :=
 countS ⟨if nm ∈ voids then putO (.mk nm ats [] []) (startO nm s.ops) else (nm, ats, []) :: startO nm s.ops, s.cnt, s.full⟩
def endS (nm : List UInt8) (s : Bs) : Bs :=
 if openB nm s.ops then ⟨closeO nm s.ops, s.cnt, s.full⟩
 else if nm = [112] then ⟨closeO nm (startS nm [] s).ops, (startS nm [] s).cnt, (startS nm [] s).full⟩
 else if nm = [98, 114] then startS nm [] s else s
def addText (x : List UInt8) : List Op → List Op
 | (a, b, k) :: r => match k.getLast? with
  | some n => (a, b, k.dropLast ++ [.mk n.name n.attrs (n.text ++ x) n.kids]) :: r
  | none => (a, b, k) :: r
 | [] => []
def topText : List Op → Bool
 | (_, _, k) :: _ => textB k
 | [] => false
def textS (x : List UInt8) (s : Bs) : Bs :=
 if x = [] then s else if topText s.ops then ⟨addText x s.ops, s.cnt, s.full⟩ else countS ⟨putO (.mk [] [] x []) s.ops, s.cnt, s.full⟩
def tokS (t : Tok) (s : Bs) : Bs := if t.kd = 1 then textS t.tx s else if t.kd = 2 then startS t.nm t.ats s else if t.kd = 3 then endS t.nm s else s
def runS : List Tok → Bs → Option Bs
 | [], s => some s
 | t :: r, s => if (tokS t s).full then none else runS r (tokS t s)
def finO : Nat → List Op → List Op
 | n + 1, o :: o2 :: r => finO n (shutO (o :: o2 :: r))
 | _, l => l
def rootK : List Op → List Node
 | (_, _, k) :: _ => k
 | [] => []
def buildL (T : List Tok) : Option (List Node) := (runS T ⟨[([], [], [])], 0, false⟩).map fun s => rootK (finO s.ops.length s.ops)
theorem countS_ok {ops : List Op} {c : Nat} (h1 : ops.length ≤ 65) (h2 : c + 1 ≤ 2000) : countS ⟨ops, c, false⟩ = ⟨ops, c + 1, false⟩ := by
 unfold countS
 dsimp only
 rw [decide_eq_false (by omega), decide_eq_false (by omega)]; rfl
theorem openB_kids (nm : List UInt8) (a : List UInt8) (b b' : List Attr) (k k' : List Node) (r : List Op) : openB nm ((a, b, k) :: r) = openB nm ((a, b', k') :: r) := by
 cases r <;> rfl
theorem liB_kids (a : List UInt8) (b b' : List Attr) (k k' : List Node) (r : List Op) : liB ((a, b, k) :: r) = liB ((a, b', k') :: r) := by
 cases r <;> rfl
theorem close_top (nm : List UInt8) (b : List Attr) (k : List Node) (o : Op) (r : List Op) : closeO nm ((nm, b, k) :: o :: r) = putO (.mk nm b [] k) (o :: r) := by
 unfold closeO
 have : openB nm ((nm, b, k) :: o :: r) = true := by simp [openB]
 rw [if_pos this]
 show closeF nm (r.length + 1 + 1) ((nm, b, k) :: o :: r) = _
 rw [closeF, if_pos rfl]; rfl
theorem startO_same {nm : List UInt8} {ops : List Op} (h1 : openB [112] ops = true → nm ∉ blocks) (h2 : liB ops = true → nm ≠ [108, 105]) : startO nm ops = ops := by
 unfold startO
 have e : (if nm ∈ blocks then closeO [112] ops else ops) = ops := by
  split
  ·rename_i h
   unfold closeO
   rw [if_neg (fun h3 => h1 h3 h)]
  ·rfl
 rw [e]
 show (if nm = [108, 105] ∧ liB ops = true then _ else _) = _
 rw [if_neg (fun h => h2 h.2 h.1)]
theorem textB_snoc (k : List Node) (n : Node) : textB (k ++ [n]) = decide (n.name = []) := by
 unfold textB; rw [List.getLast?_concat]
mutual
theorem run_node : ∀ (n : Node) (p li : Bool), n.name ≠ [] → stN p li n = true → ∀ (a : List UInt8) (b : List Attr) (k : List Node) (r : List Op) (cnt : Nat) (T : List Tok), openB [112] ((a, b, k) :: r) = p → liB ((a, b, k) :: r) = li →
  cnt + szN n ≤ 2000 → r.length + dpN n ≤ 64 → runS (tkN n ++ T) ⟨(a, b, k) :: r, cnt, false⟩ = runS T ⟨(a, b, k ++ [n]) :: r, cnt + szN n, false⟩
 | .mk nm ats t ks, p, li, hn, h, a, b, k, r, cnt, T, hp, hl, hc, hd => by
  rw [stN] at h
  simp only [Bool.and_eq_true, Bool.not_eq_true', Bool.and_eq_false_iff, decide_eq_false_iff_not] at h
  obtain ⟨⟨⟨ho, hb⟩, hli⟩, hk⟩ := h
  obtain ⟨o1, o2, o3, o4, o5⟩ := ownB_parts ho
  dsimp only [Node.name, Node.text, Node.kids, Node.attrs] at *
  rw [szN] at hc ⊢
  rw [dpN, if_neg hn] at hd
  rw [tkN, if_neg hn]
  have hso : startO nm ((a, b, k) :: r) = (a, b, k) :: r := startO_same (fun h1 => by
   rcases hb with hb | hb
   ·rw [← hp, h1] at hb; cases hb
   ·exact hb) (fun h1 => by
   rcases hli with hli | hli
   ·rw [← hl, h1] at hli; cases hli
   ·exact hli)
  subst o3
  by_cases hv : nm ∈ voids
  ·have hk0 := o4 hv
   subst hk0
   have e : tokS (startT nm false ats) ⟨(a, b, k) :: r, cnt, false⟩ = ⟨(a, b, k ++ [.mk nm ats [] []]) :: r, cnt + 1, false⟩ := by
    show startS nm ats _ = _
    unfold startS
    dsimp only
    rw [if_pos hv, hso, countS_ok (by simp only [putO, List.length_cons]; omega) (by omega)]; rfl
   rw [if_pos hv]
   show runS (startT nm false ats :: T) _ = _
   rw [runS, e]
   simp [szL]
  ·have e : tokS (startT nm false ats) ⟨(a, b, k) :: r, cnt, false⟩ = ⟨(nm, ats, []) :: (a, b, k) :: r, cnt + 1, false⟩ := by
    show startS nm ats _ = _
    unfold startS
    dsimp only
    rw [if_neg hv, hso, countS_ok (by simp only [List.length_cons]; omega) (by omega)]
   have hp2 : openB [112] ((nm, ats, []) :: (a, b, k) :: r) = (p || decide (nm = [112])) := by
    rw [← hp, Bool.or_comm]; rfl
   have hl2 : liB ((nm, ats, []) :: (a, b, k) :: r) = inLi li nm := by
    rw [← hl]; rfl
   have ih := run_page ks false (p || decide (nm = [112])) (inLi li nm) hk nm ats [] ((a, b, k) :: r) (cnt + 1) (endT nm :: T) hp2 hl2 (fun h => by simp [textB] at h) (by omega) (by rw [List.length_cons]; omega)
   have e2 : tokS (endT nm) ⟨(nm, ats, [] ++ ks) :: (a, b, k) :: r, cnt + 1 + szL ks, false⟩ = ⟨(a, b, k ++ [.mk nm ats [] ks]) :: r, cnt + 1 + szL ks, false⟩ := by
    show endS nm _ = _
    unfold endS
    have : openB nm ((nm, ats, [] ++ ks) :: (a, b, k) :: r) = true := by simp [openB]
    dsimp only
    rw [if_pos this, close_top]; rfl
   rw [if_neg hv]
   show runS (startT nm false ats :: (tkL ks ++ [endT nm] ++ T)) _ = _
   rw [runS, e, List.append_assoc]
   show (if false = true then none else runS (tkL ks ++ endT nm :: T) _) = _
   rw [if_neg (by decide), ih, runS, e2]
   show (if false = true then none else _) = _
   rw [if_neg (by decide), Nat.add_assoc]
theorem run_page : ∀ (l : List Node) (tx p li : Bool), stL tx p li l = true → ∀ (a : List UInt8) (b : List Attr) (k : List Node) (r : List Op) (cnt : Nat) (T : List Tok), openB [112] ((a, b, k) :: r) = p → liB ((a, b, k) :: r) = li →
  (textB k = true → tx = true) → cnt + szL l ≤ 2000 → r.length + dpL l ≤ 64 → runS (tkL l ++ T) ⟨(a, b, k) :: r, cnt, false⟩ = runS T ⟨(a, b, k ++ l) :: r, cnt + szL l, false⟩
 | [], tx, p, li, _, a, b, k, r, cnt, T, _, _, _, _, _ => by rw [tkL, szL, List.append_nil]; rfl
 | n :: l, tx, p, li, h, a, b, k, r, cnt, T, hp, hl, htx, hc, hd => by
  rw [stL_cons] at h
  rw [szL] at hc ⊢
  rw [dpL_cons] at hd
  rw [tkL_cons, List.append_assoc]
  have hap : k ++ n :: l = (k ++ [n]) ++ l := by simp
  by_cases hn : n.name = []
  ·rw [if_pos hn] at h
   simp only [Bool.and_eq_true, Bool.not_eq_true', decide_eq_true_eq, decide_eq_false_iff_not] at h
   obtain ⟨⟨⟨⟨h1, h2⟩, h3⟩, h4⟩, h5⟩ := h
   have hnode : n = .mk [] [] n.text [] := by
    cases n; dsimp only [Node.name, Node.text, Node.kids, Node.attrs] at *; rw [hn, h3, h4]
   have hsz : szN n = 1 := by rw [hnode]; simp [szN, szL]
   have hk : textB k = false := by
    cases hh : textB k with
    | false => rfl
    | true => rw [htx hh] at h1; cases h1
   have e : tokS (textT n.text) ⟨(a, b, k) :: r, cnt, false⟩ = ⟨(a, b, k ++ [n]) :: r, cnt + 1, false⟩ := by
    show textS n.text _ = _
    unfold textS
    rw [if_neg h2]
    show (if textB k = true then _ else _) = _
    rw [if_neg (by rw [hk]; decide), ← hnode]
    exact countS_ok (by simp only [putO, List.length_cons]; omega) (show cnt + 1 ≤ 2000 by omega)
   have ih := run_page l true p li h5 a b (k ++ [n]) r (cnt + 1) T (by rw [← hp]; exact openB_kids _ _ _ _ _ _ _) (by rw [← hl]; exact liB_kids _ _ _ _ _ _) (fun _ => rfl) (by omega) (by omega)
   rw [tkN_eq, if_pos hn]
   show runS (textT n.text :: (tkL l ++ T)) _ = _
   rw [runS, e]
   show (if false = true then none else _) = _
   rw [if_neg (by decide), ih, hap, hsz, Nat.add_assoc]
  ·rw [if_neg hn, Bool.and_eq_true] at h
   have h1 := run_node n p li hn h.1 a b k r cnt (tkL l ++ T) hp hl (by omega) (by omega)
   have ih := run_page l false p li h.2 a b (k ++ [n]) r (cnt + szN n) T (by rw [← hp]; exact openB_kids _ _ _ _ _ _ _) (by rw [← hl]; exact liB_kids _ _ _ _ _ _) (fun hh => by rw [textB_snoc, decide_eq_false hn] at hh; cases hh) (by omega) (by omega)
   rw [h1, ih, hap, Nat.add_assoc]
end
theorem build_page {l : List Node} (h : stL false false false l = true) (h1 : szL l ≤ 2000) (h2 : dpL l ≤ 64) : buildL (tkL l) = some l := by
 have := run_page l false false false h [] [] [] [] 0 [] rfl rfl (fun h => by simp [textB] at h) (by omega) (by simp; omega)
 rw [List.append_nil] at this
 unfold buildL
 rw [this]
 rfl
end Go.Proofs.YthngplknbbcecaaGreatDoor

namespace Go.Proofs.YthngplknbbcecaaGreatDoor
open Go.Aw
set_option maxHeartbeats 1600000
set_option linter.unusedSimpArgs false
set_option linter.unusedVariables false
def owB (n : Node) : Bool := decide (n.text = []) && (!(decide (n.name ∈ voids) && !decide (n.kids = [])) && decide ((n.attrs.map Prod.fst).Nodup))
mutual
def swN (p li : Bool) : Node → Bool
 | .mk nm a t k => owB (.mk nm a t k) && !(p && decide (nm ∈ blocks)) && !(li && decide (nm = [108, 105])) && swL false (p || decide (nm = [112])) (inLi li nm) k
def swL (tx p li : Bool) : List Node → Bool
 | [] => true
 | n :: r => if n.name = [] then (!tx && !decide (n.text = []) && decide (n.attrs = []) && decide (n.kids = [])) && swL true p li r else swN p li n && swL false p li r
end
theorem swL_cons (tx p li : Bool) (n : Node) (r : List Node) : swL tx p li (n :: r) = if n.name = [] then (!tx && !decide (n.text = []) && decide (n.attrs = []) && decide (n.kids = [])) && swL true p li r else swN p li n && swL false p li r := by rw [swL]
def okEW (a : List UInt8) (b : List Attr) (r : List Op) : Prop :=
 owB (.mk a b [] []) = true ∧ (openB [112] r = true → a ∉ blocks) ∧ (liB r = true → a ≠ [108, 105]) ∧ a ∉ voids
def okSW : List Op → Prop
 | [] => False
 | [o] => o.1 = [] ∧ swL false false false o.2.2 = true
 | o :: o2 :: r => o.1 ≠ [] ∧ okEW o.1 o.2.1 (o2 :: r) ∧ swL false (openB [112] (o :: o2 :: r)) (liB (o :: o2 :: r)) o.2.2 = true ∧ okSW (o2 :: r)
theorem okS_kidsW {a : List UInt8} {b : List Attr} {k : List Node} {r : List Op} (h : okSW ((a, b, k) :: r)) : swL false (openB [112] ((a, b, k) :: r)) (liB ((a, b, k) :: r)) k = true := by
 cases r with
 | nil => exact h.2
 | cons o r => exact h.2.2.1
theorem okS_setW {a : List UInt8} {b : List Attr} {k k' : List Node} {r : List Op} (h : okSW ((a, b, k) :: r)) (hk : swL false (openB [112] ((a, b, k) :: r)) (liB ((a, b, k) :: r)) k' = true) : okSW ((a, b, k') :: r) := by
 cases r with
 | nil => exact ⟨h.1, hk⟩
 | cons o r => exact ⟨h.1, h.2.1, hk, h.2.2.2⟩
theorem stL_snocW : ∀ (k : List Node) (tx p li : Bool) (n : Node), swL tx p li k = true → n.name ≠ [] → swN p li n = true → swL tx p li (k ++ [n]) = true
 | [], tx, p, li, n, _, hn, h => by
  rw [List.nil_append, swL_cons, if_neg hn, h, swL]; rfl
 | m :: k, tx, p, li, n, hk, hn, h => by
  rw [swL_cons] at hk
  rw [List.cons_append, swL_cons]
  split
  ·rename_i hm
   rw [if_pos hm, Bool.and_eq_true] at hk
   rw [hk.1, stL_snocW k true p li n hk.2 hn h]; rfl
  ·rename_i hm
   rw [if_neg hm, Bool.and_eq_true] at hk
   rw [hk.1, stL_snocW k false p li n hk.2 hn h]; rfl
theorem textB_consW (m n : Node) (k : List Node) : textB (m :: n :: k) = textB (n :: k) := by
 unfold textB; rw [List.getLast?_cons_cons]
theorem stL_textW : ∀ (k : List Node) (tx p li : Bool) (x : List UInt8), swL tx p li k = true → textB k = false → (k = [] → tx = false) → x ≠ [] → swL tx p li (k ++ [.mk [] [] x []]) = true
 | [], tx, p, li, x, _, _, ht, hx => by
  rw [List.nil_append, swL_cons, if_pos (show (Node.mk [] [] x []).name = [] from rfl), ht rfl, swL]
  simp [Node.text, Node.attrs, Node.kids, hx]
 | [m], tx, p, li, x, hk, hb, _, hx => by
  have hm : ¬ m.name = [] := by
   intro e; simp [textB, e] at hb
  rw [swL_cons, if_neg hm, Bool.and_eq_true] at hk
  rw [List.cons_append, swL_cons, if_neg hm, hk.1, stL_textW [] false p li x (by rw [swL]) (by simp [textB]) (fun _ => rfl) hx]; rfl
 | m :: m2 :: k, tx, p, li, x, hk, hb, _, hx => by
  rw [textB_consW] at hb
  rw [swL_cons] at hk
  rw [List.cons_append, swL_cons]
  split
  ·rename_i hm
   rw [if_pos hm, Bool.and_eq_true] at hk
   rw [hk.1, stL_textW (m2 :: k) true p li x hk.2 hb (fun e => by cases e) hx]; rfl
  ·rename_i hm
   rw [if_neg hm, Bool.and_eq_true] at hk
   rw [hk.1, stL_textW (m2 :: k) false p li x hk.2 hb (fun e => by cases e) hx]; rfl
theorem stL_moreW : ∀ (k : List Node) (tx p li : Bool) (n : Node) (x : List UInt8), swL tx p li (k ++ [n]) = true → n.name = [] → swL tx p li (k ++ [.mk n.name n.attrs (n.text ++ x) n.kids]) = true
 | [], tx, p, li, n, x, h, hn => by
  rw [List.nil_append, swL_cons, if_pos hn] at h
  rw [List.nil_append, swL_cons, if_pos (show (Node.mk n.name n.attrs (n.text ++ x) n.kids).name = [] from hn)]
  simp only [Bool.and_eq_true, Bool.not_eq_true', decide_eq_true_eq, decide_eq_false_iff_not, Node.text, Node.attrs, Node.kids] at h ⊢
  obtain ⟨⟨⟨⟨h1, h2⟩, h3⟩, h4⟩, h5⟩ := h
  exact ⟨⟨⟨⟨h1, decide_eq_false fun e => (of_decide_eq_false h2) (List.append_eq_nil_iff.1 e).1⟩, h3⟩, h4⟩, h5⟩
 | m :: k, tx, p, li, n, x, h, hn => by
  rw [List.cons_append, swL_cons] at h
  rw [List.cons_append, swL_cons]
  split
  ·rename_i hm
   rw [if_pos hm, Bool.and_eq_true] at h
   rw [h.1, stL_moreW k true p li n x h.2 hn]; rfl
  ·rename_i hm
   rw [if_neg hm, Bool.and_eq_true] at h
   rw [h.1, stL_moreW k false p li n x h.2 hn]; rfl
theorem ownB_kidsW {a : List UInt8} {b : List Attr} {k : List Node} (h : owB (.mk a b [] []) = true) (hv : a ∉ voids) : owB (.mk a b [] k) = true := by
 have e : ∀ k : List Node, owB (.mk a b [] k) = (decide (([] : List UInt8) = []) && (!(decide (a ∈ voids) && !decide (k = [])) && decide ((b.map Prod.fst).Nodup))) := fun _ => rfl
 rw [e, decide_eq_false hv, Bool.false_and] at h ⊢
 exact h
theorem okS_shutW {o o2 : Op} {r : List Op} (h : okSW (o :: o2 :: r)) : okSW (shutO (o :: o2 :: r)) := by
 obtain ⟨a, b, k⟩ := o
 obtain ⟨a2, b2, k2⟩ := o2
 obtain ⟨h1, ⟨e1, e2, e3, e4⟩, h3, h4⟩ := h
 have hk := okS_kidsW h4
 refine okS_setW h4 (stL_snocW k2 false _ _ _ hk h1 ?_)
 dsimp only at *
 rw [swN]
 have hown := ownB_kidsW (k := k) e1 e4
 have e5 : (openB [112] ((a2, b2, k2) :: r) && decide (a ∈ blocks)) = false := by
  cases hh : openB [112] ((a2, b2, k2) :: r) with
  | false => rfl
  | true => rw [decide_eq_false (e2 hh)]; rfl
 have e6 : (liB ((a2, b2, k2) :: r) && decide (a = [108, 105])) = false := by
  cases hh : liB ((a2, b2, k2) :: r) with
  | false => rfl
  | true => rw [decide_eq_false (e3 hh)]; rfl
 have e7 : openB [112] ((a, b, k) :: (a2, b2, k2) :: r) = (openB [112] ((a2, b2, k2) :: r) || decide (a = [112])) := by rw [Bool.or_comm]; rfl
 have e8 : liB ((a, b, k) :: (a2, b2, k2) :: r) = inLi (liB ((a2, b2, k2) :: r)) a := rfl
 rw [e7, e8] at h3
 rw [hown, e5, e6, h3]; rfl
theorem okS_closeFW (nm : List UInt8) : ∀ (n : Nat) (ops : List Op), okSW ops → okSW (closeF nm n ops)
 | 0, ops, h => by unfold closeF; exact h
 | n + 1, [], h => h.elim
 | n + 1, [o], h => by unfold closeF; exact h
 | n + 1, o :: o2 :: r, h => by
  rw [closeF]
  split
  ·exact okS_shutW h
  ·exact okS_closeFW nm n _ (okS_shutW h)
theorem okS_closeW (nm : List UInt8) {ops : List Op} (h : okSW ops) : okSW (closeO nm ops) := by
 unfold closeO
 split
 ·exact okS_closeFW nm _ _ h
 ·exact h
theorem openB_shutW (q : List UInt8) (o o2 : Op) (r : List Op) : openB q (shutO (o :: o2 :: r)) = openB q (o2 :: r) := by
 obtain ⟨a, b, k⟩ := o
 obtain ⟨a2, b2, k2⟩ := o2
 exact openB_kids _ _ _ _ _ _ _
theorem liB_shutW (o o2 : Op) (r : List Op) : liB (shutO (o :: o2 :: r)) = liB (o2 :: r) := by
 obtain ⟨a, b, k⟩ := o
 obtain ⟨a2, b2, k2⟩ := o2
 exact liB_kids _ _ _ _ _ _
theorem shut_lenW (o o2 : Op) (r : List Op) : (shutO (o :: o2 :: r)).length = r.length + 1 := by
 obtain ⟨a, b, k⟩ := o
 obtain ⟨a2, b2, k2⟩ := o2
 rfl
theorem openB_closeFW (q nm : List UInt8) : ∀ (n : Nat) (ops : List Op), openB q (closeF nm n ops) = true → openB q ops = true
 | 0, ops, h => by unfold closeF at h; exact h
 | n + 1, [], h => by unfold closeF at h; exact h
 | n + 1, [o], h => by unfold closeF at h; exact h
 | n + 1, o :: o2 :: r, h => by
  rw [closeF] at h
  have e : openB q (o :: o2 :: r) = (decide (o.1 = q) || openB q (o2 :: r)) := rfl
  rw [e]
  split at h
  ·rw [openB_shutW] at h; rw [h, Bool.or_true]
  ·have := openB_closeFW q nm n _ h
   rw [openB_shutW] at this; rw [this, Bool.or_true]
theorem openB_closeW {q nm : List UInt8} {ops : List Op} (h : openB q (closeO nm ops) = true) : openB q ops = true := by
 unfold closeO at h
 split at h
 ·exact openB_closeFW q nm _ _ h
 ·exact h
theorem close_pW : ∀ (n : Nat) (ops : List Op), okSW ops → ops.length ≤ n → openB [112] ops = true → openB [112] (closeF [112] n ops) = false
 | n, [], h, _, _ => h.elim
 | n, [o], _, _, h => by cases h
 | 0, o :: o2 :: r, _, h, _ => by simp at h
 | n + 1, o :: o2 :: r, h, hl, ho => by
  rw [closeF]
  split
  ·rename_i e
   rw [openB_shutW]
   cases hh : openB [112] (o2 :: r) with
   | false => rfl
   | true =>
    have := h.2.1.2.1 hh
    rw [e] at this
    exact absurd (by decide) this
  ·rename_i e
   have h2 : openB [112] (o :: o2 :: r) = (decide (o.1 = [112]) || openB [112] (o2 :: r)) := rfl
   rw [h2, decide_eq_false e, Bool.false_or] at ho
   exact close_pW n _ (okS_shutW h) (by rw [shut_lenW]; simp at hl; omega) (by rw [openB_shutW]; exact ho)
theorem p_closedW {ops : List Op} (h : okSW ops) : openB [112] (closeO [112] ops) = false := by
 unfold closeO
 cases hh : openB [112] ops with
 | false => rw [if_neg (by decide)]; exact hh
 | true => rw [if_pos rfl]; exact close_pW _ _ h (Nat.le_refl _) hh
theorem li_openW : ∀ (ops : List Op), liB ops = true → openB [108, 105] ops = true
 | [], h => by cases h
 | [o], h => by cases h
 | o :: o2 :: r, h => by
  have e : liB (o :: o2 :: r) = if o.1 = [108, 105] then true else if o.1 = [117, 108] ∨ o.1 = [111, 108] then false else liB (o2 :: r) := rfl
  rw [e] at h
  show (decide (o.1 = [108, 105]) || openB [108, 105] (o2 :: r)) = true
  split at h
  ·rename_i h1; rw [decide_eq_true h1]; rfl
  ·split at h
   ·cases h
   ·rw [li_openW _ h, Bool.or_true]
theorem close_liW : ∀ (n : Nat) (ops : List Op), okSW ops → ops.length ≤ n → liB ops = true → liB (closeF [108, 105] n ops) = false
 | n, [], h, _, _ => h.elim
 | n, [o], _, _, h => by cases h
 | 0, o :: o2 :: r, _, h, _ => by simp at h
 | n + 1, o :: o2 :: r, h, hl, ho => by
  rw [closeF]
  split
  ·rename_i e
   rw [liB_shutW]
   cases hh : liB (o2 :: r) with
   | false => rfl
   | true => exact absurd e (h.2.1.2.2.1 hh)
  ·rename_i e
   have h2 : liB (o :: o2 :: r) = if o.1 = [108, 105] then true else if o.1 = [117, 108] ∨ o.1 = [111, 108] then false else liB (o2 :: r) := rfl
   rw [h2, if_neg e] at ho
   split at ho
   ·cases ho
   ·exact close_liW n _ (okS_shutW h) (by rw [shut_lenW]; simp at hl; omega) (by rw [liB_shutW]; exact ho)
theorem li_closedW {ops : List Op} (h : okSW ops) (hl : liB ops = true) : liB (closeO [108, 105] ops) = false := by
 unfold closeO
 rw [if_pos (li_openW _ hl)]
 exact close_liW _ _ h (Nat.le_refl _) hl
theorem okS_startOW (nm : List UInt8) {ops : List Op} (h : okSW ops) : okSW (startO nm ops) ∧ (openB [112] (startO nm ops) = true → nm ∉ blocks) ∧ (liB (startO nm ops) = true → nm ≠ [108, 105]) := by
 have h1 : okSW (if nm ∈ blocks then closeO [112] ops else ops) := by
  split
  ·exact okS_closeW _ h
  ·exact h
 have h2 : openB [112] (if nm ∈ blocks then closeO [112] ops else ops) = true → nm ∉ blocks := by
  intro h3 h4
  rw [if_pos h4, p_closedW h] at h3; cases h3
 unfold startO
 generalize (if nm ∈ blocks then closeO [112] ops else ops) = o1 at *
 show okSW (if nm = [108, 105] ∧ liB o1 = true then closeO [108, 105] o1 else o1) ∧ (openB [112] (if nm = [108, 105] ∧ liB o1 = true then closeO [108, 105] o1 else o1) = true → nm ∉ blocks) ∧ (liB (if nm = [108, 105] ∧ liB o1 = true then closeO [108, 105] o1 else o1) = true → nm ≠ [108, 105])
 by_cases hc : nm = [108, 105] ∧ liB o1 = true
 ·rw [if_pos hc]
  exact ⟨okS_closeW _ h1, fun h3 => h2 (openB_closeW h3), fun h3 => by rw [li_closedW h1 hc.2] at h3; cases h3⟩
 ·rw [if_neg hc]
  exact ⟨h1, h2, fun h3 h4 => hc ⟨h4, h3⟩⟩
theorem okS_putW {n : Node} {ops : List Op} (h : okSW ops) (hn : n.name ≠ []) (hs : swN (openB [112] ops) (liB ops) n = true) : okSW (putO n ops) := by
 cases ops with
 | nil => exact h
 | cons o r =>
  obtain ⟨a, b, k⟩ := o
  exact okS_setW h (stL_snocW k false _ _ n (okS_kidsW h) hn hs)
theorem okS_startW {nm : List UInt8} {ats : List Attr} {s : Bs} (h : okSW s.ops) (ho : owB (.mk nm ats [] []) = true) (hn : nm ≠ []) : okSW (startS nm ats s).ops := by
 obtain ⟨h1, h2, h3⟩ := okS_startOW nm h
 show okSW (if nm ∈ voids then putO (.mk nm ats [] []) (startO nm s.ops) else (nm, ats, []) :: startO nm s.ops)
 generalize startO nm s.ops = R at *
 split
 ·refine okS_putW h1 hn ?_
  rw [swN, ho, swL]
  have e5 : (openB [112] R && decide (nm ∈ blocks)) = false := by
   cases hh : openB [112] R with
   | false => rfl
   | true => rw [decide_eq_false (h2 hh)]; rfl
  have e6 : (liB R && decide (nm = [108, 105])) = false := by
   cases hh : liB R with
   | false => rfl
   | true => rw [decide_eq_false (h3 hh)]; rfl
  rw [e5, e6]; rfl
 ·rename_i hv
  cases R with
  | nil => exact h1.elim
  | cons o2 r => exact ⟨hn, ⟨ho, h2, h3, hv⟩, by rw [swL], h1⟩
theorem okS_endW (nm : List UInt8) {s : Bs} (h : okSW s.ops) : okSW (endS nm s).ops := by
 unfold endS
 split
 ·exact okS_closeW _ h
 ·split
  ·rename_i e
   subst e
   exact okS_closeW _ (okS_startW h (by decide) (by decide))
  ·split
   ·rename_i e
    subst e
    exact okS_startW h (by decide) (by decide)
   ·exact h
theorem okS_textW (x : List UInt8) {s : Bs} (h : okSW s.ops) : okSW (textS x s).ops := by
 unfold textS
 split
 ·exact h
 ·rename_i hx
  obtain ⟨ops, cnt, full⟩ := s
  cases ops with
  | nil => exact h.elim
  | cons o r =>
   obtain ⟨a, b, k⟩ := o
   have hk := okS_kidsW h
   by_cases ht : topText ((a, b, k) :: r) = true
   ·rw [if_pos ht]
    show okSW (addText x ((a, b, k) :: r))
    have ht2 : textB k = true := ht
    unfold textB at ht2
    cases hg : k.getLast? with
    | none => rw [hg] at ht2; cases ht2
    | some n =>
     rw [hg] at ht2
     have hn : n.name = [] := of_decide_eq_true ht2
     obtain ⟨ys, hys⟩ := List.getLast?_eq_some_iff.1 hg
     have hdl : k.dropLast = ys := by rw [hys, List.dropLast_concat]
     show okSW (match k.getLast? with
      | some n => (a, b, k.dropLast ++ [.mk n.name n.attrs (n.text ++ x) n.kids]) :: r
      | none => (a, b, k) :: r)
     rw [hg]
     refine okS_setW h ?_
     rw [openB_kids [112] a b b k [] r, liB_kids a b b k [] r] at hk ⊢
     rw [hdl]
     rw [hys] at hk
     exact stL_moreW ys _ _ _ n x hk hn
   ·rw [if_neg ht]
    show okSW (putO (.mk [] [] x []) ((a, b, k) :: r))
    exact okS_setW h (stL_textW k false _ _ x hk (by
     cases hh : textB k with
     | false => rfl
     | true => exact absurd hh ht) (fun _ => rfl) hx)
def goodT2W (t : Tok) : Prop := t.kd = 2 → owB (.mk t.nm t.ats [] []) = true ∧ t.nm ≠ []
theorem okS_tokW {t : Tok} (ht : goodT2W t) {s : Bs} (h : okSW s.ops) : okSW (tokS t s).ops := by
 unfold tokS
 split
 ·exact okS_textW _ h
 ·split
  ·rename_i h2
   exact okS_startW h (ht h2).1 (ht h2).2
  ·split
   ·exact okS_endW _ h
   ·exact h
theorem okS_runW : ∀ (T : List Tok), (∀ t ∈ T, goodT2W t) → ∀ (s s2 : Bs), okSW s.ops → runS T s = some s2 → okSW s2.ops
 | [], _, s, s2, h, hr => by cases hr; exact h
 | t :: T, hT, s, s2, h, hr => by
  rw [runS] at hr
  split at hr
  ·cases hr
  ·exact okS_runW T (fun u hu => hT u (by simp [hu])) _ s2 (okS_tokW (hT t (by simp)) h) hr
theorem okS_finW : ∀ (n : Nat) (ops : List Op), okSW ops → ops.length ≤ n + 1 → ∃ o, finO n ops = [o] ∧ swL false false false o.2.2 = true
 | n, [], h, _ => h.elim
 | 0, [o], h, _ => ⟨o, rfl, h.2⟩
 | n + 1, [o], h, _ => ⟨o, rfl, h.2⟩
 | 0, o :: o2 :: r, _, hl => by simp at hl
 | n + 1, o :: o2 :: r, h, hl => by
  rw [finO]
  exact okS_finW n _ (okS_shutW h) (by rw [shut_lenW]; simp at hl; omega)
theorem build_stableW {T : List Tok} (hT : ∀ t ∈ T, goodT2W t) {l : List Node} (h : buildL T = some l) : swL false false false l = true := by
 unfold buildL at h
 obtain ⟨s, hs, rfl⟩ := Option.map_eq_some_iff.1 h
 have h1 := okS_runW T hT _ s (show okSW [([], [], [])] from ⟨rfl, by rw [swL]⟩) hs
 obtain ⟨o, e, h2⟩ := okS_finW s.ops.length s.ops h1 (by omega)
 rw [e]
 exact h2
end Go.Proofs.YthngplknbbcecaaGreatDoor

namespace Go.Proofs.YthngplknbbcecaaGreatDoor
open Go.Aw
set_option maxHeartbeats 1600000
set_option linter.unusedSimpArgs false
set_option linter.unusedVariables false
def sumO : List Op → Nat
 | [] => 0
 | o :: r => szL o.2.2 + sumO r
def tot (ops : List Op) : Nat := sumO ops + ops.length
theorem szL_snoc (n : Node) : ∀ k : List Node, szL (k ++ [n]) = szL k + szN n
 | [] => by rw [List.nil_append, szL, szL]; simp [szL]
 | m :: k => by rw [List.cons_append, szL, szL, szL_snoc n k]; omega
theorem tot_put (n : Node) (o : Op) (r : List Op) : tot (putO n (o :: r)) = tot (o :: r) + szN n := by
 obtain ⟨a, b, k⟩ := o
 unfold tot
 show szL (k ++ [n]) + sumO r + (r.length + 1) = szL k + sumO r + (r.length + 1) + szN n
 rw [szL_snoc]; omega
theorem tot_shut (o o2 : Op) (r : List Op) : tot (shutO (o :: o2 :: r)) = tot (o :: o2 :: r) := by
 obtain ⟨a, b, k⟩ := o
 show tot (putO (.mk a b [] k) (o2 :: r)) = _
 rw [tot_put, szN]
 unfold tot
 simp only [sumO, List.length_cons]; omega
theorem tot_closeF (nm : List UInt8) : ∀ (n : Nat) (ops : List Op), tot (closeF nm n ops) = tot ops
 | 0, ops => by unfold closeF; rfl
 | n + 1, [] => by unfold closeF; rfl
 | n + 1, [o] => by unfold closeF; rfl
 | n + 1, o :: o2 :: r => by
  rw [closeF]
  split
  ·exact tot_shut _ _ _
  ·rw [tot_closeF nm n, tot_shut]
theorem tot_close (nm : List UInt8) (ops : List Op) : tot (closeO nm ops) = tot ops := by
 unfold closeO
 split
 ·exact tot_closeF _ _ _
 ·rfl
theorem tot_startO (nm : List UInt8) (ops : List Op) : tot (startO nm ops) = tot ops := by
 have h1 : tot (if nm ∈ blocks then closeO [112] ops else ops) = tot ops := by
  split
  ·exact tot_close _ _
  ·rfl
 unfold startO
 generalize (if nm ∈ blocks then closeO [112] ops else ops) = o1 at *
 show tot (if nm = [108, 105] ∧ liB o1 = true then closeO [108, 105] o1 else o1) = _
 split
 ·rw [tot_close, h1]
 ·exact h1
def okC (s : Bs) : Prop := tot s.ops ≤ s.cnt + 1 ∧ (s.full = false → s.cnt ≤ 2000)
theorem okC_count {ops : List Op} {c : Nat} {f : Bool} (h : tot ops ≤ c + 2) : okC (countS ⟨ops, c, f⟩) := by
 refine ⟨h, fun hf => ?_⟩
 have hf2 : (f || (decide (65 < ops.length) || decide (2000 < c + 1))) = false := hf
 simp only [Bool.or_eq_false_iff, decide_eq_false_iff_not] at hf2
 show c + 1 ≤ 2000
 omega
theorem okC_start {nm : List UInt8} {ats : List Attr} {s : Bs} (h : okC s) : okC (startS nm ats s) := by
 refine okC_count ?_
 have h1 := h.1
 rw [← tot_startO nm s.ops] at h1
 generalize startO nm s.ops = R at *
 split
 ·cases R with
  | nil => show tot [] ≤ _; unfold tot; simp [sumO]
  | cons o r => rw [tot_put, szN, szL]; omega
 ·unfold tot at *
  simp only [sumO, List.length_cons, szL]; omega
theorem okC_end (nm : List UInt8) {s : Bs} (h : okC s) : okC (endS nm s) := by
 unfold endS
 split
 ·exact ⟨by show tot (closeO nm s.ops) ≤ _; rw [tot_close]; exact h.1, h.2⟩
 ·split
  ·have h2 := okC_start (nm := nm) (ats := []) h
   exact ⟨by show tot (closeO nm (startS nm [] s).ops) ≤ _; rw [tot_close]; exact h2.1, h2.2⟩
  ·split
   ·exact okC_start h
   ·exact h
theorem szN_text (n : Node) (x : List UInt8) : szN (.mk n.name n.attrs (n.text ++ x) n.kids) = szN n := by
 cases n; rw [szN, szN]; rfl
theorem tot_addText (x : List UInt8) : ∀ ops : List Op, tot (addText x ops) = tot ops
 | [] => rfl
 | (a, b, k) :: r => by
  show tot (match k.getLast? with
   | some n => (a, b, k.dropLast ++ [.mk n.name n.attrs (n.text ++ x) n.kids]) :: r
   | none => (a, b, k) :: r) = _
  cases hg : k.getLast? with
  | none => rfl
  | some n =>
   obtain ⟨ys, hys⟩ := List.getLast?_eq_some_iff.1 hg
   show szL (k.dropLast ++ [.mk n.name n.attrs (n.text ++ x) n.kids]) + sumO r + (r.length + 1) = szL k + sumO r + (r.length + 1)
   rw [szL_snoc, szN_text, hys, List.dropLast_concat, szL_snoc]
theorem okC_text (x : List UInt8) {s : Bs} (h : okC s) : okC (textS x s) := by
 unfold textS
 split
 ·exact h
 ·split
  ·exact ⟨by show tot (addText x s.ops) ≤ _; rw [tot_addText]; exact h.1, h.2⟩
  ·refine okC_count ?_
   have h1 := h.1
   cases hh : s.ops with
   | nil => show tot [] ≤ _; unfold tot; simp [sumO]
   | cons o r => rw [hh] at h1; rw [tot_put, szN, szL]; omega
theorem okC_tok (t : Tok) {s : Bs} (h : okC s) : okC (tokS t s) := by
 unfold tokS
 split
 ·exact okC_text _ h
 ·split
  ·exact okC_start h
  ·split
   ·exact okC_end _ h
   ·exact h
theorem okC_run : ∀ (T : List Tok) (s s2 : Bs), okC s → s.full = false → runS T s = some s2 → okC s2 ∧ s2.full = false
 | [], s, s2, h, hf, hr => by cases hr; exact ⟨h, hf⟩
 | t :: T, s, s2, h, hf, hr => by
  rw [runS] at hr
  split at hr
  ·cases hr
  ·rename_i hn
   exact okC_run T _ s2 (okC_tok t h) (by simpa using hn) hr
theorem tot_fin : ∀ (n : Nat) (ops : List Op), tot (finO n ops) = tot ops
 | 0, ops => by unfold finO; rfl
 | n + 1, [] => by unfold finO; rfl
 | n + 1, [o] => by unfold finO; rfl
 | n + 1, o :: o2 :: r => by rw [finO, tot_fin n, tot_shut]
theorem build_size {T : List Tok} {l : List Node} (h : buildL T = some l) : szL l ≤ 2000 := by
 unfold buildL at h
 obtain ⟨s, hs, rfl⟩ := Option.map_eq_some_iff.1 h
 obtain ⟨h1, h2⟩ := okC_run T _ s (by refine ⟨?_, fun _ => ?_⟩ <;> simp [tot, sumO, szL]) rfl hs
 have h3 := h1.2 h2
 have h4 := tot_fin s.ops.length s.ops
 generalize finO s.ops.length s.ops = F at *
 cases F with
 | nil => exact Nat.zero_le _
 | cons o r =>
  obtain ⟨a, b, k⟩ := o
  have h5 := h1.1
  rw [← h4] at h5
  unfold tot at h5
  simp only [sumO, List.length_cons] at h5
  show szL k ≤ 2000
  omega
theorem nodup_of {ats : List Attr} (h : Uniq ats) : (ats.map (·.1)).Nodup := by
 rw [List.Nodup, List.pairwise_iff_getElem]
 intro i j hi hj hij
 simp only [List.getElem_map]
 exact h i j hij (by simpa using hj)
end Go.Proofs.YthngplknbbcecaaGreatDoor
