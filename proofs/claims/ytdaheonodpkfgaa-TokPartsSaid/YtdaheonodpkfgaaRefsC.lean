import Derived.Test.YtdaheonodpkfgaaRefsB
namespace Go.Proofs.Ytdaheonodpkfgaa
open Go.Aw
set_option maxHeartbeats 1600000
set_option linter.unusedSimpArgs false
set_option linter.unusedVariables false

theorem head_of {c : UInt8} {a r s out : List UInt8} (hI : out ++ resolve (a ++ 38 :: r) = resolve s) (ha : (38 : UInt8) ∉ a) : (out ++ a) ++ resolve (38 :: r) = resolve s := by
  rw [resolve_plain a _ ha] at hI; rw [List.append_assoc]; exact hI

set_option maxRecDepth 100000 in
theorem Resolve_ok (s : List UInt8) (hs : s.length ≤ 140737488355000) : PureC Try.prog 18 [.d (.str s)] (.d (.str (resolve s))) := by
  refine PureC.of rfl rfl (fn_okTE Try.wf Try.tab_ok Try.func18 (by decide +kernel) rfl rfl ?_)
  refine E.seq (E.of Try.wf Try.tab_ok ?_)
  refine scopeE ?_
  refine E.of Try.wf Try.tab_ok ?_
  have hsl := resolve_len s.length s (Nat.le_refl _)
  refine loopE (fun n s' σ => ∃ t out : List UInt8, n = t.length ∧ t.length ≤ s.length ∧ out ++ resolve t = resolve s ∧ s' = [(0, .d (.str t)), (3, .ref 0 0 0)] ∧ σ = ⟨1, [(0, .bld 52 5 out)]⟩)
    ⟨s, [], rfl, Nat.le_refl _, rfl, rfl, rfl⟩ (Mv.of [.old 0] rfl rfl rfl ⟨⟨rfl, rfl, rfl⟩, trivial⟩ ⟨rfl, ⟨rfl, rfl, rfl⟩, trivial⟩) ?_
  rintro _ _ _ ⟨t, out, rfl, htl, hI, rfl, rfl⟩
  have hol : out.length ≤ s.length := by have := congrArg List.length hI; simp at this; omega
  refine blockE ?_
  refine E.seq (E.of Try.wf Try.tab_ok ?_)
  by_cases hm : (38 : UInt8) ∈ t
  · obtain ⟨a, r, rfl, ha⟩ := split_first hm
    have c1 := IndexByte_ok (a ++ 38 :: r) 38
    rw [idxB_some ha] at c1
    have hI2 := head_of (c := 38) hI ha
    simp only [List.length_append, List.length_cons] at htl
    have hoa : out.length + a.length ≤ s.length := by have := congrArg List.length hI2; simp at this; omega
    refine PureC.use c1 ?_
    refine E.seq (E.of Try.wf Try.tab_ok ?_)
    refine ⟨fun h => absurd (of_decide_eq_true h) (by omega), fun _ => ?_⟩
    refine E.seq (E.of Try.wf Try.tab_ok ?_)
    refine ⟨⟨by omega, by omega, by simp; omega⟩, ?_⟩
    refine CallsAbs.to [.ref 0 0 0, .d (.str a)] (congrArg (fun x => [AV.ref 0 0 0, .d (.str x)]) (by simp)) ?_
    refine CallsAbs.frame (WriteString_ok out a (by omega)) [.old 0] ⟨Nat.zero_le _, rfl, rfl, ⟨⟨rfl, rfl, rfl⟩, trivial⟩⟩ ⟨⟨rfl, rfl, rfl⟩, rfl, trivial⟩ ?_
    rintro _ _ ⟨rfl, rfl⟩
    refine ⟨.tup [.d (.int .i64 a.length), .nili], [(0, .bld 52 5 (out ++ a))], ⟨⟨rfl, rfl, rfl⟩, trivial⟩, rfl, ⟨rfl, trivial, trivial⟩, ?_⟩
    refine midT Try.wf Try.tab_ok (fun s' σ => s' = [(0, .d (.str (38 :: r))), (3, .ref 0 0 0)] ∧ σ = ⟨1, [(0, .bld 52 5 (out ++ a))]⟩) ?_ ?_
    · refine ⟨⟨by omega, by simp; omega, by simp⟩, _, _, ⟨rfl, rfl⟩, Mv.of [.old 0] rfl rfl rfl ⟨⟨rfl, rfl, rfl⟩, trivial⟩ ⟨congrArg D.str (tail_at a _).symm, ⟨rfl, rfl, rfl⟩, trivial⟩⟩
    rintro _ _ ⟨rfl, rfl⟩
    generalize out ++ a = out2 at *
    have hol2 : out2.length ≤ s.length := by have := congrArg List.length hI2; simp at this; omega
    have hol3 : oneR r = none → out2.length + 1 ≤ s.length := fun h => by
      rw [resolve_amp, h] at hI2
      have := congrArg List.length hI2; simp at this; omega
    -- one byte is passed over
    have pass : oneR r = none → (out2 ++ [38]) ++ resolve r = resolve s := fun h => by
      rw [resolve_amp, h] at hI2; simpa using hI2
    refine E.of Try.wf Try.tab_ok ?_
    have hmin : (if (12 : Int) < (((38 :: r : List UInt8).length : Nat) : Int) then (12 : Int) else (((38 :: r : List UInt8).length : Nat) : Int)) = ((min 12 (r.length + 1) : Nat) : Int) := by
      simp only [List.length_cons]
      split <;> omega
    refine ⟨⟨by omega, by rw [hmin]; omega, by rw [hmin]; simp; omega⟩, ?_⟩
    refine CallsAbs.to [.d (.str (38 :: r.take 11)), .d (.int .u8 59)] (congrArg (fun x => [AV.d (.str x), .d (.int .u8 59)]) ?_) ?_
    · rw [hmin, Int.toNat_natCast, Int.toNat_zero, List.drop_zero]
      by_cases h : 11 ≤ r.length
      · rw [Nat.min_eq_left (by omega)]; rfl
      · rw [Nat.min_eq_right (by omega), List.take_of_length_le (by simp), List.take_of_length_le (by omega)]
    have c2 := IndexByte_ok (38 :: r.take 11) 59
    by_cases h59 : (59 : UInt8) ∈ r.take 11
    · obtain ⟨x, y, rfl, hx, hxl⟩ := split_take r h59
      have ht : (x ++ 59 :: y).take 11 = x ++ 59 :: y.take (10 - x.length) := by
        rw [List.take_append, List.take_of_length_le (by omega)]
        congr 1
        rw [show 11 - x.length = (10 - x.length) + 1 by omega]; rfl
      have hidx : idxB 59 (38 :: (x ++ 59 :: y).take 11) = ((x.length + 1 : Nat) : Int) := by
        rw [ht]
        have := idxB_some (c := 59) (a := 38 :: x) (b := y.take (10 - x.length)) (by simp [hx])
        simpa using this
      rw [hidx] at c2
      refine PureC.use c2 ⟨fun _ => ?_, fun h => absurd (of_decide_eq_false h) (by omega)⟩
      refine ⟨⟨by omega, by omega, by simp; omega⟩, ?_⟩
      refine CallsAbs.to [.d (.str x)] (congrArg (fun x => [AV.d (.str x)]) ?_) ?_
      · rw [Int.toNat_natCast]
        show (List.take x.length (x ++ 59 :: y)).drop 0 = x
        simp
      have c3 := stands_ok x (by simp at htl; omega)
      have ho := oneR_some x y hx hxl
      cases hst : stands x with
      | none =>
        rw [hst] at c3 ho
        refine PureC.use c3 ⟨fun h => absurd h (by decide), fun _ => ?_⟩
        refine CallsAbs.frame (WriteByte_ok out2 38 (by have := hol3 ho; omega)) [.old 0] ⟨Nat.zero_le _, rfl, rfl, ⟨⟨rfl, rfl, rfl⟩, trivial⟩⟩ ⟨⟨rfl, rfl, rfl⟩, rfl, trivial⟩ ?_
        rintro _ _ ⟨rfl, rfl⟩
        refine ⟨.nili, [(0, .bld 52 5 (out2 ++ [38]))], ⟨⟨rfl, rfl, rfl⟩, trivial⟩, rfl, trivial, ?_⟩
        exact ⟨⟨by omega, by simp; omega, by simp⟩, _, _, _, ⟨x ++ 59 :: y, _, rfl, by simp at htl ⊢; omega, pass ho, rfl, rfl⟩, by simp; omega, Mv.of [.old 0] rfl rfl rfl ⟨⟨rfl, rfl, rfl⟩, trivial⟩ ⟨congrArg D.str (tail_at [38] _).symm, ⟨rfl, rfl, rfl⟩, trivial⟩⟩
      | some u =>
        rw [hst] at c3 ho
        rw [resolve_amp, ho] at hI2
        dsimp only [Option.map_some] at hI2
        have hul := stands_len hst
        refine PureC.use c3 ⟨fun _ => ?_, fun h => absurd h (by decide)⟩
        refine CallsAbs.frame (WriteString_ok out2 u (by omega)) [.old 0] ⟨Nat.zero_le _, rfl, rfl, ⟨⟨rfl, rfl, rfl⟩, trivial⟩⟩ ⟨⟨rfl, rfl, rfl⟩, rfl, trivial⟩ ?_
        rintro _ _ ⟨rfl, rfl⟩
        refine ⟨.tup [.d (.int .i64 u.length), .nili], [(0, .bld 52 5 (out2 ++ u))], ⟨⟨rfl, rfl, rfl⟩, trivial⟩, rfl, ⟨rfl, trivial, trivial⟩, ?_⟩
        refine .inl ⟨⟨by omega, by omega⟩, ⟨by omega, by simp; omega, by simp⟩, _, _, _, ⟨y, out2 ++ u, rfl, by simp at htl ⊢; omega, by rw [List.append_assoc]; exact hI2, rfl, rfl⟩, by simp; omega, Mv.of [.old 0] rfl rfl rfl ⟨⟨rfl, rfl, rfl⟩, trivial⟩ ⟨congrArg D.str ?_, ⟨rfl, rfl, rfl⟩, trivial⟩⟩
        exact tail_of (38 :: x ++ [59]) y _ _ _ (by simp) (by simp) rfl
    · have hno : idxB 59 (38 :: r.take 11) = -1 := idxB_none (by simp [h59])
      rw [hno] at c2
      have ho := oneR_none r h59
      refine PureC.use c2 ⟨fun h => absurd h (by decide), fun _ => ?_⟩
      refine CallsAbs.frame (WriteByte_ok out2 38 (by have := hol3 ho; omega)) [.old 0] ⟨Nat.zero_le _, rfl, rfl, ⟨⟨rfl, rfl, rfl⟩, trivial⟩⟩ ⟨⟨rfl, rfl, rfl⟩, rfl, trivial⟩ ?_
      rintro _ _ ⟨rfl, rfl⟩
      refine ⟨.nili, [(0, .bld 52 5 (out2 ++ [38]))], ⟨⟨rfl, rfl, rfl⟩, trivial⟩, rfl, trivial, ?_⟩
      exact ⟨⟨by omega, by simp; omega, by simp⟩, _, _, _, ⟨r, _, rfl, by omega, pass ho, rfl, rfl⟩, by simp; omega, Mv.of [.old 0] rfl rfl rfl ⟨⟨rfl, rfl, rfl⟩, trivial⟩ ⟨congrArg D.str (tail_at [38] _).symm, ⟨rfl, rfl, rfl⟩, trivial⟩⟩
  · have c1 := IndexByte_ok t 38
    rw [idxB_none hm] at c1
    refine PureC.use c1 ?_
    refine E.of Try.wf Try.tab_ok ⟨fun _ => ?_, fun h => absurd h (by decide)⟩
    rw [resolve_same t hm] at hI
    have hlen : out.length + t.length ≤ s.length := by have := congrArg List.length hI; simp at this; omega
    refine CallsAbs.frame (WriteString_ok out t (by omega)) [.old 0] ⟨Nat.zero_le _, rfl, rfl, ⟨⟨rfl, rfl, rfl⟩, trivial⟩⟩ ⟨⟨rfl, rfl, rfl⟩, rfl, trivial⟩ ?_
    rintro _ _ ⟨rfl, rfl⟩
    refine ⟨.tup [.d (.int .i64 t.length), .nili], [(0, .bld 52 5 (out ++ t))], ⟨⟨rfl, rfl, rfl⟩, trivial⟩, rfl, ⟨rfl, trivial, trivial⟩, ?_⟩
    refine CallsAbs.frame (String_ok (out ++ t) (by simp; omega)) [.old 0] ⟨Nat.zero_le _, rfl, rfl, ⟨⟨rfl, rfl, rfl⟩, trivial⟩⟩ ⟨⟨rfl, rfl, rfl⟩, trivial⟩ ?_
    rintro _ _ ⟨rfl, rfl⟩
    refine ⟨.d (.str (out ++ t)), [(0, .dead)], ⟨trivial, trivial⟩, rfl, rfl, ?_⟩
    exact ⟨_, _, fin_out rfl, congrArg (fun x => AV.d (.str x)) hI, rfl⟩

end Go.Proofs.Ytdaheonodpkfgaa
