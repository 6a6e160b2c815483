import Derived.Test.YtdaheonodpkfgaaUtf
namespace Go.Proofs.Ytdaheonodpkfgaa
open Go.Aw
set_option maxHeartbeats 1600000
set_option linter.unusedSimpArgs false
set_option linter.unusedVariables false

def strsD (l : List (List UInt8)) : List (List D) := l.map fun s => [.str s]
theorem strsD_len (l : List (List UInt8)) : (strsD l).length = l.length := by simp [strsD]
theorem strsD_get (l : List (List UInt8)) (k : Nat) (h : k < l.length) : (strsD l)[((k : Nat) : Int).toNat]? = some [.str l[k]] := by simp [strsD, h]
def seek (l : List (List UInt8)) (v : List UInt8) : Int := if v ∈ l then ((l.findIdx fun x => decide (v = x) : Nat) : Int) else -1

def hasPre (s p : List UInt8) : Bool := decide (p.length ≤ s.length) && decide (s.take p.length = p)
set_option maxRecDepth 10000 in
theorem lHasPrefix_ok (s p : List UInt8) : PureC Try.prog 53 [.d (.str s), .d (.str p)] (.d (.bool (hasPre s p))) := by
  refine pure_okT Try.wf Try.tab_ok Try.func53 (by decide +kernel) rfl rfl rfl rfl ?_
  refine ⟨fun h => ?_, fun h => ?_⟩
  · have h' : p.length ≤ s.length := by have := of_decide_eq_true h; omega
    refine ⟨⟨by omega, by omega, by omega⟩, _, _, FinMove.refl _ _ _, congrArg (fun b => AV.d (.bool b)) ?_⟩
    simp [hasPre, h']
  · have h' : ¬ p.length ≤ s.length := by have := of_decide_eq_false h; omega
    refine ⟨_, _, FinMove.refl _ _ _, congrArg (fun b => AV.d (.bool b)) ?_⟩
    simp [hasPre, h']
theorem HasPrefix_ok (s p : List UInt8) : PureC Try.prog 35 [.d (.str s), .d (.str p)] (.d (.bool (hasPre s p))) := by
  refine pure_okT Try.wf Try.tab_ok Try.func35 (by decide +kernel) rfl rfl rfl rfl ?_
  exact PureC.use (lHasPrefix_ok s p) ⟨_, _, FinMove.refl _ _ _, rfl⟩

theorem IndexByteString_ok (s : List UInt8) (c : UInt8) : PureC Try.prog 65 [.d (.str s), .d (.int .u8 c.toNat)] (.d (.int .i64 (idxB c s))) :=
  indexByte_abs Try.func65 (by decide +kernel) rfl (by kernel_rfl) (by kernel_rfl) s c
set_option maxRecDepth 10000 in
theorem lIndexByte_ok (s : List UInt8) (c : UInt8) : PureC Try.prog 48 [.d (.str s), .d (.int .u8 c.toNat)] (.d (.int .i64 (idxB c s))) := by
  refine pure_okT Try.wf Try.tab_ok Try.func48 (by decide +kernel) rfl rfl rfl rfl ?_
  exact PureC.use (IndexByteString_ok s c) ⟨_, _, FinMove.refl _ _ _, rfl⟩
set_option maxRecDepth 10000 in
theorem IndexByte_ok (s : List UInt8) (c : UInt8) : PureC Try.prog 27 [.d (.str s), .d (.int .u8 c.toNat)] (.d (.int .i64 (idxB c s))) := by
  refine pure_okT Try.wf Try.tab_ok Try.func27 (by decide +kernel) rfl rfl rfl rfl ?_
  exact PureC.use (lIndexByte_ok s c) ⟨_, _, FinMove.refl _ _ _, rfl⟩

def cutPre (s p : List UInt8) : AV := if hasPre s p then .tup [.d (.str (s.drop p.length)), .d (.bool true)] else .tup [.d (.str s), .d (.bool false)]
theorem cutPre_pure (s p : List UInt8) : (cutPre s p).pure = true := by unfold cutPre; split <;> rfl
set_option maxRecDepth 10000 in
theorem lCutPrefix_ok (s p : List UInt8) : PureC Try.prog 67 [.d (.str s), .d (.str p)] (cutPre s p) := by
  refine pure_okT Try.wf Try.tab_ok Try.func67 (by decide +kernel) rfl rfl rfl (cutPre_pure s p) ?_
  refine PureC.use (lHasPrefix_ok s p) ⟨fun h => ?_, fun h => ?_⟩
  · have h : hasPre s p = false := by simpa using h
    exact ⟨_, _, FinMove.refl _ _ _, by rw [cutPre, h]; rfl⟩
  · have h : hasPre s p = true := by simpa using h
    have hl : p.length ≤ s.length := by unfold hasPre at h; simp at h; exact h.1
    exact ⟨⟨by omega, by omega, by omega⟩, _, _, FinMove.refl _ _ _, by rw [cutPre, if_pos h]; exact congrArg (fun x => AV.tup [.d (.str x), .d (.bool true)]) (by simp)⟩
set_option maxRecDepth 10000 in
theorem CutPrefix_ok (s p : List UInt8) : PureC Try.prog 50 [.d (.str s), .d (.str p)] (cutPre s p) := by
  have c := lCutPrefix_ok s p
  refine pure_okT Try.wf Try.tab_ok Try.func50 (by decide +kernel) rfl rfl rfl (cutPre_pure s p) ?_
  unfold cutPre at c ⊢
  split at c
  · rename_i h; rw [if_pos h]; exact PureC.use c ⟨_, _, FinMove.refl _ _ _, rfl⟩
  · rename_i h; rw [if_neg h]; exact PureC.use c ⟨_, _, FinMove.refl _ _ _, rfl⟩
theorem getD_at (s : List UInt8) (k : Nat) (h : k < s.length) : s.getD ((k : Nat) : Int).toNat 0 = s[k] := by
  rw [Int.toNat_natCast, List.getD_eq_getElem?_getD, List.getElem?_eq_getElem h, Option.getD_some]

end Go.Proofs.Ytdaheonodpkfgaa
