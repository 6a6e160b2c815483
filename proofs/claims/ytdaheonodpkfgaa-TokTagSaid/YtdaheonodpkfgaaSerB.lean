import Derived.Test.YtdaheonodpkfgaaSerA
import Derived.Test.YtdaheonodpkfgaaRefsP
namespace Go.Proofs.Ytdaheonodpkfgaa
open Go.Aw
set_option maxHeartbeats 1600000
set_option linter.unusedSimpArgs false
set_option linter.unusedVariables false

def rawB (s : List UInt8) : Bool := decide (s ∈ raws) || decide (s ∈ softs)
def attrsFrom : List (List UInt8) → List (List UInt8 × List UInt8) → Bool
  | _, [] => true
  | seen, a :: r => (small a.1 [45, 95, 58] && !decide (a.1 ∈ seen)) && attrsFrom (seen ++ [a.1]) r
def ownB (n : Node) : Bool := !(rawB n.name || !small n.name [45] || !decide (n.text = []) || decide (n.name ∈ voids) && !decide (n.kids = [])) && attrsFrom [] n.attrs
theorem rawV_fst (s : List UInt8) : rawV s = .tup [.d (.bool (rawB s)), .d (.bool (decide (s ∉ raws) && decide (s ∈ softs)))] := rfl

set_option maxRecDepth 100000 in
theorem rRaw_ok (s : List UInt8) : PureC Try.prog 16 [.d (.str s)] (rawV s) := by
  refine pure_okT Try.wf Try.tab_ok Try.func16 (by decide +kernel) rfl rfl rfl (rawV_pure s) ?_
  refine loopT Try.wf Try.tab_ok (fun n s' σ => ∃ k : Nat, n = raws.length - k ∧ k ≤ raws.length ∧ s ∉ raws.take k ∧ s' = [(0, .d (.str s)), (4, .own 0 0 7), (5, .d (.int .i64 k))] ∧ σ = ⟨1, [(0, .rows (1, 9) (raws.map fun x => [AV.d (.str x)]))]⟩)
    ⟨0, rfl, Nat.zero_le _, by simp, rfl, rfl⟩ (Mv.of [.old 0] rfl rfl rfl ⟨⟨rfl, .inl ⟨rfl, fun row h => by obtain ⟨x, _, rfl⟩ := List.mem_map.1 h; rfl⟩⟩, trivial⟩ ⟨rfl, ⟨rfl, rfl, rfl⟩, rfl, trivial⟩) ?_
  rintro _ _ _ ⟨k, rfl, hk, hI, rfl, rfl⟩
  have hrl : raws.length = 7 := rfl
  refine ⟨fun h => ?_, fun h => ?_⟩
  · have hlt : k < raws.length := by have := of_decide_eq_true h; rw [hrl]; omega
    have hrow : (raws.map fun x => [AV.d (.str x)])[((k : Nat) : Int).toNat]? = some [AV.d (.str raws[k])] := by rw [Int.toNat_natCast]; simp [hlt]
    refine ⟨⟨by omega, by omega⟩, _, hrow, _, rfl, ?_⟩
    refine ⟨fun h1 => ?_, fun h1 => ?_⟩
    · have h1' := of_decide_eq_true h1
      have hm : s ∈ raws := h1' ▸ List.getElem_mem hlt
      refine ⟨_, _, fin_out rfl, ?_⟩
      show AV.tup [.d (.bool true), .d (.bool false)] = rawV s
      simp [rawV, hm]
    · have h1' := of_decide_eq_false h1
      refine .inl ⟨⟨by omega, by omega⟩, _, _, _, ⟨k + 1, rfl, hlt, ?_, rfl, rfl⟩, by omega, Mv.of [.old 0] rfl rfl rfl ⟨⟨rfl, .inl ⟨rfl, fun row h => by obtain ⟨x, _, rfl⟩ := List.mem_map.1 h; rfl⟩⟩, trivial⟩ ⟨rfl, ⟨rfl, rfl, rfl⟩, rfl, trivial⟩⟩
      rw [List.take_succ_eq_append_getElem hlt]
      simp only [List.mem_append, not_or, List.mem_singleton]
      exact ⟨hI, fun e => h1' e.symm⟩
  · have hk' : k = raws.length := by have := of_decide_eq_false h; rw [hrl] at hk ⊢; omega
    subst hk'
    rw [List.take_length] at hI
    have yes2 : ∀ σ : Store, s ∈ softs → ∃ r2 σ2, FinMove ⟨0, []⟩ (AV.tup [.d (.bool true), .d (.bool true)]) σ r2 σ2 ∧ r2 = rawV s := fun σ h => ⟨_, _, fin_out rfl, by simp [rawV, h, hI]⟩
    have e1 : (s ∈ softs) ↔ (s = [116, 101, 120, 116, 97, 114, 101, 97] ∨ s = [116, 105, 116, 108, 101]) := by simp [softs]
    by_cases h1 : s = [116, 101, 120, 116, 97, 114, 101, 97]
    · subst h1
      repeat (first | refine ⟨fun _ => ?_, fun h => absurd h (by decide)⟩ | refine ⟨fun h => absurd h (by decide), fun _ => ?_⟩)
      exact ⟨_, _, fin_out rfl, rfl⟩
    · refine ⟨fun _ => ?_, fun h => absurd (of_decide_eq_true h) h1⟩
      refine ⟨_, _, fin_out rfl, ?_⟩
      have e2 : decide (s ∈ softs) = decide (s = [116, 105, 116, 108, 101]) := by rw [decide_eq_decide, e1]; simp [h1]
      show AV.tup [.d (.bool (decide (s = [116, 105, 116, 108, 101]))), .d (.bool (decide (s = [116, 105, 116, 108, 101])))] = rawV s
      rw [← e2]
      simp [rawV, hI]

theorem others_step (c : UInt8) (o : List UInt8) (k : Nat) (h : k < o.length) : decide (c ∈ o.take (k + 1)) = (decide (c ∈ o.take k) || decide (c = o[k])) := by
  rw [List.take_succ_eq_append_getElem h, ← Bool.decide_or, decide_eq_decide, List.mem_append, List.mem_singleton]

def Short (l : List (List UInt8 × List UInt8)) : Prop := l.length ≤ 1000000000 ∧ ∀ a ∈ l, a.1.length ≤ 1000000000 ∧ a.2.length ≤ 1000000000

end Go.Proofs.Ytdaheonodpkfgaa
