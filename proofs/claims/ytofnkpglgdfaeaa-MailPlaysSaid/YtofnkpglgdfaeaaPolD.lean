import Derived.Test.YtofnkpglgdfaeaaPolC
namespace Go.Proofs.Ytofnkpglgdfaeaa
open Go.Aw
set_option maxHeartbeats 1600000
set_option linter.unusedSimpArgs false
set_option linter.unusedVariables false

def chkV (l : List Pol) : AV := .tup [.d (.int .i64 (chainB l).1), .d (.int .i64 (chainB l).2)]
theorem zero_fits : Fits zeroPol := ⟨⟨by decide, by simp [zeroPol]⟩, ⟨by decide, by simp [zeroPol]⟩, ⟨by decide, by simp [zeroPol]⟩, ⟨by decide, by simp [zeroPol]⟩, ⟨by decide, by simp [zeroPol]⟩⟩

theorem polsRows (l : List Pol) : ∀ row ∈ (polsD l).map (fun r => r.map AV.d), row.length = 9 ∧ ∀ a ∈ row, a.one = true := by
  intro row h
  obtain ⟨r, hr, rfl⟩ := List.mem_map.1 h
  unfold polsD at hr
  obtain ⟨x, _, rfl⟩ := List.mem_map.1 hr
  refine ⟨rfl, fun a ha => ?_⟩
  obtain ⟨y, _, rfl⟩ := List.mem_map.1 ha
  rfl
theorem pols_rowsD (l : List Pol) : rowsD ((polsD l).map fun r => r.map AV.d) = some (polsD l) := rowsD_d _
def addV (l : List Pol) (p : Pol) : AV :=
  if (chainB l).1 = 0 then
    if (chainB (l ++ [p])).1 = 0 then .tup [.d (.sl (polsD (l ++ [p]))), .d (.int .i64 0)] else .tup [.d (.sl []), .d (.int .i64 (chainB (l ++ [p])).1)]
  else .tup [.d (.sl []), .d (.int .i64 (chainB l).1)]
theorem addV_pure (l : List Pol) (p : Pol) : (addV l p).pure = true := by unfold addV; split <;> (try split) <;> rfl

/-- The policy of an epoch. -/
def atP (e : Int) : List Pol → Option Pol
  | [] => none
  | p :: r => if p.ep = e then some p else atP e r
def atV (l : List Pol) (e : Int) : AV := match atP e l with
  | some p => .tup [polA p, .d (.bool true)]
  | none => .tup [polA zeroPol, .d (.bool false)]
theorem atV_pure (l : List Pol) (e : Int) : (atV l e).pure = true := by unfold atV; split <;> rfl

end Go.Proofs.Ytofnkpglgdfaeaa
