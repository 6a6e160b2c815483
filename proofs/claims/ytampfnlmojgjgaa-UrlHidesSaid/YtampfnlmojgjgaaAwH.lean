/- The abstract walk, seventeenth part: small words for walks. -/
import Derived.Test.YtampfnlmojgjgaaAwE
namespace Go.Aw
set_option linter.unusedVariables false
section
variable {P : Program}
/-- An object is frozen ahead of a call; the arguments, told so. -/
theorem CallsAbs.freezeTo {f : FuncId} {args args' : List AV} {σ : Store} {K : AV → Store → Prop} (i : Nat) {sz : Nat × Nat} {rs : List (List AV)} {ds : List (List D)} (ho : σ.get i = .rows sz rs) (hds : rowsD rs = some ds) (hle : frzOkL i rs.length args)
    (he : frzL i ds args = args') (h : CallsAbs P f args' (σ.set i .dead) K) : CallsAbs P f args σ K := CallsAbs.freeze i ho hds hle (he ▸ h)
theorem frz_whole (i : Nat) (ds : List (List D)) (n : Nat) (h : n = ds.length) : frz i ds (.own i 0 n) = .d (.sl ds) := by
  subst h; simp [frz, frz1, Nat.beq_refl]
end
end Go.Aw
