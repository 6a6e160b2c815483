/-
  No cell of these rows narrows 'for every input' (looked for: loops, veiled, ifaces, maps, wideKeys, modest, calm, conditions, laid).
  DERIVED. THE GIVEN ROWS OF THIS SEAT. 5 by the template 'for every input the law returns true; each argument reads behind the call as it read before'; 0 by the template 'total and deterministic' (their statements: YtdclbemjbcmhdaaTotals.lean).
  GIVEN WITH THE SEED: the statements are not yours to turn. If you find one false, say at which input.
  Laid BY PROGRAM, IN A SANDBOX (cutbox-rows.mjs): the forced cells as the released guide's own fill.sh prints them over the translation db9e97e22807ab8f… (all of the seat's roots in one cut). By AI agents, Wed Nov 11 2026. No macro, syntax, notation, axiom, sorry.
-/
import Derived.Test.YtdclbemjbcmhdaaChecked
import GoSem.Claim
import GoSem.ClaimJoined
import GoSem.ClaimMapViews
import Derived.JoinedTies
import Derived.KernelRfl
namespace Go.Proofs.Ytdclbemjbcmhdaa
/- THE CELL 'sum', in the pinned program and in every row, IS THE sha256 OF THE DUMP (.gsa) THAT YtdclbemjbcmhdaaProg.lean LOADS. Nothing in Lean hashes anything: it is a label: what it is worth is what the hold of that sum in a sandbox is worth. -/
noncomputable def Try.pinned : Pinned := { name := "ytdclbemjbcmhdaa", sum := "db9e97e22807ab8f6da674c1c163b1556d9865e440c8904167c96fa6721e2c6f", checked := Try.checked }
namespace Rows
def none {H : Type} : Left H := { results := [], args := [] }

/-- 'versolaw09.ChainChecks': WHATEVER THE INPUT: true; the input reads as it did. -/
def chainChecksSpec : ChangeSpec := { name := "chainChecks", fn := fun _ => fun
  | [d] => { results := [.lit (.bool true)], args := [d] }
  | _ => none }
def chainChecksRow : OpenClaim := { program := "ytdclbemjbcmhdaa", sum := "db9e97e22807ab8f6da674c1c163b1556d9865e440c8904167c96fa6721e2c6f", func := "verso/versolaw09.ChainChecks", spec := "chainChecks", inPlace := ["internal/bytealg.IndexByteString", "internal/bytealg.IndexString"], unfollowed := true, recurses := true, named := ["internal/bytealg.MaxLen"], apart := false }
def ChainChecksSaid : Prop := chainChecksRow.holds Try.pinned (OpenSpec.ofChange chainChecksSpec)

/-- ITS FALSE NEIGHBOUR: 'it returns false'. Refute it at one input. -/
def chainChecksWrong : ChangeSpec := { name := "chainChecks", fn := fun _ => fun
  | [d] => { results := [.lit (.bool false)], args := [d] }
  | _ => none }
def ChainChecksWrongFalsely : Prop := chainChecksRow.holds Try.pinned (OpenSpec.ofChange chainChecksWrong)

/-- 'versolaw09.ChainGrows': WHATEVER THE INPUT: true; the input reads as it did. -/
def chainGrowsSpec : ChangeSpec := { name := "chainGrows", fn := fun _ => fun
  | [d] => { results := [.lit (.bool true)], args := [d] }
  | _ => none }
def chainGrowsRow : OpenClaim := { program := "ytdclbemjbcmhdaa", sum := "db9e97e22807ab8f6da674c1c163b1556d9865e440c8904167c96fa6721e2c6f", func := "verso/versolaw09.ChainGrows", spec := "chainGrows", inPlace := ["internal/bytealg.IndexByteString", "internal/bytealg.IndexString"], unfollowed := true, recurses := true, named := ["internal/bytealg.MaxLen"], apart := false }
def ChainGrowsSaid : Prop := chainGrowsRow.holds Try.pinned (OpenSpec.ofChange chainGrowsSpec)

/-- ITS FALSE NEIGHBOUR: 'it returns false'. Refute it at one input. -/
def chainGrowsWrong : ChangeSpec := { name := "chainGrows", fn := fun _ => fun
  | [d] => { results := [.lit (.bool false)], args := [d] }
  | _ => none }
def ChainGrowsWrongFalsely : Prop := chainGrowsRow.holds Try.pinned (OpenSpec.ofChange chainGrowsWrong)

/-- 'versolaw09.ChainSteps': WHATEVER THE INPUT: true; the input reads as it did. -/
def chainStepsSpec : ChangeSpec := { name := "chainSteps", fn := fun _ => fun
  | [d1, d2] => { results := [.lit (.bool true)], args := [d1, d2] }
  | _ => none }
def chainStepsRow : OpenClaim := { program := "ytdclbemjbcmhdaa", sum := "db9e97e22807ab8f6da674c1c163b1556d9865e440c8904167c96fa6721e2c6f", func := "verso/versolaw09.ChainSteps", spec := "chainSteps", inPlace := ["internal/bytealg.IndexByteString", "internal/bytealg.IndexString"], unfollowed := true, recurses := true, named := ["internal/bytealg.MaxLen"], apart := false }
def ChainStepsSaid : Prop := chainStepsRow.holds Try.pinned (OpenSpec.ofChange chainStepsSpec)

/-- ITS FALSE NEIGHBOUR: 'it returns false'. Refute it at one input. -/
def chainStepsWrong : ChangeSpec := { name := "chainSteps", fn := fun _ => fun
  | [d1, d2] => { results := [.lit (.bool false)], args := [d1, d2] }
  | _ => none }
def ChainStepsWrongFalsely : Prop := chainStepsRow.holds Try.pinned (OpenSpec.ofChange chainStepsWrong)

/-- 'versolaw09.ChainAdds': WHATEVER THE INPUT: true; the input reads as it did. -/
def chainAddsSpec : ChangeSpec := { name := "chainAdds", fn := fun _ => fun
  | [d1, d2, d3] => { results := [.lit (.bool true)], args := [d1, d2, d3] }
  | _ => none }
def chainAddsRow : OpenClaim := { program := "ytdclbemjbcmhdaa", sum := "db9e97e22807ab8f6da674c1c163b1556d9865e440c8904167c96fa6721e2c6f", func := "verso/versolaw09.ChainAdds", spec := "chainAdds", inPlace := ["internal/bytealg.IndexByteString", "internal/bytealg.IndexString"], unfollowed := true, recurses := true, named := ["internal/bytealg.MaxLen"], apart := false }
def ChainAddsSaid : Prop := chainAddsRow.holds Try.pinned (OpenSpec.ofChange chainAddsSpec)

/-- ITS FALSE NEIGHBOUR: 'it returns false'. Refute it at one input. -/
def chainAddsWrong : ChangeSpec := { name := "chainAdds", fn := fun _ => fun
  | [d1, d2, d3] => { results := [.lit (.bool false)], args := [d1, d2, d3] }
  | _ => none }
def ChainAddsWrongFalsely : Prop := chainAddsRow.holds Try.pinned (OpenSpec.ofChange chainAddsWrong)

/-- 'versolaw09.ChainBegins': WHATEVER THE INPUT: true; the input reads as it did. -/
def chainBeginsSpec : ChangeSpec := { name := "chainBegins", fn := fun _ => fun
  | [d1, d2] => { results := [.lit (.bool true)], args := [d1, d2] }
  | _ => none }
def chainBeginsRow : OpenClaim := { program := "ytdclbemjbcmhdaa", sum := "db9e97e22807ab8f6da674c1c163b1556d9865e440c8904167c96fa6721e2c6f", func := "verso/versolaw09.ChainBegins", spec := "chainBegins", inPlace := ["internal/bytealg.IndexByteString", "internal/bytealg.IndexString"], unfollowed := true, recurses := true, named := ["internal/bytealg.MaxLen"], apart := false }
def ChainBeginsSaid : Prop := chainBeginsRow.holds Try.pinned (OpenSpec.ofChange chainBeginsSpec)

/-- ITS FALSE NEIGHBOUR: 'it returns false'. Refute it at one input. -/
def chainBeginsWrong : ChangeSpec := { name := "chainBegins", fn := fun _ => fun
  | [d1, d2] => { results := [.lit (.bool false)], args := [d1, d2] }
  | _ => none }
def ChainBeginsWrongFalsely : Prop := chainBeginsRow.holds Try.pinned (OpenSpec.ofChange chainBeginsWrong)

/- THE SECOND FORM. 'bulk': how many values and letters a reading holds, each counted each time it is reached (what is shared counts as often as it is met; a slice's spare places count too). A statement '..UptoSaid' is the law's where the arguments, and the package variables that the reading takes, are together of bulk at most 1048576: NARROWER than '..Said'. Prove '..Said' where nothing that the law and all that it calls make is longer than what came in: it says more and counts as full. Else prove '..UptoSaid'. A law counts once. -/
mutual
def uptoBulk {H : Type} : DataW H → Nat
  | .lit (.string bytes) => bytes.length + 1
  | .lit _ => 1
  | .nil => 1
  | .ptr d => uptoBulk d + 1
  | .slice elems spare => uptoBulkAll elems + uptoBulkAll spare + 1
  | .agg parts => uptoBulkAll parts + 1
  | .iface _ d => uptoBulk d + 1
  | .map entries => uptoBulkEntries entries + 1
  | .held _ => 1
def uptoBulkAll {H : Type} : List (DataW H) → Nat
  | [] => 0
  | d :: r => uptoBulk d + uptoBulkAll r
def uptoBulkEntries {H : Type} : List (Lit × DataW H) → Nat
  | [] => 0
  | x :: r => uptoBulkEntry x + uptoBulkEntries r
def uptoBulkEntry {H : Type} : Lit × DataW H → Nat
  | (.string bytes, d) => bytes.length + uptoBulk d + 1
  | (_, d) => uptoBulk d + 1
 end
def uptoSmall : (H : Type) → List (DataW H) → Bool := fun _ ds => decide (uptoBulkAll ds ≤ 1048576)
def OpenSpec.upto (s : _root_.Go.ChangeSpec) : _root_.Go.OpenSpec := { _root_.Go.OpenSpec.ofChange s with cond := some uptoSmall }

/-- 'versolaw09.ChainChecks', WHERE WHAT IT READS IS OF BULK AT MOST 1048576: true; the input reads as it did. -/
def chainChecksUptoRow : OpenClaim := { program := "ytdclbemjbcmhdaa", sum := "db9e97e22807ab8f6da674c1c163b1556d9865e440c8904167c96fa6721e2c6f", func := "verso/versolaw09.ChainChecks", spec := "chainChecks", inPlace := ["internal/bytealg.IndexByteString", "internal/bytealg.IndexString"], unfollowed := true, recurses := true, named := ["internal/bytealg.MaxLen"], apart := false, narrowed := true }
def ChainChecksUptoSaid : Prop := chainChecksUptoRow.holds Try.pinned (OpenSpec.upto chainChecksSpec)

/-- 'versolaw09.ChainGrows', WHERE WHAT IT READS IS OF BULK AT MOST 1048576: true; the input reads as it did. -/
def chainGrowsUptoRow : OpenClaim := { program := "ytdclbemjbcmhdaa", sum := "db9e97e22807ab8f6da674c1c163b1556d9865e440c8904167c96fa6721e2c6f", func := "verso/versolaw09.ChainGrows", spec := "chainGrows", inPlace := ["internal/bytealg.IndexByteString", "internal/bytealg.IndexString"], unfollowed := true, recurses := true, named := ["internal/bytealg.MaxLen"], apart := false, narrowed := true }
def ChainGrowsUptoSaid : Prop := chainGrowsUptoRow.holds Try.pinned (OpenSpec.upto chainGrowsSpec)

/-- 'versolaw09.ChainSteps', WHERE WHAT IT READS IS OF BULK AT MOST 1048576: true; the input reads as it did. -/
def chainStepsUptoRow : OpenClaim := { program := "ytdclbemjbcmhdaa", sum := "db9e97e22807ab8f6da674c1c163b1556d9865e440c8904167c96fa6721e2c6f", func := "verso/versolaw09.ChainSteps", spec := "chainSteps", inPlace := ["internal/bytealg.IndexByteString", "internal/bytealg.IndexString"], unfollowed := true, recurses := true, named := ["internal/bytealg.MaxLen"], apart := false, narrowed := true }
def ChainStepsUptoSaid : Prop := chainStepsUptoRow.holds Try.pinned (OpenSpec.upto chainStepsSpec)

/-- 'versolaw09.ChainAdds', WHERE WHAT IT READS IS OF BULK AT MOST 1048576: true; the input reads as it did. -/
def chainAddsUptoRow : OpenClaim := { program := "ytdclbemjbcmhdaa", sum := "db9e97e22807ab8f6da674c1c163b1556d9865e440c8904167c96fa6721e2c6f", func := "verso/versolaw09.ChainAdds", spec := "chainAdds", inPlace := ["internal/bytealg.IndexByteString", "internal/bytealg.IndexString"], unfollowed := true, recurses := true, named := ["internal/bytealg.MaxLen"], apart := false, narrowed := true }
def ChainAddsUptoSaid : Prop := chainAddsUptoRow.holds Try.pinned (OpenSpec.upto chainAddsSpec)

/-- 'versolaw09.ChainBegins', WHERE WHAT IT READS IS OF BULK AT MOST 1048576: true; the input reads as it did. -/
def chainBeginsUptoRow : OpenClaim := { program := "ytdclbemjbcmhdaa", sum := "db9e97e22807ab8f6da674c1c163b1556d9865e440c8904167c96fa6721e2c6f", func := "verso/versolaw09.ChainBegins", spec := "chainBegins", inPlace := ["internal/bytealg.IndexByteString", "internal/bytealg.IndexString"], unfollowed := true, recurses := true, named := ["internal/bytealg.MaxLen"], apart := false, narrowed := true }
def ChainBeginsUptoSaid : Prop := chainBeginsUptoRow.holds Try.pinned (OpenSpec.upto chainBeginsSpec)

end Rows
end Go.Proofs.Ytdclbemjbcmhdaa
