/-
  No cell of these rows narrows 'for every input' (looked for: loops, veiled, ifaces, maps, wideKeys, modest, calm, conditions, laid).
  DERIVED. THE GIVEN ROWS OF THIS SEAT. 6 by the template 'for every input the law returns true; each argument reads behind the call as it read before'; 0 by the template 'total and deterministic' (their statements: YtampfnlmojgjgaaTotals.lean).
  GIVEN WITH THE SEED: the statements are not yours to turn. If you find one false, say at which input.
  Laid BY PROGRAM, IN A SANDBOX (cutbox-rows.mjs): the forced cells as the released guide's own fill.sh prints them over the translation 7fe8b54a1f08d005… (all of the seat's roots in one cut). By AI agents, Wed Nov 11 2026. No macro, syntax, notation, axiom, sorry.
-/
import Derived.Test.YtampfnlmojgjgaaChecked
import GoSem.Claim
import GoSem.ClaimJoined
import GoSem.ClaimMapViews
import Derived.JoinedTies
import Derived.KernelRfl
namespace Go.Proofs.Ytampfnlmojgjgaa
/- THE CELL 'sum', in the pinned program and in every row, IS THE sha256 OF THE DUMP (.gsa) THAT YtampfnlmojgjgaaProg.lean LOADS. Nothing in Lean hashes anything: it is a label: what it is worth is what the hold of that sum in a sandbox is worth. -/
noncomputable def Try.pinned : Pinned := { name := "ytampfnlmojgjgaa", sum := "7fe8b54a1f08d0057d2bc7be5bbeaed9b78bab1aaca6923e7a5dc665df650ab1", checked := Try.checked }
namespace Rows
def none {H : Type} : Left H := { results := [], args := [] }

/-- 'versolaw06.UrlSchemes': WHATEVER THE INPUT: true; the input reads as it did. -/
def urlSchemesSpec : ChangeSpec := { name := "urlSchemes", fn := fun _ => fun
  | [d] => { results := [.lit (.bool true)], args := [d] }
  | _ => none }
def urlSchemesRow : OpenClaim := { program := "ytampfnlmojgjgaa", sum := "7fe8b54a1f08d0057d2bc7be5bbeaed9b78bab1aaca6923e7a5dc665df650ab1", func := "verso/versolaw06.UrlSchemes", spec := "urlSchemes", inPlace := ["internal/abi.NoEscape"], apart := false }
def UrlSchemesSaid : Prop := urlSchemesRow.holds Try.pinned (OpenSpec.ofChange urlSchemesSpec)

/-- ITS FALSE NEIGHBOUR: 'it returns false'. Refute it at one input. -/
def urlSchemesWrong : ChangeSpec := { name := "urlSchemes", fn := fun _ => fun
  | [d] => { results := [.lit (.bool false)], args := [d] }
  | _ => none }
def UrlSchemesWrongFalsely : Prop := urlSchemesRow.holds Try.pinned (OpenSpec.ofChange urlSchemesWrong)

/-- 'versolaw06.UrlAllows': WHATEVER THE INPUT: true; the input reads as it did. -/
def urlAllowsSpec : ChangeSpec := { name := "urlAllows", fn := fun _ => fun
  | [d1, d2] => { results := [.lit (.bool true)], args := [d1, d2] }
  | _ => none }
def urlAllowsRow : OpenClaim := { program := "ytampfnlmojgjgaa", sum := "7fe8b54a1f08d0057d2bc7be5bbeaed9b78bab1aaca6923e7a5dc665df650ab1", func := "verso/versolaw06.UrlAllows", spec := "urlAllows", inPlace := ["internal/abi.NoEscape"], apart := false }
def UrlAllowsSaid : Prop := urlAllowsRow.holds Try.pinned (OpenSpec.ofChange urlAllowsSpec)

/-- ITS FALSE NEIGHBOUR: 'it returns false'. Refute it at one input. -/
def urlAllowsWrong : ChangeSpec := { name := "urlAllows", fn := fun _ => fun
  | [d1, d2] => { results := [.lit (.bool false)], args := [d1, d2] }
  | _ => none }
def UrlAllowsWrongFalsely : Prop := urlAllowsRow.holds Try.pinned (OpenSpec.ofChange urlAllowsWrong)

/-- 'versolaw06.UrlHides': WHATEVER THE INPUT: true; the input reads as it did. -/
def urlHidesSpec : ChangeSpec := { name := "urlHides", fn := fun _ => fun
  | [d1, d2, d3] => { results := [.lit (.bool true)], args := [d1, d2, d3] }
  | _ => none }
def urlHidesRow : OpenClaim := { program := "ytampfnlmojgjgaa", sum := "7fe8b54a1f08d0057d2bc7be5bbeaed9b78bab1aaca6923e7a5dc665df650ab1", func := "verso/versolaw06.UrlHides", spec := "urlHides", inPlace := ["internal/abi.NoEscape"], apart := false }
def UrlHidesSaid : Prop := urlHidesRow.holds Try.pinned (OpenSpec.ofChange urlHidesSpec)

/-- ITS FALSE NEIGHBOUR: 'it returns false'. Refute it at one input. -/
def urlHidesWrong : ChangeSpec := { name := "urlHides", fn := fun _ => fun
  | [d1, d2, d3] => { results := [.lit (.bool false)], args := [d1, d2, d3] }
  | _ => none }
def UrlHidesWrongFalsely : Prop := urlHidesRow.holds Try.pinned (OpenSpec.ofChange urlHidesWrong)

/-- 'versolaw06.UrlMore': WHATEVER THE INPUT: true; the input reads as it did. -/
def urlMoreSpec : ChangeSpec := { name := "urlMore", fn := fun _ => fun
  | [d1, d2, d3] => { results := [.lit (.bool true)], args := [d1, d2, d3] }
  | _ => none }
def urlMoreRow : OpenClaim := { program := "ytampfnlmojgjgaa", sum := "7fe8b54a1f08d0057d2bc7be5bbeaed9b78bab1aaca6923e7a5dc665df650ab1", func := "verso/versolaw06.UrlMore", spec := "urlMore", inPlace := ["internal/abi.NoEscape"], apart := false }
def UrlMoreSaid : Prop := urlMoreRow.holds Try.pinned (OpenSpec.ofChange urlMoreSpec)

/-- ITS FALSE NEIGHBOUR: 'it returns false'. Refute it at one input. -/
def urlMoreWrong : ChangeSpec := { name := "urlMore", fn := fun _ => fun
  | [d1, d2, d3] => { results := [.lit (.bool false)], args := [d1, d2, d3] }
  | _ => none }
def UrlMoreWrongFalsely : Prop := urlMoreRow.holds Try.pinned (OpenSpec.ofChange urlMoreWrong)

/-- 'versolaw06.UrlPlain': WHATEVER THE INPUT: true; the input reads as it did. -/
def urlPlainSpec : ChangeSpec := { name := "urlPlain", fn := fun _ => fun
  | [d1, d2] => { results := [.lit (.bool true)], args := [d1, d2] }
  | _ => none }
def urlPlainRow : OpenClaim := { program := "ytampfnlmojgjgaa", sum := "7fe8b54a1f08d0057d2bc7be5bbeaed9b78bab1aaca6923e7a5dc665df650ab1", func := "verso/versolaw06.UrlPlain", spec := "urlPlain", inPlace := ["internal/abi.NoEscape"], apart := false }
def UrlPlainSaid : Prop := urlPlainRow.holds Try.pinned (OpenSpec.ofChange urlPlainSpec)

/-- ITS FALSE NEIGHBOUR: 'it returns false'. Refute it at one input. -/
def urlPlainWrong : ChangeSpec := { name := "urlPlain", fn := fun _ => fun
  | [d1, d2] => { results := [.lit (.bool false)], args := [d1, d2] }
  | _ => none }
def UrlPlainWrongFalsely : Prop := urlPlainRow.holds Try.pinned (OpenSpec.ofChange urlPlainWrong)

/-- 'versolaw06.UrlNone': WHATEVER THE INPUT: true; the input reads as it did. -/
def urlNoneSpec : ChangeSpec := { name := "urlNone", fn := fun _ => fun
  | [d] => { results := [.lit (.bool true)], args := [d] }
  | _ => none }
def urlNoneRow : OpenClaim := { program := "ytampfnlmojgjgaa", sum := "7fe8b54a1f08d0057d2bc7be5bbeaed9b78bab1aaca6923e7a5dc665df650ab1", func := "verso/versolaw06.UrlNone", spec := "urlNone", inPlace := ["internal/abi.NoEscape"], apart := false }
def UrlNoneSaid : Prop := urlNoneRow.holds Try.pinned (OpenSpec.ofChange urlNoneSpec)

/-- ITS FALSE NEIGHBOUR: 'it returns false'. Refute it at one input. -/
def urlNoneWrong : ChangeSpec := { name := "urlNone", fn := fun _ => fun
  | [d] => { results := [.lit (.bool false)], args := [d] }
  | _ => none }
def UrlNoneWrongFalsely : Prop := urlNoneRow.holds Try.pinned (OpenSpec.ofChange urlNoneWrong)

/- THE SECOND FORM. 'bulk': how many values and letters a reading holds, each counted each time it is reached (what is shared counts as often as it is met; a slice's spare places count too). A statement '..UptoSaid' is the law's where the arguments, and the package variables that the reading takes, are together of bulk at most 1048576: NARROWER than '..Said'. Prove '..Said' where nothing that the law and all that it calls make is longer than what came in: it says more and counts as full. Else prove '..UptoSaid'. A law counts once. -/
mutual
def uptoBulk {H : Type} : DataW H → Nat
  | .lit (.string bytes) => bytes.length + 1
  | .lit _ => 1
  | .nil => 1
  | .ptr d => uptoBulk d + 1
  | .slice elems spare => uptoBulkAll elems + uptoBulkAll spare + 1
  | .agg parts => uptoBulkAll parts + 1
  | .iface _ d => uptoBulk d + 1
  | .map entries => uptoBulkEntries entries + 1
  | .held _ => 1
def uptoBulkAll {H : Type} : List (DataW H) → Nat
  | [] => 0
  | d :: r => uptoBulk d + uptoBulkAll r
def uptoBulkEntries {H : Type} : List (Lit × DataW H) → Nat
  | [] => 0
  | x :: r => uptoBulkEntry x + uptoBulkEntries r
def uptoBulkEntry {H : Type} : Lit × DataW H → Nat
  | (.string bytes, d) => bytes.length + uptoBulk d + 1
  | (_, d) => uptoBulk d + 1
 end
def uptoSmall : (H : Type) → List (DataW H) → Bool := fun _ ds => decide (uptoBulkAll ds ≤ 1048576)
def OpenSpec.upto (s : _root_.Go.ChangeSpec) : _root_.Go.OpenSpec := { _root_.Go.OpenSpec.ofChange s with cond := some uptoSmall }

/-- 'versolaw06.UrlSchemes', WHERE WHAT IT READS IS OF BULK AT MOST 1048576: true; the input reads as it did. -/
def urlSchemesUptoRow : OpenClaim := { program := "ytampfnlmojgjgaa", sum := "7fe8b54a1f08d0057d2bc7be5bbeaed9b78bab1aaca6923e7a5dc665df650ab1", func := "verso/versolaw06.UrlSchemes", spec := "urlSchemes", inPlace := ["internal/abi.NoEscape"], apart := false, narrowed := true }
def UrlSchemesUptoSaid : Prop := urlSchemesUptoRow.holds Try.pinned (OpenSpec.upto urlSchemesSpec)

/-- 'versolaw06.UrlAllows', WHERE WHAT IT READS IS OF BULK AT MOST 1048576: true; the input reads as it did. -/
def urlAllowsUptoRow : OpenClaim := { program := "ytampfnlmojgjgaa", sum := "7fe8b54a1f08d0057d2bc7be5bbeaed9b78bab1aaca6923e7a5dc665df650ab1", func := "verso/versolaw06.UrlAllows", spec := "urlAllows", inPlace := ["internal/abi.NoEscape"], apart := false, narrowed := true }
def UrlAllowsUptoSaid : Prop := urlAllowsUptoRow.holds Try.pinned (OpenSpec.upto urlAllowsSpec)

/-- 'versolaw06.UrlHides', WHERE WHAT IT READS IS OF BULK AT MOST 1048576: true; the input reads as it did. -/
def urlHidesUptoRow : OpenClaim := { program := "ytampfnlmojgjgaa", sum := "7fe8b54a1f08d0057d2bc7be5bbeaed9b78bab1aaca6923e7a5dc665df650ab1", func := "verso/versolaw06.UrlHides", spec := "urlHides", inPlace := ["internal/abi.NoEscape"], apart := false, narrowed := true }
def UrlHidesUptoSaid : Prop := urlHidesUptoRow.holds Try.pinned (OpenSpec.upto urlHidesSpec)

/-- 'versolaw06.UrlMore', WHERE WHAT IT READS IS OF BULK AT MOST 1048576: true; the input reads as it did. -/
def urlMoreUptoRow : OpenClaim := { program := "ytampfnlmojgjgaa", sum := "7fe8b54a1f08d0057d2bc7be5bbeaed9b78bab1aaca6923e7a5dc665df650ab1", func := "verso/versolaw06.UrlMore", spec := "urlMore", inPlace := ["internal/abi.NoEscape"], apart := false, narrowed := true }
def UrlMoreUptoSaid : Prop := urlMoreUptoRow.holds Try.pinned (OpenSpec.upto urlMoreSpec)

/-- 'versolaw06.UrlPlain', WHERE WHAT IT READS IS OF BULK AT MOST 1048576: true; the input reads as it did. -/
def urlPlainUptoRow : OpenClaim := { program := "ytampfnlmojgjgaa", sum := "7fe8b54a1f08d0057d2bc7be5bbeaed9b78bab1aaca6923e7a5dc665df650ab1", func := "verso/versolaw06.UrlPlain", spec := "urlPlain", inPlace := ["internal/abi.NoEscape"], apart := false, narrowed := true }
def UrlPlainUptoSaid : Prop := urlPlainUptoRow.holds Try.pinned (OpenSpec.upto urlPlainSpec)

/-- 'versolaw06.UrlNone', WHERE WHAT IT READS IS OF BULK AT MOST 1048576: true; the input reads as it did. -/
def urlNoneUptoRow : OpenClaim := { program := "ytampfnlmojgjgaa", sum := "7fe8b54a1f08d0057d2bc7be5bbeaed9b78bab1aaca6923e7a5dc665df650ab1", func := "verso/versolaw06.UrlNone", spec := "urlNone", inPlace := ["internal/abi.NoEscape"], apart := false, narrowed := true }
def UrlNoneUptoSaid : Prop := urlNoneUptoRow.holds Try.pinned (OpenSpec.upto urlNoneSpec)

end Rows
end Go.Proofs.Ytampfnlmojgjgaa
