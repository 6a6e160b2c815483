/-
  NARROWER THAN 'FOR EVERY INPUT', by the rows' own cells (each row's printed sentence says how): SafeValues: laid · SafeWithin: loops, laid · SafeLinks: laid · SafeText: laid · SafeStricter: loops, laid.
  DERIVED. THE GIVEN ROWS OF THIS SEAT. 5 by the template 'for every input the law returns true; each argument reads behind the call as it read before'; 0 by the template 'total and deterministic' (their statements: YtfchacihhljfhaaDoorTotals.lean).
  GIVEN WITH THE SEED: the statements are not yours to turn. If you find one false, say at which input.
  Laid BY PROGRAM, IN A SANDBOX (cutbox-rows.mjs): the forced cells as the released guide's own fill.sh prints them over the translation 2d100a7948e58ff4… (all of the seat's roots in one cut). By AI agents, Wed Nov 11 2026. No macro, syntax, notation, axiom, sorry.
-/
import Derived.Test.YtfchacihhljfhaaDoorChecked
import GoSem.PinnedTables
import GoSem.Claim
import GoSem.ClaimJoined
import GoSem.ClaimMapViews
import Derived.JoinedTies
import Derived.KernelRfl
namespace Go.Proofs.YtfchacihhljfhaaDoor
/- THE CELL 'sum', in the pinned program and in every row, IS THE sha256 OF THE DUMP (.gsa) THAT YtfchacihhljfhaaDoorProg.lean LOADS. Nothing in Lean hashes anything: it is a label: what it is worth is what the hold of that sum in a sandbox is worth. -/
noncomputable def Tryd.pinned : Pinned := { name := "ytfchacihhljfhaadoor", sum := "2d100a7948e58ff431473cd4e239e85ca82a31cc67c9d02379cf5aeb3d7c3aaf", checked := Tryd.checked }
namespace Rows
def none {H : Type} : Left H := { results := [], args := [] }

/- WHAT THE LISTED PACKAGE-LEVEL VARIABLES READ AS WHEN THE CALL BEGINS. Each datum BY PROGRAM (the guide's laid-datum.mjs) off the statement by which the dump's own 'gosem.cut.vars' lays the variable. In a bare row this is a premise. The card (YtfchacihhljfhaaDoorCards.lean) ties it to the program's text. -/
def laid_unicode_utf8_acceptRanges {H : Type} : DataW H := .agg [.agg [.lit (.int .u8 128), .lit (.int .u8 191)], .agg [.lit (.int .u8 160), .lit (.int .u8 191)], .agg [.lit (.int .u8 128), .lit (.int .u8 159)], .agg [.lit (.int .u8 144), .lit (.int .u8 191)], .agg [.lit (.int .u8 128), .lit (.int .u8 143)], .agg [.lit (.int .u8 0), .lit (.int .u8 0)], .agg [.lit (.int .u8 0), .lit (.int .u8 0)], .agg [.lit (.int .u8 0), .lit (.int .u8 0)], .agg [.lit (.int .u8 0), .lit (.int .u8 0)], .agg [.lit (.int .u8 0), .lit (.int .u8 0)], .agg [.lit (.int .u8 0), .lit (.int .u8 0)], .agg [.lit (.int .u8 0), .lit (.int .u8 0)], .agg [.lit (.int .u8 0), .lit (.int .u8 0)], .agg [.lit (.int .u8 0), .lit (.int .u8 0)], .agg [.lit (.int .u8 0), .lit (.int .u8 0)], .agg [.lit (.int .u8 0), .lit (.int .u8 0)]]
/-- One of Go's own tables, pinned by name: the form's constant. -/
def laid_unicode_utf8_first : DataW Unit := Go.Pinned.utf8First

/-- 'versolaw10.SafeValues': WHATEVER THE INPUT: true; the input reads as it did. -/
def safeValuesSpec : ChangeSpec := { name := "safeValues", fn := fun _ => fun
  | [d1, d2, d3] => { results := [.lit (.bool true)], args := [d1, d2, d3] }
  | _ => none }
def safeValuesRow : OpenClaim := { program := "ytfchacihhljfhaadoor", sum := "2d100a7948e58ff431473cd4e239e85ca82a31cc67c9d02379cf5aeb3d7c3aaf", func := "verso/versolaw10.SafeValues", spec := "safeValues", inPlace := ["internal/bytealg.IndexByteString", "internal/bytealg.CountString", "internal/bytealg.IndexString", "internal/abi.NoEscape", "internal/bytealg.MakeNoZero"], unfollowed := true, recurses := true, named := ["unicode/utf8.first", "unicode/utf8.acceptRanges", "internal/bytealg.MaxLen"], apart := false, laid := [("unicode/utf8.acceptRanges", laid_unicode_utf8_acceptRanges), ("unicode/utf8.first", laid_unicode_utf8_first)] }
def SafeValuesSaid : Prop := safeValuesRow.holds Tryd.pinned (OpenSpec.ofChange safeValuesSpec)

/-- ITS FALSE NEIGHBOUR: 'it returns false'. Refute it at one input. -/
def safeValuesWrong : ChangeSpec := { name := "safeValues", fn := fun _ => fun
  | [d1, d2, d3] => { results := [.lit (.bool false)], args := [d1, d2, d3] }
  | _ => none }
def SafeValuesWrongFalsely : Prop := safeValuesRow.holds Tryd.pinned (OpenSpec.ofChange safeValuesWrong)

/-- 'versolaw10.SafeWithin': WHATEVER THE INPUT: true; the input reads as it did. -/
def safeWithinSpec : ChangeSpec := { name := "safeWithin", fn := fun _ => fun
  | [d1, d2, d3] => { results := [.lit (.bool true)], args := [d1, d2, d3] }
  | _ => none }
def safeWithinRow : OpenClaim := { program := "ytfchacihhljfhaadoor", sum := "2d100a7948e58ff431473cd4e239e85ca82a31cc67c9d02379cf5aeb3d7c3aaf", func := "verso/versolaw10.SafeWithin", spec := "safeWithin", inPlace := ["internal/bytealg.IndexByteString", "internal/bytealg.CountString", "internal/bytealg.IndexString", "internal/abi.NoEscape", "internal/bytealg.MakeNoZero"], unfollowed := true, recurses := true, named := ["unicode/utf8.first", "unicode/utf8.acceptRanges", "internal/bytealg.MaxLen"], loops := true, apart := false, laid := [("unicode/utf8.acceptRanges", laid_unicode_utf8_acceptRanges), ("unicode/utf8.first", laid_unicode_utf8_first)] }
def SafeWithinSaid : Prop := safeWithinRow.holds Tryd.pinned (OpenSpec.ofChange safeWithinSpec)

/-- ITS FALSE NEIGHBOUR: 'it returns false'. Refute it at one input. -/
def safeWithinWrong : ChangeSpec := { name := "safeWithin", fn := fun _ => fun
  | [d1, d2, d3] => { results := [.lit (.bool false)], args := [d1, d2, d3] }
  | _ => none }
def SafeWithinWrongFalsely : Prop := safeWithinRow.holds Tryd.pinned (OpenSpec.ofChange safeWithinWrong)

/-- 'versolaw10.SafeLinks': WHATEVER THE INPUT: true; the input reads as it did. -/
def safeLinksSpec : ChangeSpec := { name := "safeLinks", fn := fun _ => fun
  | [d1, d2, d3] => { results := [.lit (.bool true)], args := [d1, d2, d3] }
  | _ => none }
def safeLinksRow : OpenClaim := { program := "ytfchacihhljfhaadoor", sum := "2d100a7948e58ff431473cd4e239e85ca82a31cc67c9d02379cf5aeb3d7c3aaf", func := "verso/versolaw10.SafeLinks", spec := "safeLinks", inPlace := ["internal/bytealg.IndexByteString", "internal/bytealg.CountString", "internal/bytealg.IndexString", "internal/abi.NoEscape", "internal/bytealg.MakeNoZero"], unfollowed := true, recurses := true, named := ["unicode/utf8.first", "unicode/utf8.acceptRanges", "internal/bytealg.MaxLen"], apart := false, laid := [("unicode/utf8.acceptRanges", laid_unicode_utf8_acceptRanges), ("unicode/utf8.first", laid_unicode_utf8_first)] }
def SafeLinksSaid : Prop := safeLinksRow.holds Tryd.pinned (OpenSpec.ofChange safeLinksSpec)

/-- ITS FALSE NEIGHBOUR: 'it returns false'. Refute it at one input. -/
def safeLinksWrong : ChangeSpec := { name := "safeLinks", fn := fun _ => fun
  | [d1, d2, d3] => { results := [.lit (.bool false)], args := [d1, d2, d3] }
  | _ => none }
def SafeLinksWrongFalsely : Prop := safeLinksRow.holds Tryd.pinned (OpenSpec.ofChange safeLinksWrong)

/-- 'versolaw10.SafeText': WHATEVER THE INPUT: true; the input reads as it did. -/
def safeTextSpec : ChangeSpec := { name := "safeText", fn := fun _ => fun
  | [d1, d2] => { results := [.lit (.bool true)], args := [d1, d2] }
  | _ => none }
def safeTextRow : OpenClaim := { program := "ytfchacihhljfhaadoor", sum := "2d100a7948e58ff431473cd4e239e85ca82a31cc67c9d02379cf5aeb3d7c3aaf", func := "verso/versolaw10.SafeText", spec := "safeText", inPlace := ["internal/bytealg.IndexByteString", "internal/bytealg.CountString", "internal/bytealg.IndexString", "internal/abi.NoEscape", "internal/bytealg.MakeNoZero"], unfollowed := true, recurses := true, named := ["unicode/utf8.first", "unicode/utf8.acceptRanges", "internal/bytealg.MaxLen"], apart := false, laid := [("unicode/utf8.acceptRanges", laid_unicode_utf8_acceptRanges), ("unicode/utf8.first", laid_unicode_utf8_first)] }
def SafeTextSaid : Prop := safeTextRow.holds Tryd.pinned (OpenSpec.ofChange safeTextSpec)

/-- ITS FALSE NEIGHBOUR: 'it returns false'. Refute it at one input. -/
def safeTextWrong : ChangeSpec := { name := "safeText", fn := fun _ => fun
  | [d1, d2] => { results := [.lit (.bool false)], args := [d1, d2] }
  | _ => none }
def SafeTextWrongFalsely : Prop := safeTextRow.holds Tryd.pinned (OpenSpec.ofChange safeTextWrong)

/-- 'versolaw10.SafeStricter': WHATEVER THE INPUT: true; the input reads as it did. -/
def safeStricterSpec : ChangeSpec := { name := "safeStricter", fn := fun _ => fun
  | [d1, d2, d3] => { results := [.lit (.bool true)], args := [d1, d2, d3] }
  | _ => none }
def safeStricterRow : OpenClaim := { program := "ytfchacihhljfhaadoor", sum := "2d100a7948e58ff431473cd4e239e85ca82a31cc67c9d02379cf5aeb3d7c3aaf", func := "verso/versolaw10.SafeStricter", spec := "safeStricter", inPlace := ["internal/bytealg.IndexByteString", "internal/bytealg.CountString", "internal/bytealg.IndexString", "internal/abi.NoEscape", "internal/bytealg.MakeNoZero"], unfollowed := true, recurses := true, named := ["unicode/utf8.first", "unicode/utf8.acceptRanges", "internal/bytealg.MaxLen"], loops := true, apart := false, laid := [("unicode/utf8.acceptRanges", laid_unicode_utf8_acceptRanges), ("unicode/utf8.first", laid_unicode_utf8_first)] }
def SafeStricterSaid : Prop := safeStricterRow.holds Tryd.pinned (OpenSpec.ofChange safeStricterSpec)

/-- ITS FALSE NEIGHBOUR: 'it returns false'. Refute it at one input. -/
def safeStricterWrong : ChangeSpec := { name := "safeStricter", fn := fun _ => fun
  | [d1, d2, d3] => { results := [.lit (.bool false)], args := [d1, d2, d3] }
  | _ => none }
def SafeStricterWrongFalsely : Prop := safeStricterRow.holds Tryd.pinned (OpenSpec.ofChange safeStricterWrong)

/- THE SECOND FORM. 'bulk': how many values and letters a reading holds, each counted each time it is reached (what is shared counts as often as it is met; a slice's spare places count too). A statement '..UptoSaid' is the law's where the arguments, and the package variables that the reading takes, are together of bulk at most 1048576: NARROWER than '..Said'. Prove '..Said' where nothing that the law and all that it calls make is longer than what came in: it says more and counts as full. Else prove '..UptoSaid'. A law counts once. -/
mutual
def uptoBulk {H : Type} : DataW H → Nat
  | .lit (.string bytes) => bytes.length + 1
  | .lit _ => 1
  | .nil => 1
  | .ptr d => uptoBulk d + 1
  | .slice elems spare => uptoBulkAll elems + uptoBulkAll spare + 1
  | .agg parts => uptoBulkAll parts + 1
  | .iface _ d => uptoBulk d + 1
  | .map entries => uptoBulkEntries entries + 1
  | .held _ => 1
def uptoBulkAll {H : Type} : List (DataW H) → Nat
  | [] => 0
  | d :: r => uptoBulk d + uptoBulkAll r
def uptoBulkEntries {H : Type} : List (Lit × DataW H) → Nat
  | [] => 0
  | x :: r => uptoBulkEntry x + uptoBulkEntries r
def uptoBulkEntry {H : Type} : Lit × DataW H → Nat
  | (.string bytes, d) => bytes.length + uptoBulk d + 1
  | (_, d) => uptoBulk d + 1
 end
def uptoSmall : (H : Type) → List (DataW H) → Bool := fun _ ds => decide (uptoBulkAll ds ≤ 1048576)
def OpenSpec.upto (s : _root_.Go.ChangeSpec) : _root_.Go.OpenSpec := { _root_.Go.OpenSpec.ofChange s with cond := some uptoSmall }

/-- 'versolaw10.SafeValues', WHERE WHAT IT READS IS OF BULK AT MOST 1048576: true; the input reads as it did. -/
def safeValuesUptoRow : OpenClaim := { program := "ytfchacihhljfhaadoor", sum := "2d100a7948e58ff431473cd4e239e85ca82a31cc67c9d02379cf5aeb3d7c3aaf", func := "verso/versolaw10.SafeValues", spec := "safeValues", inPlace := ["internal/bytealg.IndexByteString", "internal/bytealg.CountString", "internal/bytealg.IndexString", "internal/abi.NoEscape", "internal/bytealg.MakeNoZero"], unfollowed := true, recurses := true, named := ["unicode/utf8.first", "unicode/utf8.acceptRanges", "internal/bytealg.MaxLen"], apart := false, laid := [("unicode/utf8.acceptRanges", laid_unicode_utf8_acceptRanges), ("unicode/utf8.first", laid_unicode_utf8_first)], narrowed := true }
def SafeValuesUptoSaid : Prop := safeValuesUptoRow.holds Tryd.pinned (OpenSpec.upto safeValuesSpec)

/-- 'versolaw10.SafeWithin', WHERE WHAT IT READS IS OF BULK AT MOST 1048576: true; the input reads as it did. -/
def safeWithinUptoRow : OpenClaim := { program := "ytfchacihhljfhaadoor", sum := "2d100a7948e58ff431473cd4e239e85ca82a31cc67c9d02379cf5aeb3d7c3aaf", func := "verso/versolaw10.SafeWithin", spec := "safeWithin", inPlace := ["internal/bytealg.IndexByteString", "internal/bytealg.CountString", "internal/bytealg.IndexString", "internal/abi.NoEscape", "internal/bytealg.MakeNoZero"], unfollowed := true, recurses := true, named := ["unicode/utf8.first", "unicode/utf8.acceptRanges", "internal/bytealg.MaxLen"], loops := true, apart := false, laid := [("unicode/utf8.acceptRanges", laid_unicode_utf8_acceptRanges), ("unicode/utf8.first", laid_unicode_utf8_first)], narrowed := true }
def SafeWithinUptoSaid : Prop := safeWithinUptoRow.holds Tryd.pinned (OpenSpec.upto safeWithinSpec)

/-- 'versolaw10.SafeLinks', WHERE WHAT IT READS IS OF BULK AT MOST 1048576: true; the input reads as it did. -/
def safeLinksUptoRow : OpenClaim := { program := "ytfchacihhljfhaadoor", sum := "2d100a7948e58ff431473cd4e239e85ca82a31cc67c9d02379cf5aeb3d7c3aaf", func := "verso/versolaw10.SafeLinks", spec := "safeLinks", inPlace := ["internal/bytealg.IndexByteString", "internal/bytealg.CountString", "internal/bytealg.IndexString", "internal/abi.NoEscape", "internal/bytealg.MakeNoZero"], unfollowed := true, recurses := true, named := ["unicode/utf8.first", "unicode/utf8.acceptRanges", "internal/bytealg.MaxLen"], apart := false, laid := [("unicode/utf8.acceptRanges", laid_unicode_utf8_acceptRanges), ("unicode/utf8.first", laid_unicode_utf8_first)], narrowed := true }
def SafeLinksUptoSaid : Prop := safeLinksUptoRow.holds Tryd.pinned (OpenSpec.upto safeLinksSpec)

/-- 'versolaw10.SafeText', WHERE WHAT IT READS IS OF BULK AT MOST 1048576: true; the input reads as it did. -/
def safeTextUptoRow : OpenClaim := { program := "ytfchacihhljfhaadoor", sum := "2d100a7948e58ff431473cd4e239e85ca82a31cc67c9d02379cf5aeb3d7c3aaf", func := "verso/versolaw10.SafeText", spec := "safeText", inPlace := ["internal/bytealg.IndexByteString", "internal/bytealg.CountString", "internal/bytealg.IndexString", "internal/abi.NoEscape", "internal/bytealg.MakeNoZero"], unfollowed := true, recurses := true, named := ["unicode/utf8.first", "unicode/utf8.acceptRanges", "internal/bytealg.MaxLen"], apart := false, laid := [("unicode/utf8.acceptRanges", laid_unicode_utf8_acceptRanges), ("unicode/utf8.first", laid_unicode_utf8_first)], narrowed := true }
def SafeTextUptoSaid : Prop := safeTextUptoRow.holds Tryd.pinned (OpenSpec.upto safeTextSpec)

/-- 'versolaw10.SafeStricter', WHERE WHAT IT READS IS OF BULK AT MOST 1048576: true; the input reads as it did. -/
def safeStricterUptoRow : OpenClaim := { program := "ytfchacihhljfhaadoor", sum := "2d100a7948e58ff431473cd4e239e85ca82a31cc67c9d02379cf5aeb3d7c3aaf", func := "verso/versolaw10.SafeStricter", spec := "safeStricter", inPlace := ["internal/bytealg.IndexByteString", "internal/bytealg.CountString", "internal/bytealg.IndexString", "internal/abi.NoEscape", "internal/bytealg.MakeNoZero"], unfollowed := true, recurses := true, named := ["unicode/utf8.first", "unicode/utf8.acceptRanges", "internal/bytealg.MaxLen"], loops := true, apart := false, laid := [("unicode/utf8.acceptRanges", laid_unicode_utf8_acceptRanges), ("unicode/utf8.first", laid_unicode_utf8_first)], narrowed := true }
def SafeStricterUptoSaid : Prop := safeStricterUptoRow.holds Tryd.pinned (OpenSpec.upto safeStricterSpec)

end Rows
end Go.Proofs.YtfchacihhljfhaaDoor
