/-
  NARROWER THAN 'FOR EVERY INPUT', by the rows' own cells (each row's printed sentence says how): StyleFilters: laid · StyleValues: laid · StyleAgain: laid · StyleFewer: laid · StyleOne: laid · StyleTwo: laid.
  DERIVED. THE GIVEN ROWS OF THIS SEAT. 6 by the template 'for every input the law returns true; each argument reads behind the call as it read before'; 0 by the template 'total and deterministic' (their statements: YtkgdplfcanonhaaDoorTotals.lean).
  GIVEN WITH THE SEED: the statements are not yours to turn. If you find one false, say at which input.
  Laid BY PROGRAM, IN A SANDBOX (cutbox-rows.mjs): the forced cells as the released guide's own fill.sh prints them over the translation eb4da62c557dc212… (all of the seat's roots in one cut). By AI agents, Wed Nov 11 2026. No macro, syntax, notation, axiom, sorry.
-/
import Derived.Test.YtkgdplfcanonhaaDoorChecked
import GoSem.PinnedTables
import GoSem.Claim
import GoSem.ClaimJoined
import GoSem.ClaimMapViews
import Derived.JoinedTies
import Derived.KernelRfl
namespace Go.Proofs.YtkgdplfcanonhaaDoor
/- THE CELL 'sum', in the pinned program and in every row, IS THE sha256 OF THE DUMP (.gsa) THAT YtkgdplfcanonhaaDoorProg.lean LOADS. Nothing in Lean hashes anything: it is a label: what it is worth is what the hold of that sum in a sandbox is worth. -/
noncomputable def Tryd.pinned : Pinned := { name := "ytkgdplfcanonhaadoor", sum := "eb4da62c557dc212ce72b80719ac65b816963294c25277c989fa26555810c6b0", checked := Tryd.checked }
namespace Rows
def none {H : Type} : Left H := { results := [], args := [] }

/- WHAT THE LISTED PACKAGE-LEVEL VARIABLES READ AS WHEN THE CALL BEGINS. Each datum BY PROGRAM (the guide's laid-datum.mjs) off the statement by which the dump's own 'gosem.cut.vars' lays the variable. In a bare row this is a premise. The card (YtkgdplfcanonhaaDoorCards.lean) ties it to the program's text. -/
def laid_unicode_utf8_acceptRanges {H : Type} : DataW H := .agg [.agg [.lit (.int .u8 128), .lit (.int .u8 191)], .agg [.lit (.int .u8 160), .lit (.int .u8 191)], .agg [.lit (.int .u8 128), .lit (.int .u8 159)], .agg [.lit (.int .u8 144), .lit (.int .u8 191)], .agg [.lit (.int .u8 128), .lit (.int .u8 143)], .agg [.lit (.int .u8 0), .lit (.int .u8 0)], .agg [.lit (.int .u8 0), .lit (.int .u8 0)], .agg [.lit (.int .u8 0), .lit (.int .u8 0)], .agg [.lit (.int .u8 0), .lit (.int .u8 0)], .agg [.lit (.int .u8 0), .lit (.int .u8 0)], .agg [.lit (.int .u8 0), .lit (.int .u8 0)], .agg [.lit (.int .u8 0), .lit (.int .u8 0)], .agg [.lit (.int .u8 0), .lit (.int .u8 0)], .agg [.lit (.int .u8 0), .lit (.int .u8 0)], .agg [.lit (.int .u8 0), .lit (.int .u8 0)], .agg [.lit (.int .u8 0), .lit (.int .u8 0)]]
/-- One of Go's own tables, pinned by name: the form's constant. -/
def laid_unicode_utf8_first : DataW Unit := Go.Pinned.utf8First

/-- 'versolaw07.StyleFilters': WHATEVER THE INPUT: true; the input reads as it did. -/
def styleFiltersSpec : ChangeSpec := { name := "styleFilters", fn := fun _ => fun
  | [d1, d2] => { results := [.lit (.bool true)], args := [d1, d2] }
  | _ => none }
def styleFiltersRow : OpenClaim := { program := "ytkgdplfcanonhaadoor", sum := "eb4da62c557dc212ce72b80719ac65b816963294c25277c989fa26555810c6b0", func := "verso/versolaw07.StyleFilters", spec := "styleFilters", inPlace := ["internal/bytealg.IndexByteString", "internal/bytealg.CountString", "internal/bytealg.IndexString", "internal/abi.NoEscape", "internal/bytealg.MakeNoZero"], unfollowed := true, recurses := true, named := ["unicode/utf8.first", "unicode/utf8.acceptRanges", "internal/bytealg.MaxLen"], apart := false, laid := [("unicode/utf8.acceptRanges", laid_unicode_utf8_acceptRanges), ("unicode/utf8.first", laid_unicode_utf8_first)] }
def StyleFiltersSaid : Prop := styleFiltersRow.holds Tryd.pinned (OpenSpec.ofChange styleFiltersSpec)

/-- ITS FALSE NEIGHBOUR: 'it returns false'. Refute it at one input. -/
def styleFiltersWrong : ChangeSpec := { name := "styleFilters", fn := fun _ => fun
  | [d1, d2] => { results := [.lit (.bool false)], args := [d1, d2] }
  | _ => none }
def StyleFiltersWrongFalsely : Prop := styleFiltersRow.holds Tryd.pinned (OpenSpec.ofChange styleFiltersWrong)

/-- 'versolaw07.StyleValues': WHATEVER THE INPUT: true; the input reads as it did. -/
def styleValuesSpec : ChangeSpec := { name := "styleValues", fn := fun _ => fun
  | [d] => { results := [.lit (.bool true)], args := [d] }
  | _ => none }
def styleValuesRow : OpenClaim := { program := "ytkgdplfcanonhaadoor", sum := "eb4da62c557dc212ce72b80719ac65b816963294c25277c989fa26555810c6b0", func := "verso/versolaw07.StyleValues", spec := "styleValues", inPlace := ["internal/bytealg.IndexByteString", "internal/bytealg.CountString", "internal/bytealg.IndexString", "internal/abi.NoEscape", "internal/bytealg.MakeNoZero"], unfollowed := true, recurses := true, named := ["unicode/utf8.first", "unicode/utf8.acceptRanges", "internal/bytealg.MaxLen"], apart := false, laid := [("unicode/utf8.acceptRanges", laid_unicode_utf8_acceptRanges), ("unicode/utf8.first", laid_unicode_utf8_first)] }
def StyleValuesSaid : Prop := styleValuesRow.holds Tryd.pinned (OpenSpec.ofChange styleValuesSpec)

/-- ITS FALSE NEIGHBOUR: 'it returns false'. Refute it at one input. -/
def styleValuesWrong : ChangeSpec := { name := "styleValues", fn := fun _ => fun
  | [d] => { results := [.lit (.bool false)], args := [d] }
  | _ => none }
def StyleValuesWrongFalsely : Prop := styleValuesRow.holds Tryd.pinned (OpenSpec.ofChange styleValuesWrong)

/-- 'versolaw07.StyleAgain': WHATEVER THE INPUT: true; the input reads as it did. -/
def styleAgainSpec : ChangeSpec := { name := "styleAgain", fn := fun _ => fun
  | [d1, d2] => { results := [.lit (.bool true)], args := [d1, d2] }
  | _ => none }
def styleAgainRow : OpenClaim := { program := "ytkgdplfcanonhaadoor", sum := "eb4da62c557dc212ce72b80719ac65b816963294c25277c989fa26555810c6b0", func := "verso/versolaw07.StyleAgain", spec := "styleAgain", inPlace := ["internal/bytealg.IndexByteString", "internal/bytealg.CountString", "internal/bytealg.IndexString", "internal/abi.NoEscape", "internal/bytealg.MakeNoZero"], unfollowed := true, recurses := true, named := ["unicode/utf8.first", "unicode/utf8.acceptRanges", "internal/bytealg.MaxLen"], apart := false, laid := [("unicode/utf8.acceptRanges", laid_unicode_utf8_acceptRanges), ("unicode/utf8.first", laid_unicode_utf8_first)] }
def StyleAgainSaid : Prop := styleAgainRow.holds Tryd.pinned (OpenSpec.ofChange styleAgainSpec)

/-- ITS FALSE NEIGHBOUR: 'it returns false'. Refute it at one input. -/
def styleAgainWrong : ChangeSpec := { name := "styleAgain", fn := fun _ => fun
  | [d1, d2] => { results := [.lit (.bool false)], args := [d1, d2] }
  | _ => none }
def StyleAgainWrongFalsely : Prop := styleAgainRow.holds Tryd.pinned (OpenSpec.ofChange styleAgainWrong)

/-- 'versolaw07.StyleFewer': WHATEVER THE INPUT: true; the input reads as it did. -/
def styleFewerSpec : ChangeSpec := { name := "styleFewer", fn := fun _ => fun
  | [d1, d2, d3] => { results := [.lit (.bool true)], args := [d1, d2, d3] }
  | _ => none }
def styleFewerRow : OpenClaim := { program := "ytkgdplfcanonhaadoor", sum := "eb4da62c557dc212ce72b80719ac65b816963294c25277c989fa26555810c6b0", func := "verso/versolaw07.StyleFewer", spec := "styleFewer", inPlace := ["internal/bytealg.IndexByteString", "internal/bytealg.CountString", "internal/bytealg.IndexString", "internal/abi.NoEscape", "internal/bytealg.MakeNoZero"], unfollowed := true, recurses := true, named := ["unicode/utf8.first", "unicode/utf8.acceptRanges", "internal/bytealg.MaxLen"], apart := false, laid := [("unicode/utf8.acceptRanges", laid_unicode_utf8_acceptRanges), ("unicode/utf8.first", laid_unicode_utf8_first)] }
def StyleFewerSaid : Prop := styleFewerRow.holds Tryd.pinned (OpenSpec.ofChange styleFewerSpec)

/-- ITS FALSE NEIGHBOUR: 'it returns false'. Refute it at one input. -/
def styleFewerWrong : ChangeSpec := { name := "styleFewer", fn := fun _ => fun
  | [d1, d2, d3] => { results := [.lit (.bool false)], args := [d1, d2, d3] }
  | _ => none }
def StyleFewerWrongFalsely : Prop := styleFewerRow.holds Tryd.pinned (OpenSpec.ofChange styleFewerWrong)

/-- 'versolaw07.StyleOne': WHATEVER THE INPUT: true; the input reads as it did. -/
def styleOneSpec : ChangeSpec := { name := "styleOne", fn := fun _ => fun
  | [d1, d2, d3] => { results := [.lit (.bool true)], args := [d1, d2, d3] }
  | _ => none }
def styleOneRow : OpenClaim := { program := "ytkgdplfcanonhaadoor", sum := "eb4da62c557dc212ce72b80719ac65b816963294c25277c989fa26555810c6b0", func := "verso/versolaw07.StyleOne", spec := "styleOne", inPlace := ["internal/bytealg.IndexByteString", "internal/bytealg.CountString", "internal/bytealg.IndexString", "internal/abi.NoEscape", "internal/bytealg.MakeNoZero"], unfollowed := true, recurses := true, named := ["unicode/utf8.first", "unicode/utf8.acceptRanges", "internal/bytealg.MaxLen"], apart := false, laid := [("unicode/utf8.acceptRanges", laid_unicode_utf8_acceptRanges), ("unicode/utf8.first", laid_unicode_utf8_first)] }
def StyleOneSaid : Prop := styleOneRow.holds Tryd.pinned (OpenSpec.ofChange styleOneSpec)

/-- ITS FALSE NEIGHBOUR: 'it returns false'. Refute it at one input. -/
def styleOneWrong : ChangeSpec := { name := "styleOne", fn := fun _ => fun
  | [d1, d2, d3] => { results := [.lit (.bool false)], args := [d1, d2, d3] }
  | _ => none }
def StyleOneWrongFalsely : Prop := styleOneRow.holds Tryd.pinned (OpenSpec.ofChange styleOneWrong)

/-- 'versolaw07.StyleTwo': WHATEVER THE INPUT: true; the input reads as it did. -/
def styleTwoSpec : ChangeSpec := { name := "styleTwo", fn := fun _ => fun
  | [d1, d2] => { results := [.lit (.bool true)], args := [d1, d2] }
  | _ => none }
def styleTwoRow : OpenClaim := { program := "ytkgdplfcanonhaadoor", sum := "eb4da62c557dc212ce72b80719ac65b816963294c25277c989fa26555810c6b0", func := "verso/versolaw07.StyleTwo", spec := "styleTwo", inPlace := ["internal/bytealg.IndexByteString", "internal/bytealg.CountString", "internal/bytealg.IndexString", "internal/abi.NoEscape", "internal/bytealg.MakeNoZero"], unfollowed := true, recurses := true, named := ["unicode/utf8.first", "unicode/utf8.acceptRanges", "internal/bytealg.MaxLen"], apart := false, laid := [("unicode/utf8.acceptRanges", laid_unicode_utf8_acceptRanges), ("unicode/utf8.first", laid_unicode_utf8_first)] }
def StyleTwoSaid : Prop := styleTwoRow.holds Tryd.pinned (OpenSpec.ofChange styleTwoSpec)

/-- ITS FALSE NEIGHBOUR: 'it returns false'. Refute it at one input. -/
def styleTwoWrong : ChangeSpec := { name := "styleTwo", fn := fun _ => fun
  | [d1, d2] => { results := [.lit (.bool false)], args := [d1, d2] }
  | _ => none }
def StyleTwoWrongFalsely : Prop := styleTwoRow.holds Tryd.pinned (OpenSpec.ofChange styleTwoWrong)

/- THE SECOND FORM. 'bulk': how many values and letters a reading holds, each counted each time it is reached (what is shared counts as often as it is met; a slice's spare places count too). A statement '..UptoSaid' is the law's where the arguments, and the package variables that the reading takes, are together of bulk at most 1048576: NARROWER than '..Said'. Prove '..Said' where nothing that the law and all that it calls make is longer than what came in: it says more and counts as full. Else prove '..UptoSaid'. A law counts once. -/
mutual
def uptoBulk {H : Type} : DataW H → Nat
  | .lit (.string bytes) => bytes.length + 1
  | .lit _ => 1
  | .nil => 1
  | .ptr d => uptoBulk d + 1
  | .slice elems spare => uptoBulkAll elems + uptoBulkAll spare + 1
  | .agg parts => uptoBulkAll parts + 1
  | .iface _ d => uptoBulk d + 1
  | .map entries => uptoBulkEntries entries + 1
  | .held _ => 1
def uptoBulkAll {H : Type} : List (DataW H) → Nat
  | [] => 0
  | d :: r => uptoBulk d + uptoBulkAll r
def uptoBulkEntries {H : Type} : List (Lit × DataW H) → Nat
  | [] => 0
  | x :: r => uptoBulkEntry x + uptoBulkEntries r
def uptoBulkEntry {H : Type} : Lit × DataW H → Nat
  | (.string bytes, d) => bytes.length + uptoBulk d + 1
  | (_, d) => uptoBulk d + 1
 end
def uptoSmall : (H : Type) → List (DataW H) → Bool := fun _ ds => decide (uptoBulkAll ds ≤ 1048576)
def OpenSpec.upto (s : _root_.Go.ChangeSpec) : _root_.Go.OpenSpec := { _root_.Go.OpenSpec.ofChange s with cond := some uptoSmall }

/-- 'versolaw07.StyleFilters', WHERE WHAT IT READS IS OF BULK AT MOST 1048576: true; the input reads as it did. -/
def styleFiltersUptoRow : OpenClaim := { program := "ytkgdplfcanonhaadoor", sum := "eb4da62c557dc212ce72b80719ac65b816963294c25277c989fa26555810c6b0", func := "verso/versolaw07.StyleFilters", spec := "styleFilters", inPlace := ["internal/bytealg.IndexByteString", "internal/bytealg.CountString", "internal/bytealg.IndexString", "internal/abi.NoEscape", "internal/bytealg.MakeNoZero"], unfollowed := true, recurses := true, named := ["unicode/utf8.first", "unicode/utf8.acceptRanges", "internal/bytealg.MaxLen"], apart := false, laid := [("unicode/utf8.acceptRanges", laid_unicode_utf8_acceptRanges), ("unicode/utf8.first", laid_unicode_utf8_first)], narrowed := true }
def StyleFiltersUptoSaid : Prop := styleFiltersUptoRow.holds Tryd.pinned (OpenSpec.upto styleFiltersSpec)

/-- 'versolaw07.StyleValues', WHERE WHAT IT READS IS OF BULK AT MOST 1048576: true; the input reads as it did. -/
def styleValuesUptoRow : OpenClaim := { program := "ytkgdplfcanonhaadoor", sum := "eb4da62c557dc212ce72b80719ac65b816963294c25277c989fa26555810c6b0", func := "verso/versolaw07.StyleValues", spec := "styleValues", inPlace := ["internal/bytealg.IndexByteString", "internal/bytealg.CountString", "internal/bytealg.IndexString", "internal/abi.NoEscape", "internal/bytealg.MakeNoZero"], unfollowed := true, recurses := true, named := ["unicode/utf8.first", "unicode/utf8.acceptRanges", "internal/bytealg.MaxLen"], apart := false, laid := [("unicode/utf8.acceptRanges", laid_unicode_utf8_acceptRanges), ("unicode/utf8.first", laid_unicode_utf8_first)], narrowed := true }
def StyleValuesUptoSaid : Prop := styleValuesUptoRow.holds Tryd.pinned (OpenSpec.upto styleValuesSpec)

/-- 'versolaw07.StyleAgain', WHERE WHAT IT READS IS OF BULK AT MOST 1048576: true; the input reads as it did. -/
def styleAgainUptoRow : OpenClaim := { program := "ytkgdplfcanonhaadoor", sum := "eb4da62c557dc212ce72b80719ac65b816963294c25277c989fa26555810c6b0", func := "verso/versolaw07.StyleAgain", spec := "styleAgain", inPlace := ["internal/bytealg.IndexByteString", "internal/bytealg.CountString", "internal/bytealg.IndexString", "internal/abi.NoEscape", "internal/bytealg.MakeNoZero"], unfollowed := true, recurses := true, named := ["unicode/utf8.first", "unicode/utf8.acceptRanges", "internal/bytealg.MaxLen"], apart := false, laid := [("unicode/utf8.acceptRanges", laid_unicode_utf8_acceptRanges), ("unicode/utf8.first", laid_unicode_utf8_first)], narrowed := true }
def StyleAgainUptoSaid : Prop := styleAgainUptoRow.holds Tryd.pinned (OpenSpec.upto styleAgainSpec)

/-- 'versolaw07.StyleFewer', WHERE WHAT IT READS IS OF BULK AT MOST 1048576: true; the input reads as it did. -/
def styleFewerUptoRow : OpenClaim := { program := "ytkgdplfcanonhaadoor", sum := "eb4da62c557dc212ce72b80719ac65b816963294c25277c989fa26555810c6b0", func := "verso/versolaw07.StyleFewer", spec := "styleFewer", inPlace := ["internal/bytealg.IndexByteString", "internal/bytealg.CountString", "internal/bytealg.IndexString", "internal/abi.NoEscape", "internal/bytealg.MakeNoZero"], unfollowed := true, recurses := true, named := ["unicode/utf8.first", "unicode/utf8.acceptRanges", "internal/bytealg.MaxLen"], apart := false, laid := [("unicode/utf8.acceptRanges", laid_unicode_utf8_acceptRanges), ("unicode/utf8.first", laid_unicode_utf8_first)], narrowed := true }
def StyleFewerUptoSaid : Prop := styleFewerUptoRow.holds Tryd.pinned (OpenSpec.upto styleFewerSpec)

/-- 'versolaw07.StyleOne', WHERE WHAT IT READS IS OF BULK AT MOST 1048576: true; the input reads as it did. -/
def styleOneUptoRow : OpenClaim := { program := "ytkgdplfcanonhaadoor", sum := "eb4da62c557dc212ce72b80719ac65b816963294c25277c989fa26555810c6b0", func := "verso/versolaw07.StyleOne", spec := "styleOne", inPlace := ["internal/bytealg.IndexByteString", "internal/bytealg.CountString", "internal/bytealg.IndexString", "internal/abi.NoEscape", "internal/bytealg.MakeNoZero"], unfollowed := true, recurses := true, named := ["unicode/utf8.first", "unicode/utf8.acceptRanges", "internal/bytealg.MaxLen"], apart := false, laid := [("unicode/utf8.acceptRanges", laid_unicode_utf8_acceptRanges), ("unicode/utf8.first", laid_unicode_utf8_first)], narrowed := true }
def StyleOneUptoSaid : Prop := styleOneUptoRow.holds Tryd.pinned (OpenSpec.upto styleOneSpec)

/-- 'versolaw07.StyleTwo', WHERE WHAT IT READS IS OF BULK AT MOST 1048576: true; the input reads as it did. -/
def styleTwoUptoRow : OpenClaim := { program := "ytkgdplfcanonhaadoor", sum := "eb4da62c557dc212ce72b80719ac65b816963294c25277c989fa26555810c6b0", func := "verso/versolaw07.StyleTwo", spec := "styleTwo", inPlace := ["internal/bytealg.IndexByteString", "internal/bytealg.CountString", "internal/bytealg.IndexString", "internal/abi.NoEscape", "internal/bytealg.MakeNoZero"], unfollowed := true, recurses := true, named := ["unicode/utf8.first", "unicode/utf8.acceptRanges", "internal/bytealg.MaxLen"], apart := false, laid := [("unicode/utf8.acceptRanges", laid_unicode_utf8_acceptRanges), ("unicode/utf8.first", laid_unicode_utf8_first)], narrowed := true }
def StyleTwoUptoSaid : Prop := styleTwoUptoRow.holds Tryd.pinned (OpenSpec.upto styleTwoSpec)

end Rows
end Go.Proofs.YtkgdplfcanonhaaDoor
