/-
  NARROWER THAN 'FOR EVERY INPUT', by the rows' own cells (each row's printed sentence says how): SanCleans: laid · SanTrees: loops, laid · SanAgain: laid · SanPlain: laid · SanNothing: laid · SanText: laid · SanSafe: laid · SanKeeps: loops, laid · SanStricter: laid.
  DERIVED. THE GIVEN ROWS OF THIS SEAT. 9 by the template 'for every input the law returns true; each argument reads behind the call as it read before'; 0 by the template 'total and deterministic' (their statements: YthngplknbbcecaaGreatDoorTotals.lean).
  GIVEN WITH THE SEED: the statements are not yours to turn. If you find one false, say at which input.
  Laid BY PROGRAM, IN A SANDBOX (cutbox-rows.mjs): the forced cells as the released guide's own fill.sh prints them over the translation b8b734c80998fc22… (all of the seat's roots in one cut). By AI agents, Wed Nov 11 2026. No macro, syntax, notation, axiom, sorry.
-/
import Derived.Test.YthngplknbbcecaaGreatDoorChecked
import GoSem.PinnedTables
import GoSem.Claim
import GoSem.ClaimJoined
import GoSem.ClaimMapViews
import Derived.JoinedTies
import Derived.KernelRfl
namespace Go.Proofs.YthngplknbbcecaaGreatDoor
/- THE CELL 'sum', in the pinned program and in every row, IS THE sha256 OF THE DUMP (.gsa) THAT YthngplknbbcecaaGreatDoorProg.lean LOADS. Nothing in Lean hashes anything: it is a label: what it is worth is what the hold of that sum in a sandbox is worth. -/
noncomputable def Tryz.pinned : Pinned := { name := "ythngplknbbcecaagreatdoor", sum := "b8b734c80998fc22d83f51b2f6f7fe18433cf6233b12ae5670f5b4955bf86f79", checked := Tryz.checked }
namespace Rows
def none {H : Type} : Left H := { results := [], args := [] }

/- WHAT THE LISTED PACKAGE-LEVEL VARIABLES READ AS WHEN THE CALL BEGINS. Each datum BY PROGRAM (the guide's laid-datum.mjs) off the statement by which the dump's own 'gosem.cut.vars' lays the variable. In a bare row this is a premise. The card (YthngplknbbcecaaGreatDoorCards.lean) ties it to the program's text. -/
def laid_unicode_utf8_acceptRanges {H : Type} : DataW H := .agg [.agg [.lit (.int .u8 128), .lit (.int .u8 191)], .agg [.lit (.int .u8 160), .lit (.int .u8 191)], .agg [.lit (.int .u8 128), .lit (.int .u8 159)], .agg [.lit (.int .u8 144), .lit (.int .u8 191)], .agg [.lit (.int .u8 128), .lit (.int .u8 143)], .agg [.lit (.int .u8 0), .lit (.int .u8 0)], .agg [.lit (.int .u8 0), .lit (.int .u8 0)], .agg [.lit (.int .u8 0), .lit (.int .u8 0)], .agg [.lit (.int .u8 0), .lit (.int .u8 0)], .agg [.lit (.int .u8 0), .lit (.int .u8 0)], .agg [.lit (.int .u8 0), .lit (.int .u8 0)], .agg [.lit (.int .u8 0), .lit (.int .u8 0)], .agg [.lit (.int .u8 0), .lit (.int .u8 0)], .agg [.lit (.int .u8 0), .lit (.int .u8 0)], .agg [.lit (.int .u8 0), .lit (.int .u8 0)], .agg [.lit (.int .u8 0), .lit (.int .u8 0)]]
/-- One of Go's own tables, pinned by name: the form's constant. -/
def laid_unicode_utf8_first : DataW Unit := Go.Pinned.utf8First

/-- 'versolaw11.SanCleans': WHATEVER THE INPUT: true; the input reads as it did. -/
def sanCleansSpec : ChangeSpec := { name := "sanCleans", fn := fun _ => fun
  | [d1, d2] => { results := [.lit (.bool true)], args := [d1, d2] }
  | _ => none }
def sanCleansRow : OpenClaim := { program := "ythngplknbbcecaagreatdoor", sum := "b8b734c80998fc22d83f51b2f6f7fe18433cf6233b12ae5670f5b4955bf86f79", func := "verso/versolaw11.SanCleans", spec := "sanCleans", inPlace := ["internal/bytealg.IndexByteString", "internal/bytealg.IndexString", "internal/abi.NoEscape", "internal/bytealg.CountString", "internal/bytealg.MakeNoZero"], unfollowed := true, recurses := true, named := ["internal/bytealg.MaxLen", "unicode/utf8.first", "unicode/utf8.acceptRanges"], apart := false, laid := [("unicode/utf8.acceptRanges", laid_unicode_utf8_acceptRanges), ("unicode/utf8.first", laid_unicode_utf8_first)] }
def SanCleansSaid : Prop := sanCleansRow.holds Tryz.pinned (OpenSpec.ofChange sanCleansSpec)

/-- ITS FALSE NEIGHBOUR: 'it returns false'. Refute it at one input. -/
def sanCleansWrong : ChangeSpec := { name := "sanCleans", fn := fun _ => fun
  | [d1, d2] => { results := [.lit (.bool false)], args := [d1, d2] }
  | _ => none }
def SanCleansWrongFalsely : Prop := sanCleansRow.holds Tryz.pinned (OpenSpec.ofChange sanCleansWrong)

/-- 'versolaw11.SanTrees': WHATEVER THE INPUT: true; the input reads as it did. -/
def sanTreesSpec : ChangeSpec := { name := "sanTrees", fn := fun _ => fun
  | [d1, d2, d3] => { results := [.lit (.bool true)], args := [d1, d2, d3] }
  | _ => none }
def sanTreesRow : OpenClaim := { program := "ythngplknbbcecaagreatdoor", sum := "b8b734c80998fc22d83f51b2f6f7fe18433cf6233b12ae5670f5b4955bf86f79", func := "verso/versolaw11.SanTrees", spec := "sanTrees", inPlace := ["internal/bytealg.IndexByteString", "internal/bytealg.IndexString", "internal/abi.NoEscape", "internal/bytealg.CountString", "internal/bytealg.MakeNoZero"], unfollowed := true, recurses := true, named := ["internal/bytealg.MaxLen", "unicode/utf8.first", "unicode/utf8.acceptRanges"], loops := true, apart := false, laid := [("unicode/utf8.acceptRanges", laid_unicode_utf8_acceptRanges), ("unicode/utf8.first", laid_unicode_utf8_first)] }
def SanTreesSaid : Prop := sanTreesRow.holds Tryz.pinned (OpenSpec.ofChange sanTreesSpec)

/-- ITS FALSE NEIGHBOUR: 'it returns false'. Refute it at one input. -/
def sanTreesWrong : ChangeSpec := { name := "sanTrees", fn := fun _ => fun
  | [d1, d2, d3] => { results := [.lit (.bool false)], args := [d1, d2, d3] }
  | _ => none }
def SanTreesWrongFalsely : Prop := sanTreesRow.holds Tryz.pinned (OpenSpec.ofChange sanTreesWrong)

/-- 'versolaw11.SanAgain': WHATEVER THE INPUT: true; the input reads as it did. -/
def sanAgainSpec : ChangeSpec := { name := "sanAgain", fn := fun _ => fun
  | [d1, d2] => { results := [.lit (.bool true)], args := [d1, d2] }
  | _ => none }
def sanAgainRow : OpenClaim := { program := "ythngplknbbcecaagreatdoor", sum := "b8b734c80998fc22d83f51b2f6f7fe18433cf6233b12ae5670f5b4955bf86f79", func := "verso/versolaw11.SanAgain", spec := "sanAgain", inPlace := ["internal/bytealg.IndexByteString", "internal/bytealg.IndexString", "internal/abi.NoEscape", "internal/bytealg.CountString", "internal/bytealg.MakeNoZero"], unfollowed := true, recurses := true, named := ["internal/bytealg.MaxLen", "unicode/utf8.first", "unicode/utf8.acceptRanges"], apart := false, laid := [("unicode/utf8.acceptRanges", laid_unicode_utf8_acceptRanges), ("unicode/utf8.first", laid_unicode_utf8_first)] }
def SanAgainSaid : Prop := sanAgainRow.holds Tryz.pinned (OpenSpec.ofChange sanAgainSpec)

/-- ITS FALSE NEIGHBOUR: 'it returns false'. Refute it at one input. -/
def sanAgainWrong : ChangeSpec := { name := "sanAgain", fn := fun _ => fun
  | [d1, d2] => { results := [.lit (.bool false)], args := [d1, d2] }
  | _ => none }
def SanAgainWrongFalsely : Prop := sanAgainRow.holds Tryz.pinned (OpenSpec.ofChange sanAgainWrong)

/-- 'versolaw11.SanPlain': WHATEVER THE INPUT: true; the input reads as it did. -/
def sanPlainSpec : ChangeSpec := { name := "sanPlain", fn := fun _ => fun
  | [d1, d2] => { results := [.lit (.bool true)], args := [d1, d2] }
  | _ => none }
def sanPlainRow : OpenClaim := { program := "ythngplknbbcecaagreatdoor", sum := "b8b734c80998fc22d83f51b2f6f7fe18433cf6233b12ae5670f5b4955bf86f79", func := "verso/versolaw11.SanPlain", spec := "sanPlain", inPlace := ["internal/bytealg.IndexByteString", "internal/bytealg.IndexString", "internal/abi.NoEscape", "internal/bytealg.CountString", "internal/bytealg.MakeNoZero"], unfollowed := true, recurses := true, named := ["internal/bytealg.MaxLen", "unicode/utf8.first", "unicode/utf8.acceptRanges"], apart := false, laid := [("unicode/utf8.acceptRanges", laid_unicode_utf8_acceptRanges), ("unicode/utf8.first", laid_unicode_utf8_first)] }
def SanPlainSaid : Prop := sanPlainRow.holds Tryz.pinned (OpenSpec.ofChange sanPlainSpec)

/-- ITS FALSE NEIGHBOUR: 'it returns false'. Refute it at one input. -/
def sanPlainWrong : ChangeSpec := { name := "sanPlain", fn := fun _ => fun
  | [d1, d2] => { results := [.lit (.bool false)], args := [d1, d2] }
  | _ => none }
def SanPlainWrongFalsely : Prop := sanPlainRow.holds Tryz.pinned (OpenSpec.ofChange sanPlainWrong)

/-- 'versolaw11.SanNothing': WHATEVER THE INPUT: true; the input reads as it did. -/
def sanNothingSpec : ChangeSpec := { name := "sanNothing", fn := fun _ => fun
  | [d] => { results := [.lit (.bool true)], args := [d] }
  | _ => none }
def sanNothingRow : OpenClaim := { program := "ythngplknbbcecaagreatdoor", sum := "b8b734c80998fc22d83f51b2f6f7fe18433cf6233b12ae5670f5b4955bf86f79", func := "verso/versolaw11.SanNothing", spec := "sanNothing", inPlace := ["internal/bytealg.IndexByteString", "internal/bytealg.IndexString", "internal/abi.NoEscape", "internal/bytealg.CountString", "internal/bytealg.MakeNoZero"], unfollowed := true, recurses := true, named := ["internal/bytealg.MaxLen", "unicode/utf8.first", "unicode/utf8.acceptRanges"], apart := false, laid := [("unicode/utf8.acceptRanges", laid_unicode_utf8_acceptRanges), ("unicode/utf8.first", laid_unicode_utf8_first)] }
def SanNothingSaid : Prop := sanNothingRow.holds Tryz.pinned (OpenSpec.ofChange sanNothingSpec)

/-- ITS FALSE NEIGHBOUR: 'it returns false'. Refute it at one input. -/
def sanNothingWrong : ChangeSpec := { name := "sanNothing", fn := fun _ => fun
  | [d] => { results := [.lit (.bool false)], args := [d] }
  | _ => none }
def SanNothingWrongFalsely : Prop := sanNothingRow.holds Tryz.pinned (OpenSpec.ofChange sanNothingWrong)

/-- 'versolaw11.SanText': WHATEVER THE INPUT: true; the input reads as it did. -/
def sanTextSpec : ChangeSpec := { name := "sanText", fn := fun _ => fun
  | [d1, d2] => { results := [.lit (.bool true)], args := [d1, d2] }
  | _ => none }
def sanTextRow : OpenClaim := { program := "ythngplknbbcecaagreatdoor", sum := "b8b734c80998fc22d83f51b2f6f7fe18433cf6233b12ae5670f5b4955bf86f79", func := "verso/versolaw11.SanText", spec := "sanText", inPlace := ["internal/bytealg.IndexByteString", "internal/bytealg.IndexString", "internal/abi.NoEscape", "internal/bytealg.CountString", "internal/bytealg.MakeNoZero"], unfollowed := true, recurses := true, named := ["internal/bytealg.MaxLen", "unicode/utf8.first", "unicode/utf8.acceptRanges"], apart := false, laid := [("unicode/utf8.acceptRanges", laid_unicode_utf8_acceptRanges), ("unicode/utf8.first", laid_unicode_utf8_first)] }
def SanTextSaid : Prop := sanTextRow.holds Tryz.pinned (OpenSpec.ofChange sanTextSpec)

/-- ITS FALSE NEIGHBOUR: 'it returns false'. Refute it at one input. -/
def sanTextWrong : ChangeSpec := { name := "sanText", fn := fun _ => fun
  | [d1, d2] => { results := [.lit (.bool false)], args := [d1, d2] }
  | _ => none }
def SanTextWrongFalsely : Prop := sanTextRow.holds Tryz.pinned (OpenSpec.ofChange sanTextWrong)

/-- 'versolaw11.SanSafe': WHATEVER THE INPUT: true; the input reads as it did. -/
def sanSafeSpec : ChangeSpec := { name := "sanSafe", fn := fun _ => fun
  | [d1, d2] => { results := [.lit (.bool true)], args := [d1, d2] }
  | _ => none }
def sanSafeRow : OpenClaim := { program := "ythngplknbbcecaagreatdoor", sum := "b8b734c80998fc22d83f51b2f6f7fe18433cf6233b12ae5670f5b4955bf86f79", func := "verso/versolaw11.SanSafe", spec := "sanSafe", inPlace := ["internal/bytealg.IndexByteString", "internal/bytealg.IndexString", "internal/abi.NoEscape", "internal/bytealg.CountString", "internal/bytealg.MakeNoZero"], unfollowed := true, recurses := true, named := ["internal/bytealg.MaxLen", "unicode/utf8.first", "unicode/utf8.acceptRanges"], apart := false, laid := [("unicode/utf8.acceptRanges", laid_unicode_utf8_acceptRanges), ("unicode/utf8.first", laid_unicode_utf8_first)] }
def SanSafeSaid : Prop := sanSafeRow.holds Tryz.pinned (OpenSpec.ofChange sanSafeSpec)

/-- ITS FALSE NEIGHBOUR: 'it returns false'. Refute it at one input. -/
def sanSafeWrong : ChangeSpec := { name := "sanSafe", fn := fun _ => fun
  | [d1, d2] => { results := [.lit (.bool false)], args := [d1, d2] }
  | _ => none }
def SanSafeWrongFalsely : Prop := sanSafeRow.holds Tryz.pinned (OpenSpec.ofChange sanSafeWrong)

/-- 'versolaw11.SanKeeps': WHATEVER THE INPUT: true; the input reads as it did. -/
def sanKeepsSpec : ChangeSpec := { name := "sanKeeps", fn := fun _ => fun
  | [d1, d2] => { results := [.lit (.bool true)], args := [d1, d2] }
  | _ => none }
def sanKeepsRow : OpenClaim := { program := "ythngplknbbcecaagreatdoor", sum := "b8b734c80998fc22d83f51b2f6f7fe18433cf6233b12ae5670f5b4955bf86f79", func := "verso/versolaw11.SanKeeps", spec := "sanKeeps", inPlace := ["internal/bytealg.IndexByteString", "internal/bytealg.IndexString", "internal/abi.NoEscape", "internal/bytealg.CountString", "internal/bytealg.MakeNoZero"], unfollowed := true, recurses := true, named := ["internal/bytealg.MaxLen", "unicode/utf8.first", "unicode/utf8.acceptRanges"], loops := true, apart := false, laid := [("unicode/utf8.acceptRanges", laid_unicode_utf8_acceptRanges), ("unicode/utf8.first", laid_unicode_utf8_first)] }
def SanKeepsSaid : Prop := sanKeepsRow.holds Tryz.pinned (OpenSpec.ofChange sanKeepsSpec)

/-- ITS FALSE NEIGHBOUR: 'it returns false'. Refute it at one input. -/
def sanKeepsWrong : ChangeSpec := { name := "sanKeeps", fn := fun _ => fun
  | [d1, d2] => { results := [.lit (.bool false)], args := [d1, d2] }
  | _ => none }
def SanKeepsWrongFalsely : Prop := sanKeepsRow.holds Tryz.pinned (OpenSpec.ofChange sanKeepsWrong)

/-- 'versolaw11.SanStricter': WHATEVER THE INPUT: true; the input reads as it did. -/
def sanStricterSpec : ChangeSpec := { name := "sanStricter", fn := fun _ => fun
  | [d1, d2, d3] => { results := [.lit (.bool true)], args := [d1, d2, d3] }
  | _ => none }
def sanStricterRow : OpenClaim := { program := "ythngplknbbcecaagreatdoor", sum := "b8b734c80998fc22d83f51b2f6f7fe18433cf6233b12ae5670f5b4955bf86f79", func := "verso/versolaw11.SanStricter", spec := "sanStricter", inPlace := ["internal/bytealg.IndexByteString", "internal/bytealg.IndexString", "internal/abi.NoEscape", "internal/bytealg.CountString", "internal/bytealg.MakeNoZero"], unfollowed := true, recurses := true, named := ["internal/bytealg.MaxLen", "unicode/utf8.first", "unicode/utf8.acceptRanges"], apart := false, laid := [("unicode/utf8.acceptRanges", laid_unicode_utf8_acceptRanges), ("unicode/utf8.first", laid_unicode_utf8_first)] }
def SanStricterSaid : Prop := sanStricterRow.holds Tryz.pinned (OpenSpec.ofChange sanStricterSpec)

/-- ITS FALSE NEIGHBOUR: 'it returns false'. Refute it at one input. -/
def sanStricterWrong : ChangeSpec := { name := "sanStricter", fn := fun _ => fun
  | [d1, d2, d3] => { results := [.lit (.bool false)], args := [d1, d2, d3] }
  | _ => none }
def SanStricterWrongFalsely : Prop := sanStricterRow.holds Tryz.pinned (OpenSpec.ofChange sanStricterWrong)

/- THE SECOND FORM. 'bulk': how many values and letters a reading holds, each counted each time it is reached (what is shared counts as often as it is met; a slice's spare places count too). A statement '..UptoSaid' is the law's where the arguments, and the package variables that the reading takes, are together of bulk at most 1048576: NARROWER than '..Said'. Prove '..Said' where nothing that the law and all that it calls make is longer than what came in: it says more and counts as full. Else prove '..UptoSaid'. A law counts once. -/
mutual
def uptoBulk {H : Type} : DataW H → Nat
  | .lit (.string bytes) => bytes.length + 1
  | .lit _ => 1
  | .nil => 1
  | .ptr d => uptoBulk d + 1
  | .slice elems spare => uptoBulkAll elems + uptoBulkAll spare + 1
  | .agg parts => uptoBulkAll parts + 1
  | .iface _ d => uptoBulk d + 1
  | .map entries => uptoBulkEntries entries + 1
  | .held _ => 1
def uptoBulkAll {H : Type} : List (DataW H) → Nat
  | [] => 0
  | d :: r => uptoBulk d + uptoBulkAll r
def uptoBulkEntries {H : Type} : List (Lit × DataW H) → Nat
  | [] => 0
  | x :: r => uptoBulkEntry x + uptoBulkEntries r
def uptoBulkEntry {H : Type} : Lit × DataW H → Nat
  | (.string bytes, d) => bytes.length + uptoBulk d + 1
  | (_, d) => uptoBulk d + 1
 end
def uptoSmall : (H : Type) → List (DataW H) → Bool := fun _ ds => decide (uptoBulkAll ds ≤ 1048576)
def OpenSpec.upto (s : _root_.Go.ChangeSpec) : _root_.Go.OpenSpec := { _root_.Go.OpenSpec.ofChange s with cond := some uptoSmall }

/-- 'versolaw11.SanCleans', WHERE WHAT IT READS IS OF BULK AT MOST 1048576: true; the input reads as it did. -/
def sanCleansUptoRow : OpenClaim := { program := "ythngplknbbcecaagreatdoor", sum := "b8b734c80998fc22d83f51b2f6f7fe18433cf6233b12ae5670f5b4955bf86f79", func := "verso/versolaw11.SanCleans", spec := "sanCleans", inPlace := ["internal/bytealg.IndexByteString", "internal/bytealg.IndexString", "internal/abi.NoEscape", "internal/bytealg.CountString", "internal/bytealg.MakeNoZero"], unfollowed := true, recurses := true, named := ["internal/bytealg.MaxLen", "unicode/utf8.first", "unicode/utf8.acceptRanges"], apart := false, laid := [("unicode/utf8.acceptRanges", laid_unicode_utf8_acceptRanges), ("unicode/utf8.first", laid_unicode_utf8_first)], narrowed := true }
def SanCleansUptoSaid : Prop := sanCleansUptoRow.holds Tryz.pinned (OpenSpec.upto sanCleansSpec)

/-- 'versolaw11.SanTrees', WHERE WHAT IT READS IS OF BULK AT MOST 1048576: true; the input reads as it did. -/
def sanTreesUptoRow : OpenClaim := { program := "ythngplknbbcecaagreatdoor", sum := "b8b734c80998fc22d83f51b2f6f7fe18433cf6233b12ae5670f5b4955bf86f79", func := "verso/versolaw11.SanTrees", spec := "sanTrees", inPlace := ["internal/bytealg.IndexByteString", "internal/bytealg.IndexString", "internal/abi.NoEscape", "internal/bytealg.CountString", "internal/bytealg.MakeNoZero"], unfollowed := true, recurses := true, named := ["internal/bytealg.MaxLen", "unicode/utf8.first", "unicode/utf8.acceptRanges"], loops := true, apart := false, laid := [("unicode/utf8.acceptRanges", laid_unicode_utf8_acceptRanges), ("unicode/utf8.first", laid_unicode_utf8_first)], narrowed := true }
def SanTreesUptoSaid : Prop := sanTreesUptoRow.holds Tryz.pinned (OpenSpec.upto sanTreesSpec)

/-- 'versolaw11.SanAgain', WHERE WHAT IT READS IS OF BULK AT MOST 1048576: true; the input reads as it did. -/
def sanAgainUptoRow : OpenClaim := { program := "ythngplknbbcecaagreatdoor", sum := "b8b734c80998fc22d83f51b2f6f7fe18433cf6233b12ae5670f5b4955bf86f79", func := "verso/versolaw11.SanAgain", spec := "sanAgain", inPlace := ["internal/bytealg.IndexByteString", "internal/bytealg.IndexString", "internal/abi.NoEscape", "internal/bytealg.CountString", "internal/bytealg.MakeNoZero"], unfollowed := true, recurses := true, named := ["internal/bytealg.MaxLen", "unicode/utf8.first", "unicode/utf8.acceptRanges"], apart := false, laid := [("unicode/utf8.acceptRanges", laid_unicode_utf8_acceptRanges), ("unicode/utf8.first", laid_unicode_utf8_first)], narrowed := true }
def SanAgainUptoSaid : Prop := sanAgainUptoRow.holds Tryz.pinned (OpenSpec.upto sanAgainSpec)

/-- 'versolaw11.SanPlain', WHERE WHAT IT READS IS OF BULK AT MOST 1048576: true; the input reads as it did. -/
def sanPlainUptoRow : OpenClaim := { program := "ythngplknbbcecaagreatdoor", sum := "b8b734c80998fc22d83f51b2f6f7fe18433cf6233b12ae5670f5b4955bf86f79", func := "verso/versolaw11.SanPlain", spec := "sanPlain", inPlace := ["internal/bytealg.IndexByteString", "internal/bytealg.IndexString", "internal/abi.NoEscape", "internal/bytealg.CountString", "internal/bytealg.MakeNoZero"], unfollowed := true, recurses := true, named := ["internal/bytealg.MaxLen", "unicode/utf8.first", "unicode/utf8.acceptRanges"], apart := false, laid := [("unicode/utf8.acceptRanges", laid_unicode_utf8_acceptRanges), ("unicode/utf8.first", laid_unicode_utf8_first)], narrowed := true }
def SanPlainUptoSaid : Prop := sanPlainUptoRow.holds Tryz.pinned (OpenSpec.upto sanPlainSpec)

/-- 'versolaw11.SanNothing', WHERE WHAT IT READS IS OF BULK AT MOST 1048576: true; the input reads as it did. -/
def sanNothingUptoRow : OpenClaim := { program := "ythngplknbbcecaagreatdoor", sum := "b8b734c80998fc22d83f51b2f6f7fe18433cf6233b12ae5670f5b4955bf86f79", func := "verso/versolaw11.SanNothing", spec := "sanNothing", inPlace := ["internal/bytealg.IndexByteString", "internal/bytealg.IndexString", "internal/abi.NoEscape", "internal/bytealg.CountString", "internal/bytealg.MakeNoZero"], unfollowed := true, recurses := true, named := ["internal/bytealg.MaxLen", "unicode/utf8.first", "unicode/utf8.acceptRanges"], apart := false, laid := [("unicode/utf8.acceptRanges", laid_unicode_utf8_acceptRanges), ("unicode/utf8.first", laid_unicode_utf8_first)], narrowed := true }
def SanNothingUptoSaid : Prop := sanNothingUptoRow.holds Tryz.pinned (OpenSpec.upto sanNothingSpec)

/-- 'versolaw11.SanText', WHERE WHAT IT READS IS OF BULK AT MOST 1048576: true; the input reads as it did. -/
def sanTextUptoRow : OpenClaim := { program := "ythngplknbbcecaagreatdoor", sum := "b8b734c80998fc22d83f51b2f6f7fe18433cf6233b12ae5670f5b4955bf86f79", func := "verso/versolaw11.SanText", spec := "sanText", inPlace := ["internal/bytealg.IndexByteString", "internal/bytealg.IndexString", "internal/abi.NoEscape", "internal/bytealg.CountString", "internal/bytealg.MakeNoZero"], unfollowed := true, recurses := true, named := ["internal/bytealg.MaxLen", "unicode/utf8.first", "unicode/utf8.acceptRanges"], apart := false, laid := [("unicode/utf8.acceptRanges", laid_unicode_utf8_acceptRanges), ("unicode/utf8.first", laid_unicode_utf8_first)], narrowed := true }
def SanTextUptoSaid : Prop := sanTextUptoRow.holds Tryz.pinned (OpenSpec.upto sanTextSpec)

/-- 'versolaw11.SanSafe', WHERE WHAT IT READS IS OF BULK AT MOST 1048576: true; the input reads as it did. -/
def sanSafeUptoRow : OpenClaim := { program := "ythngplknbbcecaagreatdoor", sum := "b8b734c80998fc22d83f51b2f6f7fe18433cf6233b12ae5670f5b4955bf86f79", func := "verso/versolaw11.SanSafe", spec := "sanSafe", inPlace := ["internal/bytealg.IndexByteString", "internal/bytealg.IndexString", "internal/abi.NoEscape", "internal/bytealg.CountString", "internal/bytealg.MakeNoZero"], unfollowed := true, recurses := true, named := ["internal/bytealg.MaxLen", "unicode/utf8.first", "unicode/utf8.acceptRanges"], apart := false, laid := [("unicode/utf8.acceptRanges", laid_unicode_utf8_acceptRanges), ("unicode/utf8.first", laid_unicode_utf8_first)], narrowed := true }
def SanSafeUptoSaid : Prop := sanSafeUptoRow.holds Tryz.pinned (OpenSpec.upto sanSafeSpec)

/-- 'versolaw11.SanKeeps', WHERE WHAT IT READS IS OF BULK AT MOST 1048576: true; the input reads as it did. -/
def sanKeepsUptoRow : OpenClaim := { program := "ythngplknbbcecaagreatdoor", sum := "b8b734c80998fc22d83f51b2f6f7fe18433cf6233b12ae5670f5b4955bf86f79", func := "verso/versolaw11.SanKeeps", spec := "sanKeeps", inPlace := ["internal/bytealg.IndexByteString", "internal/bytealg.IndexString", "internal/abi.NoEscape", "internal/bytealg.CountString", "internal/bytealg.MakeNoZero"], unfollowed := true, recurses := true, named := ["internal/bytealg.MaxLen", "unicode/utf8.first", "unicode/utf8.acceptRanges"], loops := true, apart := false, laid := [("unicode/utf8.acceptRanges", laid_unicode_utf8_acceptRanges), ("unicode/utf8.first", laid_unicode_utf8_first)], narrowed := true }
def SanKeepsUptoSaid : Prop := sanKeepsUptoRow.holds Tryz.pinned (OpenSpec.upto sanKeepsSpec)

/-- 'versolaw11.SanStricter', WHERE WHAT IT READS IS OF BULK AT MOST 1048576: true; the input reads as it did. -/
def sanStricterUptoRow : OpenClaim := { program := "ythngplknbbcecaagreatdoor", sum := "b8b734c80998fc22d83f51b2f6f7fe18433cf6233b12ae5670f5b4955bf86f79", func := "verso/versolaw11.SanStricter", spec := "sanStricter", inPlace := ["internal/bytealg.IndexByteString", "internal/bytealg.IndexString", "internal/abi.NoEscape", "internal/bytealg.CountString", "internal/bytealg.MakeNoZero"], unfollowed := true, recurses := true, named := ["internal/bytealg.MaxLen", "unicode/utf8.first", "unicode/utf8.acceptRanges"], apart := false, laid := [("unicode/utf8.acceptRanges", laid_unicode_utf8_acceptRanges), ("unicode/utf8.first", laid_unicode_utf8_first)], narrowed := true }
def SanStricterUptoSaid : Prop := sanStricterUptoRow.holds Tryz.pinned (OpenSpec.upto sanStricterSpec)

end Rows
end Go.Proofs.YthngplknbbcecaaGreatDoor
