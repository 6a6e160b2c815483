/-
  No cell of these rows narrows 'for every input' (looked for: loops, veiled, ifaces, maps, wideKeys, modest, calm, conditions, laid).
  DERIVED. THE GIVEN ROWS OF THIS SEAT. 8 by the template 'for every input the law returns true; each argument reads behind the call as it read before'; 0 by the template 'total and deterministic' (their statements: YtfkghepfeegmhaaTotals.lean).
  GIVEN WITH THE SEED: the statements are not yours to turn. If you find one false, say at which input.
  Laid BY PROGRAM, IN A SANDBOX (cutbox-rows.mjs): the forced cells as the released guide's own fill.sh prints them over the translation a4116612e23458b4… (all of the seat's roots in one cut). By AI agents, Wed Nov 11 2026. No macro, syntax, notation, axiom, sorry.
-/
import Derived.Test.YtfkghepfeegmhaaChecked
import GoSem.Claim
import GoSem.ClaimJoined
import GoSem.ClaimMapViews
import Derived.JoinedTies
import Derived.KernelRfl
namespace Go.Proofs.Ytfkghepfeegmhaa
/- THE CELL 'sum', in the pinned program and in every row, IS THE sha256 OF THE DUMP (.gsa) THAT YtfkghepfeegmhaaProg.lean LOADS. Nothing in Lean hashes anything: it is a label: what it is worth is what the hold of that sum in a sandbox is worth. -/
noncomputable def Try.pinned : Pinned := { name := "ytfkghepfeegmhaa", sum := "a4116612e23458b4023388dfdad1f886ad5e7d633813372e54e4ffb669b8970a", checked := Try.checked }
namespace Rows
def none {H : Type} : Left H := { results := [], args := [] }

/-- 'versolaw02.RefsNames': WHATEVER THE INPUT: true; the input reads as it did. -/
def refsNamesSpec : ChangeSpec := { name := "refsNames", fn := fun _ => fun
  | [d] => { results := [.lit (.bool true)], args := [d] }
  | _ => none }
def refsNamesRow : OpenClaim := { program := "ytfkghepfeegmhaa", sum := "a4116612e23458b4023388dfdad1f886ad5e7d633813372e54e4ffb669b8970a", func := "verso/versolaw02.RefsNames", spec := "refsNames", inPlace := ["internal/bytealg.IndexByteString", "internal/abi.NoEscape"], apart := false }
def RefsNamesSaid : Prop := refsNamesRow.holds Try.pinned (OpenSpec.ofChange refsNamesSpec)

/-- ITS FALSE NEIGHBOUR: 'it returns false'. Refute it at one input. -/
def refsNamesWrong : ChangeSpec := { name := "refsNames", fn := fun _ => fun
  | [d] => { results := [.lit (.bool false)], args := [d] }
  | _ => none }
def RefsNamesWrongFalsely : Prop := refsNamesRow.holds Try.pinned (OpenSpec.ofChange refsNamesWrong)

/-- 'versolaw02.RefsResolves': WHATEVER THE INPUT: true; the input reads as it did. -/
def refsResolvesSpec : ChangeSpec := { name := "refsResolves", fn := fun _ => fun
  | [d] => { results := [.lit (.bool true)], args := [d] }
  | _ => none }
def refsResolvesRow : OpenClaim := { program := "ytfkghepfeegmhaa", sum := "a4116612e23458b4023388dfdad1f886ad5e7d633813372e54e4ffb669b8970a", func := "verso/versolaw02.RefsResolves", spec := "refsResolves", inPlace := ["internal/bytealg.IndexByteString", "internal/abi.NoEscape"], apart := false }
def RefsResolvesSaid : Prop := refsResolvesRow.holds Try.pinned (OpenSpec.ofChange refsResolvesSpec)

/-- ITS FALSE NEIGHBOUR: 'it returns false'. Refute it at one input. -/
def refsResolvesWrong : ChangeSpec := { name := "refsResolves", fn := fun _ => fun
  | [d] => { results := [.lit (.bool false)], args := [d] }
  | _ => none }
def RefsResolvesWrongFalsely : Prop := refsResolvesRow.holds Try.pinned (OpenSpec.ofChange refsResolvesWrong)

/-- 'versolaw02.RefsEscapes': WHATEVER THE INPUT: true; the input reads as it did. -/
def refsEscapesSpec : ChangeSpec := { name := "refsEscapes", fn := fun _ => fun
  | [d1, d2] => { results := [.lit (.bool true)], args := [d1, d2] }
  | _ => none }
def refsEscapesRow : OpenClaim := { program := "ytfkghepfeegmhaa", sum := "a4116612e23458b4023388dfdad1f886ad5e7d633813372e54e4ffb669b8970a", func := "verso/versolaw02.RefsEscapes", spec := "refsEscapes", inPlace := ["internal/bytealg.IndexByteString", "internal/abi.NoEscape"], apart := false }
def RefsEscapesSaid : Prop := refsEscapesRow.holds Try.pinned (OpenSpec.ofChange refsEscapesSpec)

/-- ITS FALSE NEIGHBOUR: 'it returns false'. Refute it at one input. -/
def refsEscapesWrong : ChangeSpec := { name := "refsEscapes", fn := fun _ => fun
  | [d1, d2] => { results := [.lit (.bool false)], args := [d1, d2] }
  | _ => none }
def RefsEscapesWrongFalsely : Prop := refsEscapesRow.holds Try.pinned (OpenSpec.ofChange refsEscapesWrong)

/-- 'versolaw02.RefsBack': WHATEVER THE INPUT: true; the input reads as it did. -/
def refsBackSpec : ChangeSpec := { name := "refsBack", fn := fun _ => fun
  | [d1, d2] => { results := [.lit (.bool true)], args := [d1, d2] }
  | _ => none }
def refsBackRow : OpenClaim := { program := "ytfkghepfeegmhaa", sum := "a4116612e23458b4023388dfdad1f886ad5e7d633813372e54e4ffb669b8970a", func := "verso/versolaw02.RefsBack", spec := "refsBack", inPlace := ["internal/bytealg.IndexByteString", "internal/abi.NoEscape"], apart := false }
def RefsBackSaid : Prop := refsBackRow.holds Try.pinned (OpenSpec.ofChange refsBackSpec)

/-- ITS FALSE NEIGHBOUR: 'it returns false'. Refute it at one input. -/
def refsBackWrong : ChangeSpec := { name := "refsBack", fn := fun _ => fun
  | [d1, d2] => { results := [.lit (.bool false)], args := [d1, d2] }
  | _ => none }
def RefsBackWrongFalsely : Prop := refsBackRow.holds Try.pinned (OpenSpec.ofChange refsBackWrong)

/-- 'versolaw02.RefsPlain': WHATEVER THE INPUT: true; the input reads as it did. -/
def refsPlainSpec : ChangeSpec := { name := "refsPlain", fn := fun _ => fun
  | [d1, d2] => { results := [.lit (.bool true)], args := [d1, d2] }
  | _ => none }
def refsPlainRow : OpenClaim := { program := "ytfkghepfeegmhaa", sum := "a4116612e23458b4023388dfdad1f886ad5e7d633813372e54e4ffb669b8970a", func := "verso/versolaw02.RefsPlain", spec := "refsPlain", inPlace := ["internal/bytealg.IndexByteString", "internal/abi.NoEscape"], apart := false }
def RefsPlainSaid : Prop := refsPlainRow.holds Try.pinned (OpenSpec.ofChange refsPlainSpec)

/-- ITS FALSE NEIGHBOUR: 'it returns false'. Refute it at one input. -/
def refsPlainWrong : ChangeSpec := { name := "refsPlain", fn := fun _ => fun
  | [d1, d2] => { results := [.lit (.bool false)], args := [d1, d2] }
  | _ => none }
def RefsPlainWrongFalsely : Prop := refsPlainRow.holds Try.pinned (OpenSpec.ofChange refsPlainWrong)

/-- 'versolaw02.RefsParts': WHATEVER THE INPUT: true; the input reads as it did. -/
def refsPartsSpec : ChangeSpec := { name := "refsParts", fn := fun _ => fun
  | [d1, d2, d3] => { results := [.lit (.bool true)], args := [d1, d2, d3] }
  | _ => none }
def refsPartsRow : OpenClaim := { program := "ytfkghepfeegmhaa", sum := "a4116612e23458b4023388dfdad1f886ad5e7d633813372e54e4ffb669b8970a", func := "verso/versolaw02.RefsParts", spec := "refsParts", inPlace := ["internal/bytealg.IndexByteString", "internal/abi.NoEscape"], apart := false }
def RefsPartsSaid : Prop := refsPartsRow.holds Try.pinned (OpenSpec.ofChange refsPartsSpec)

/-- ITS FALSE NEIGHBOUR: 'it returns false'. Refute it at one input. -/
def refsPartsWrong : ChangeSpec := { name := "refsParts", fn := fun _ => fun
  | [d1, d2, d3] => { results := [.lit (.bool false)], args := [d1, d2, d3] }
  | _ => none }
def RefsPartsWrongFalsely : Prop := refsPartsRow.holds Try.pinned (OpenSpec.ofChange refsPartsWrong)

/-- 'versolaw02.RefsNumber': WHATEVER THE INPUT: true; the input reads as it did. -/
def refsNumberSpec : ChangeSpec := { name := "refsNumber", fn := fun _ => fun
  | [d] => { results := [.lit (.bool true)], args := [d] }
  | _ => none }
def refsNumberRow : OpenClaim := { program := "ytfkghepfeegmhaa", sum := "a4116612e23458b4023388dfdad1f886ad5e7d633813372e54e4ffb669b8970a", func := "verso/versolaw02.RefsNumber", spec := "refsNumber", inPlace := ["internal/bytealg.IndexByteString", "internal/abi.NoEscape"], apart := false }
def RefsNumberSaid : Prop := refsNumberRow.holds Try.pinned (OpenSpec.ofChange refsNumberSpec)

/-- ITS FALSE NEIGHBOUR: 'it returns false'. Refute it at one input. -/
def refsNumberWrong : ChangeSpec := { name := "refsNumber", fn := fun _ => fun
  | [d] => { results := [.lit (.bool false)], args := [d] }
  | _ => none }
def RefsNumberWrongFalsely : Prop := refsNumberRow.holds Try.pinned (OpenSpec.ofChange refsNumberWrong)

/-- 'versolaw02.RefsSizes': WHATEVER THE INPUT: true; the input reads as it did. -/
def refsSizesSpec : ChangeSpec := { name := "refsSizes", fn := fun _ => fun
  | [d] => { results := [.lit (.bool true)], args := [d] }
  | _ => none }
def refsSizesRow : OpenClaim := { program := "ytfkghepfeegmhaa", sum := "a4116612e23458b4023388dfdad1f886ad5e7d633813372e54e4ffb669b8970a", func := "verso/versolaw02.RefsSizes", spec := "refsSizes", inPlace := ["internal/bytealg.IndexByteString", "internal/abi.NoEscape"], apart := false }
def RefsSizesSaid : Prop := refsSizesRow.holds Try.pinned (OpenSpec.ofChange refsSizesSpec)

/-- ITS FALSE NEIGHBOUR: 'it returns false'. Refute it at one input. -/
def refsSizesWrong : ChangeSpec := { name := "refsSizes", fn := fun _ => fun
  | [d] => { results := [.lit (.bool false)], args := [d] }
  | _ => none }
def RefsSizesWrongFalsely : Prop := refsSizesRow.holds Try.pinned (OpenSpec.ofChange refsSizesWrong)

/- THE SECOND FORM. 'bulk': how many values and letters a reading holds, each counted each time it is reached (what is shared counts as often as it is met; a slice's spare places count too). A statement '..UptoSaid' is the law's where the arguments, and the package variables that the reading takes, are together of bulk at most 1048576: NARROWER than '..Said'. Prove '..Said' where nothing that the law and all that it calls make is longer than what came in: it says more and counts as full. Else prove '..UptoSaid'. A law counts once. -/
mutual
def uptoBulk {H : Type} : DataW H → Nat
  | .lit (.string bytes) => bytes.length + 1
  | .lit _ => 1
  | .nil => 1
  | .ptr d => uptoBulk d + 1
  | .slice elems spare => uptoBulkAll elems + uptoBulkAll spare + 1
  | .agg parts => uptoBulkAll parts + 1
  | .iface _ d => uptoBulk d + 1
  | .map entries => uptoBulkEntries entries + 1
  | .held _ => 1
def uptoBulkAll {H : Type} : List (DataW H) → Nat
  | [] => 0
  | d :: r => uptoBulk d + uptoBulkAll r
def uptoBulkEntries {H : Type} : List (Lit × DataW H) → Nat
  | [] => 0
  | x :: r => uptoBulkEntry x + uptoBulkEntries r
def uptoBulkEntry {H : Type} : Lit × DataW H → Nat
  | (.string bytes, d) => bytes.length + uptoBulk d + 1
  | (_, d) => uptoBulk d + 1
 end
def uptoSmall : (H : Type) → List (DataW H) → Bool := fun _ ds => decide (uptoBulkAll ds ≤ 1048576)
def OpenSpec.upto (s : _root_.Go.ChangeSpec) : _root_.Go.OpenSpec := { _root_.Go.OpenSpec.ofChange s with cond := some uptoSmall }

/-- 'versolaw02.RefsNames', WHERE WHAT IT READS IS OF BULK AT MOST 1048576: true; the input reads as it did. -/
def refsNamesUptoRow : OpenClaim := { program := "ytfkghepfeegmhaa", sum := "a4116612e23458b4023388dfdad1f886ad5e7d633813372e54e4ffb669b8970a", func := "verso/versolaw02.RefsNames", spec := "refsNames", inPlace := ["internal/bytealg.IndexByteString", "internal/abi.NoEscape"], apart := false, narrowed := true }
def RefsNamesUptoSaid : Prop := refsNamesUptoRow.holds Try.pinned (OpenSpec.upto refsNamesSpec)

/-- 'versolaw02.RefsResolves', WHERE WHAT IT READS IS OF BULK AT MOST 1048576: true; the input reads as it did. -/
def refsResolvesUptoRow : OpenClaim := { program := "ytfkghepfeegmhaa", sum := "a4116612e23458b4023388dfdad1f886ad5e7d633813372e54e4ffb669b8970a", func := "verso/versolaw02.RefsResolves", spec := "refsResolves", inPlace := ["internal/bytealg.IndexByteString", "internal/abi.NoEscape"], apart := false, narrowed := true }
def RefsResolvesUptoSaid : Prop := refsResolvesUptoRow.holds Try.pinned (OpenSpec.upto refsResolvesSpec)

/-- 'versolaw02.RefsEscapes', WHERE WHAT IT READS IS OF BULK AT MOST 1048576: true; the input reads as it did. -/
def refsEscapesUptoRow : OpenClaim := { program := "ytfkghepfeegmhaa", sum := "a4116612e23458b4023388dfdad1f886ad5e7d633813372e54e4ffb669b8970a", func := "verso/versolaw02.RefsEscapes", spec := "refsEscapes", inPlace := ["internal/bytealg.IndexByteString", "internal/abi.NoEscape"], apart := false, narrowed := true }
def RefsEscapesUptoSaid : Prop := refsEscapesUptoRow.holds Try.pinned (OpenSpec.upto refsEscapesSpec)

/-- 'versolaw02.RefsBack', WHERE WHAT IT READS IS OF BULK AT MOST 1048576: true; the input reads as it did. -/
def refsBackUptoRow : OpenClaim := { program := "ytfkghepfeegmhaa", sum := "a4116612e23458b4023388dfdad1f886ad5e7d633813372e54e4ffb669b8970a", func := "verso/versolaw02.RefsBack", spec := "refsBack", inPlace := ["internal/bytealg.IndexByteString", "internal/abi.NoEscape"], apart := false, narrowed := true }
def RefsBackUptoSaid : Prop := refsBackUptoRow.holds Try.pinned (OpenSpec.upto refsBackSpec)

/-- 'versolaw02.RefsPlain', WHERE WHAT IT READS IS OF BULK AT MOST 1048576: true; the input reads as it did. -/
def refsPlainUptoRow : OpenClaim := { program := "ytfkghepfeegmhaa", sum := "a4116612e23458b4023388dfdad1f886ad5e7d633813372e54e4ffb669b8970a", func := "verso/versolaw02.RefsPlain", spec := "refsPlain", inPlace := ["internal/bytealg.IndexByteString", "internal/abi.NoEscape"], apart := false, narrowed := true }
def RefsPlainUptoSaid : Prop := refsPlainUptoRow.holds Try.pinned (OpenSpec.upto refsPlainSpec)

/-- 'versolaw02.RefsParts', WHERE WHAT IT READS IS OF BULK AT MOST 1048576: true; the input reads as it did. -/
def refsPartsUptoRow : OpenClaim := { program := "ytfkghepfeegmhaa", sum := "a4116612e23458b4023388dfdad1f886ad5e7d633813372e54e4ffb669b8970a", func := "verso/versolaw02.RefsParts", spec := "refsParts", inPlace := ["internal/bytealg.IndexByteString", "internal/abi.NoEscape"], apart := false, narrowed := true }
def RefsPartsUptoSaid : Prop := refsPartsUptoRow.holds Try.pinned (OpenSpec.upto refsPartsSpec)

/-- 'versolaw02.RefsNumber', WHERE WHAT IT READS IS OF BULK AT MOST 1048576: true; the input reads as it did. -/
def refsNumberUptoRow : OpenClaim := { program := "ytfkghepfeegmhaa", sum := "a4116612e23458b4023388dfdad1f886ad5e7d633813372e54e4ffb669b8970a", func := "verso/versolaw02.RefsNumber", spec := "refsNumber", inPlace := ["internal/bytealg.IndexByteString", "internal/abi.NoEscape"], apart := false, narrowed := true }
def RefsNumberUptoSaid : Prop := refsNumberUptoRow.holds Try.pinned (OpenSpec.upto refsNumberSpec)

/-- 'versolaw02.RefsSizes', WHERE WHAT IT READS IS OF BULK AT MOST 1048576: true; the input reads as it did. -/
def refsSizesUptoRow : OpenClaim := { program := "ytfkghepfeegmhaa", sum := "a4116612e23458b4023388dfdad1f886ad5e7d633813372e54e4ffb669b8970a", func := "verso/versolaw02.RefsSizes", spec := "refsSizes", inPlace := ["internal/bytealg.IndexByteString", "internal/abi.NoEscape"], apart := false, narrowed := true }
def RefsSizesUptoSaid : Prop := refsSizesUptoRow.holds Try.pinned (OpenSpec.upto refsSizesSpec)

end Rows
end Go.Proofs.Ytfkghepfeegmhaa
