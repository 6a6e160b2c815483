/-
  NARROWER THAN 'FOR EVERY INPUT', by the rows' own cells (each row's printed sentence says how): SerPages: loops · SerParts: loops · SerUnlike: loops · SerText: loops · SerBack: loops.
  DERIVED. THE GIVEN ROWS OF THIS SEAT. 8 by the template 'for every input the law returns true; each argument reads behind the call as it read before'; 0 by the template 'total and deterministic' (their statements: YtcmkiancbgmmhaaTotals.lean).
  GIVEN WITH THE SEED: the statements are not yours to turn. If you find one false, say at which input.
  Laid BY PROGRAM, IN A SANDBOX (cutbox-rows.mjs): the forced cells as the released guide's own fill.sh prints them over the translation 33491598b7a3d0b5… (all of the seat's roots in one cut). By AI agents, Wed Nov 11 2026. No macro, syntax, notation, axiom, sorry.
-/
import Derived.Test.YtcmkiancbgmmhaaChecked
import GoSem.Claim
import GoSem.ClaimJoined
import GoSem.ClaimMapViews
import Derived.JoinedTies
import Derived.KernelRfl
namespace Go.Proofs.Ytcmkiancbgmmhaa
/- THE CELL 'sum', in the pinned program and in every row, IS THE sha256 OF THE DUMP (.gsa) THAT YtcmkiancbgmmhaaProg.lean LOADS. Nothing in Lean hashes anything: it is a label: what it is worth is what the hold of that sum in a sandbox is worth. -/
noncomputable def Try.pinned : Pinned := { name := "ytcmkiancbgmmhaa", sum := "33491598b7a3d0b55d6049f75c62ee4e825be0004322f83a81b7749594e728df", checked := Try.checked }
namespace Rows
def none {H : Type} : Left H := { results := [], args := [] }

/-- 'versolaw05.SerPages': WHATEVER THE INPUT: true; the input reads as it did. -/
def serPagesSpec : ChangeSpec := { name := "serPages", fn := fun _ => fun
  | [d] => { results := [.lit (.bool true)], args := [d] }
  | _ => none }
def serPagesRow : OpenClaim := { program := "ytcmkiancbgmmhaa", sum := "33491598b7a3d0b55d6049f75c62ee4e825be0004322f83a81b7749594e728df", func := "verso/versolaw05.SerPages", spec := "serPages", inPlace := ["internal/bytealg.IndexByteString"], unfollowed := true, recurses := true, loops := true, apart := false }
def SerPagesSaid : Prop := serPagesRow.holds Try.pinned (OpenSpec.ofChange serPagesSpec)

/-- ITS FALSE NEIGHBOUR: 'it returns false'. Refute it at one input. -/
def serPagesWrong : ChangeSpec := { name := "serPages", fn := fun _ => fun
  | [d] => { results := [.lit (.bool false)], args := [d] }
  | _ => none }
def SerPagesWrongFalsely : Prop := serPagesRow.holds Try.pinned (OpenSpec.ofChange serPagesWrong)

/-- 'versolaw05.SerParts': WHATEVER THE INPUT: true; the input reads as it did. -/
def serPartsSpec : ChangeSpec := { name := "serParts", fn := fun _ => fun
  | [d1, d2, d3] => { results := [.lit (.bool true)], args := [d1, d2, d3] }
  | _ => none }
def serPartsRow : OpenClaim := { program := "ytcmkiancbgmmhaa", sum := "33491598b7a3d0b55d6049f75c62ee4e825be0004322f83a81b7749594e728df", func := "verso/versolaw05.SerParts", spec := "serParts", inPlace := ["internal/bytealg.IndexByteString"], unfollowed := true, recurses := true, loops := true, apart := false }
def SerPartsSaid : Prop := serPartsRow.holds Try.pinned (OpenSpec.ofChange serPartsSpec)

/-- ITS FALSE NEIGHBOUR: 'it returns false'. Refute it at one input. -/
def serPartsWrong : ChangeSpec := { name := "serParts", fn := fun _ => fun
  | [d1, d2, d3] => { results := [.lit (.bool false)], args := [d1, d2, d3] }
  | _ => none }
def SerPartsWrongFalsely : Prop := serPartsRow.holds Try.pinned (OpenSpec.ofChange serPartsWrong)

/-- 'versolaw05.SerUnlike': WHATEVER THE INPUT: true; the input reads as it did. -/
def serUnlikeSpec : ChangeSpec := { name := "serUnlike", fn := fun _ => fun
  | [d1, d2] => { results := [.lit (.bool true)], args := [d1, d2] }
  | _ => none }
def serUnlikeRow : OpenClaim := { program := "ytcmkiancbgmmhaa", sum := "33491598b7a3d0b55d6049f75c62ee4e825be0004322f83a81b7749594e728df", func := "verso/versolaw05.SerUnlike", spec := "serUnlike", inPlace := ["internal/bytealg.IndexByteString"], unfollowed := true, recurses := true, loops := true, apart := false }
def SerUnlikeSaid : Prop := serUnlikeRow.holds Try.pinned (OpenSpec.ofChange serUnlikeSpec)

/-- ITS FALSE NEIGHBOUR: 'it returns false'. Refute it at one input. -/
def serUnlikeWrong : ChangeSpec := { name := "serUnlike", fn := fun _ => fun
  | [d1, d2] => { results := [.lit (.bool false)], args := [d1, d2] }
  | _ => none }
def SerUnlikeWrongFalsely : Prop := serUnlikeRow.holds Try.pinned (OpenSpec.ofChange serUnlikeWrong)

/-- 'versolaw05.SerDeep': WHATEVER THE INPUT: true; the input reads as it did. -/
def serDeepSpec : ChangeSpec := { name := "serDeep", fn := fun _ => fun
  | [d1, d2] => { results := [.lit (.bool true)], args := [d1, d2] }
  | _ => none }
def serDeepRow : OpenClaim := { program := "ytcmkiancbgmmhaa", sum := "33491598b7a3d0b55d6049f75c62ee4e825be0004322f83a81b7749594e728df", func := "verso/versolaw05.SerDeep", spec := "serDeep", inPlace := ["internal/bytealg.IndexByteString"], unfollowed := true, recurses := true, apart := false }
def SerDeepSaid : Prop := serDeepRow.holds Try.pinned (OpenSpec.ofChange serDeepSpec)

/-- ITS FALSE NEIGHBOUR: 'it returns false'. Refute it at one input. -/
def serDeepWrong : ChangeSpec := { name := "serDeep", fn := fun _ => fun
  | [d1, d2] => { results := [.lit (.bool false)], args := [d1, d2] }
  | _ => none }
def SerDeepWrongFalsely : Prop := serDeepRow.holds Try.pinned (OpenSpec.ofChange serDeepWrong)

/-- 'versolaw05.SerText': WHATEVER THE INPUT: true; the input reads as it did. -/
def serTextSpec : ChangeSpec := { name := "serText", fn := fun _ => fun
  | [d] => { results := [.lit (.bool true)], args := [d] }
  | _ => none }
def serTextRow : OpenClaim := { program := "ytcmkiancbgmmhaa", sum := "33491598b7a3d0b55d6049f75c62ee4e825be0004322f83a81b7749594e728df", func := "verso/versolaw05.SerText", spec := "serText", inPlace := ["internal/bytealg.IndexByteString", "internal/abi.NoEscape", "internal/bytealg.IndexString"], unfollowed := true, recurses := true, named := ["internal/bytealg.MaxLen"], loops := true, apart := false }
def SerTextSaid : Prop := serTextRow.holds Try.pinned (OpenSpec.ofChange serTextSpec)

/-- ITS FALSE NEIGHBOUR: 'it returns false'. Refute it at one input. -/
def serTextWrong : ChangeSpec := { name := "serText", fn := fun _ => fun
  | [d] => { results := [.lit (.bool false)], args := [d] }
  | _ => none }
def SerTextWrongFalsely : Prop := serTextRow.holds Try.pinned (OpenSpec.ofChange serTextWrong)

/-- 'versolaw05.SerBack': WHATEVER THE INPUT: true; the input reads as it did. -/
def serBackSpec : ChangeSpec := { name := "serBack", fn := fun _ => fun
  | [d] => { results := [.lit (.bool true)], args := [d] }
  | _ => none }
def serBackRow : OpenClaim := { program := "ytcmkiancbgmmhaa", sum := "33491598b7a3d0b55d6049f75c62ee4e825be0004322f83a81b7749594e728df", func := "verso/versolaw05.SerBack", spec := "serBack", inPlace := ["internal/bytealg.IndexByteString", "internal/abi.NoEscape", "internal/bytealg.IndexString"], unfollowed := true, recurses := true, named := ["internal/bytealg.MaxLen"], loops := true, apart := false }
def SerBackSaid : Prop := serBackRow.holds Try.pinned (OpenSpec.ofChange serBackSpec)

/-- ITS FALSE NEIGHBOUR: 'it returns false'. Refute it at one input. -/
def serBackWrong : ChangeSpec := { name := "serBack", fn := fun _ => fun
  | [d] => { results := [.lit (.bool false)], args := [d] }
  | _ => none }
def SerBackWrongFalsely : Prop := serBackRow.holds Try.pinned (OpenSpec.ofChange serBackWrong)

/-- 'versolaw05.SerBuilt': WHATEVER THE INPUT: true; the input reads as it did. -/
def serBuiltSpec : ChangeSpec := { name := "serBuilt", fn := fun _ => fun
  | [d] => { results := [.lit (.bool true)], args := [d] }
  | _ => none }
def serBuiltRow : OpenClaim := { program := "ytcmkiancbgmmhaa", sum := "33491598b7a3d0b55d6049f75c62ee4e825be0004322f83a81b7749594e728df", func := "verso/versolaw05.SerBuilt", spec := "serBuilt", inPlace := ["internal/bytealg.IndexByteString", "internal/abi.NoEscape", "internal/bytealg.IndexString"], unfollowed := true, recurses := true, named := ["internal/bytealg.MaxLen"], apart := false }
def SerBuiltSaid : Prop := serBuiltRow.holds Try.pinned (OpenSpec.ofChange serBuiltSpec)

/-- ITS FALSE NEIGHBOUR: 'it returns false'. Refute it at one input. -/
def serBuiltWrong : ChangeSpec := { name := "serBuilt", fn := fun _ => fun
  | [d] => { results := [.lit (.bool false)], args := [d] }
  | _ => none }
def SerBuiltWrongFalsely : Prop := serBuiltRow.holds Try.pinned (OpenSpec.ofChange serBuiltWrong)

/-- 'versolaw05.SerValue': WHATEVER THE INPUT: true; the input reads as it did. -/
def serValueSpec : ChangeSpec := { name := "serValue", fn := fun _ => fun
  | [d1, d2] => { results := [.lit (.bool true)], args := [d1, d2] }
  | _ => none }
def serValueRow : OpenClaim := { program := "ytcmkiancbgmmhaa", sum := "33491598b7a3d0b55d6049f75c62ee4e825be0004322f83a81b7749594e728df", func := "verso/versolaw05.SerValue", spec := "serValue", inPlace := ["internal/bytealg.IndexByteString", "internal/abi.NoEscape", "internal/bytealg.IndexString"], unfollowed := true, recurses := true, named := ["internal/bytealg.MaxLen"], apart := false }
def SerValueSaid : Prop := serValueRow.holds Try.pinned (OpenSpec.ofChange serValueSpec)

/-- ITS FALSE NEIGHBOUR: 'it returns false'. Refute it at one input. -/
def serValueWrong : ChangeSpec := { name := "serValue", fn := fun _ => fun
  | [d1, d2] => { results := [.lit (.bool false)], args := [d1, d2] }
  | _ => none }
def SerValueWrongFalsely : Prop := serValueRow.holds Try.pinned (OpenSpec.ofChange serValueWrong)

/- THE SECOND FORM. 'bulk': how many values and letters a reading holds, each counted each time it is reached (what is shared counts as often as it is met; a slice's spare places count too). A statement '..UptoSaid' is the law's where the arguments, and the package variables that the reading takes, are together of bulk at most 1048576: NARROWER than '..Said'. Prove '..Said' where nothing that the law and all that it calls make is longer than what came in: it says more and counts as full. Else prove '..UptoSaid'. A law counts once. -/
mutual
def uptoBulk {H : Type} : DataW H → Nat
  | .lit (.string bytes) => bytes.length + 1
  | .lit _ => 1
  | .nil => 1
  | .ptr d => uptoBulk d + 1
  | .slice elems spare => uptoBulkAll elems + uptoBulkAll spare + 1
  | .agg parts => uptoBulkAll parts + 1
  | .iface _ d => uptoBulk d + 1
  | .map entries => uptoBulkEntries entries + 1
  | .held _ => 1
def uptoBulkAll {H : Type} : List (DataW H) → Nat
  | [] => 0
  | d :: r => uptoBulk d + uptoBulkAll r
def uptoBulkEntries {H : Type} : List (Lit × DataW H) → Nat
  | [] => 0
  | x :: r => uptoBulkEntry x + uptoBulkEntries r
def uptoBulkEntry {H : Type} : Lit × DataW H → Nat
  | (.string bytes, d) => bytes.length + uptoBulk d + 1
  | (_, d) => uptoBulk d + 1
 end
def uptoSmall : (H : Type) → List (DataW H) → Bool := fun _ ds => decide (uptoBulkAll ds ≤ 1048576)
def OpenSpec.upto (s : _root_.Go.ChangeSpec) : _root_.Go.OpenSpec := { _root_.Go.OpenSpec.ofChange s with cond := some uptoSmall }

/-- 'versolaw05.SerPages', WHERE WHAT IT READS IS OF BULK AT MOST 1048576: true; the input reads as it did. -/
def serPagesUptoRow : OpenClaim := { program := "ytcmkiancbgmmhaa", sum := "33491598b7a3d0b55d6049f75c62ee4e825be0004322f83a81b7749594e728df", func := "verso/versolaw05.SerPages", spec := "serPages", inPlace := ["internal/bytealg.IndexByteString"], unfollowed := true, recurses := true, loops := true, apart := false, narrowed := true }
def SerPagesUptoSaid : Prop := serPagesUptoRow.holds Try.pinned (OpenSpec.upto serPagesSpec)

/-- 'versolaw05.SerParts', WHERE WHAT IT READS IS OF BULK AT MOST 1048576: true; the input reads as it did. -/
def serPartsUptoRow : OpenClaim := { program := "ytcmkiancbgmmhaa", sum := "33491598b7a3d0b55d6049f75c62ee4e825be0004322f83a81b7749594e728df", func := "verso/versolaw05.SerParts", spec := "serParts", inPlace := ["internal/bytealg.IndexByteString"], unfollowed := true, recurses := true, loops := true, apart := false, narrowed := true }
def SerPartsUptoSaid : Prop := serPartsUptoRow.holds Try.pinned (OpenSpec.upto serPartsSpec)

/-- 'versolaw05.SerUnlike', WHERE WHAT IT READS IS OF BULK AT MOST 1048576: true; the input reads as it did. -/
def serUnlikeUptoRow : OpenClaim := { program := "ytcmkiancbgmmhaa", sum := "33491598b7a3d0b55d6049f75c62ee4e825be0004322f83a81b7749594e728df", func := "verso/versolaw05.SerUnlike", spec := "serUnlike", inPlace := ["internal/bytealg.IndexByteString"], unfollowed := true, recurses := true, loops := true, apart := false, narrowed := true }
def SerUnlikeUptoSaid : Prop := serUnlikeUptoRow.holds Try.pinned (OpenSpec.upto serUnlikeSpec)

/-- 'versolaw05.SerDeep', WHERE WHAT IT READS IS OF BULK AT MOST 1048576: true; the input reads as it did. -/
def serDeepUptoRow : OpenClaim := { program := "ytcmkiancbgmmhaa", sum := "33491598b7a3d0b55d6049f75c62ee4e825be0004322f83a81b7749594e728df", func := "verso/versolaw05.SerDeep", spec := "serDeep", inPlace := ["internal/bytealg.IndexByteString"], unfollowed := true, recurses := true, apart := false, narrowed := true }
def SerDeepUptoSaid : Prop := serDeepUptoRow.holds Try.pinned (OpenSpec.upto serDeepSpec)

/-- 'versolaw05.SerText', WHERE WHAT IT READS IS OF BULK AT MOST 1048576: true; the input reads as it did. -/
def serTextUptoRow : OpenClaim := { program := "ytcmkiancbgmmhaa", sum := "33491598b7a3d0b55d6049f75c62ee4e825be0004322f83a81b7749594e728df", func := "verso/versolaw05.SerText", spec := "serText", inPlace := ["internal/bytealg.IndexByteString", "internal/abi.NoEscape", "internal/bytealg.IndexString"], unfollowed := true, recurses := true, named := ["internal/bytealg.MaxLen"], loops := true, apart := false, narrowed := true }
def SerTextUptoSaid : Prop := serTextUptoRow.holds Try.pinned (OpenSpec.upto serTextSpec)

/-- 'versolaw05.SerBack', WHERE WHAT IT READS IS OF BULK AT MOST 1048576: true; the input reads as it did. -/
def serBackUptoRow : OpenClaim := { program := "ytcmkiancbgmmhaa", sum := "33491598b7a3d0b55d6049f75c62ee4e825be0004322f83a81b7749594e728df", func := "verso/versolaw05.SerBack", spec := "serBack", inPlace := ["internal/bytealg.IndexByteString", "internal/abi.NoEscape", "internal/bytealg.IndexString"], unfollowed := true, recurses := true, named := ["internal/bytealg.MaxLen"], loops := true, apart := false, narrowed := true }
def SerBackUptoSaid : Prop := serBackUptoRow.holds Try.pinned (OpenSpec.upto serBackSpec)

/-- 'versolaw05.SerBuilt', WHERE WHAT IT READS IS OF BULK AT MOST 1048576: true; the input reads as it did. -/
def serBuiltUptoRow : OpenClaim := { program := "ytcmkiancbgmmhaa", sum := "33491598b7a3d0b55d6049f75c62ee4e825be0004322f83a81b7749594e728df", func := "verso/versolaw05.SerBuilt", spec := "serBuilt", inPlace := ["internal/bytealg.IndexByteString", "internal/abi.NoEscape", "internal/bytealg.IndexString"], unfollowed := true, recurses := true, named := ["internal/bytealg.MaxLen"], apart := false, narrowed := true }
def SerBuiltUptoSaid : Prop := serBuiltUptoRow.holds Try.pinned (OpenSpec.upto serBuiltSpec)

/-- 'versolaw05.SerValue', WHERE WHAT IT READS IS OF BULK AT MOST 1048576: true; the input reads as it did. -/
def serValueUptoRow : OpenClaim := { program := "ytcmkiancbgmmhaa", sum := "33491598b7a3d0b55d6049f75c62ee4e825be0004322f83a81b7749594e728df", func := "verso/versolaw05.SerValue", spec := "serValue", inPlace := ["internal/bytealg.IndexByteString", "internal/abi.NoEscape", "internal/bytealg.IndexString"], unfollowed := true, recurses := true, named := ["internal/bytealg.MaxLen"], apart := false, narrowed := true }
def SerValueUptoSaid : Prop := serValueUptoRow.holds Try.pinned (OpenSpec.upto serValueSpec)

end Rows
end Go.Proofs.Ytcmkiancbgmmhaa
