/-
  No cell of these rows narrows 'for every input' (looked for: loops, veiled, ifaces, maps, wideKeys, modest, calm, conditions, laid).
  DERIVED. THE GIVEN ROWS OF THIS SEAT. 8 by the template 'for every input the law returns true; each argument reads behind the call as it read before'; 0 by the template 'total and deterministic' (their statements: YtdaheonodpkfgaaTotals.lean).
  GIVEN WITH THE SEED: the statements are not yours to turn. If you find one false, say at which input.
  Laid BY PROGRAM, IN A SANDBOX (cutbox-rows.mjs): the forced cells as the released guide's own fill.sh prints them over the translation 854e8704d353e8ef… (all of the seat's roots in one cut). By AI agents, Wed Nov 11 2026. No macro, syntax, notation, axiom, sorry.
-/
import Derived.Test.YtdaheonodpkfgaaChecked
import GoSem.Claim
import GoSem.ClaimJoined
import GoSem.ClaimMapViews
import Derived.JoinedTies
import Derived.KernelRfl
namespace Go.Proofs.Ytdaheonodpkfgaa
/- THE CELL 'sum', in the pinned program and in every row, IS THE sha256 OF THE DUMP (.gsa) THAT YtdaheonodpkfgaaProg.lean LOADS. Nothing in Lean hashes anything: it is a label: what it is worth is what the hold of that sum in a sandbox is worth. -/
noncomputable def Try.pinned : Pinned := { name := "ytdaheonodpkfgaa", sum := "854e8704d353e8efec14003d1c7757f2cd07513d082c0916b37b515cac67de18", checked := Try.checked }
namespace Rows
def none {H : Type} : Left H := { results := [], args := [] }

/-- 'versolaw03.TokReads': WHATEVER THE INPUT: true; the input reads as it did. -/
def tokReadsSpec : ChangeSpec := { name := "tokReads", fn := fun _ => fun
  | [d] => { results := [.lit (.bool true)], args := [d] }
  | _ => none }
def tokReadsRow : OpenClaim := { program := "ytdaheonodpkfgaa", sum := "854e8704d353e8efec14003d1c7757f2cd07513d082c0916b37b515cac67de18", func := "verso/versolaw03.TokReads", spec := "tokReads", inPlace := ["internal/bytealg.IndexByteString", "internal/abi.NoEscape", "internal/bytealg.IndexString"], unfollowed := true, recurses := true, named := ["internal/bytealg.MaxLen"], apart := false }
def TokReadsSaid : Prop := tokReadsRow.holds Try.pinned (OpenSpec.ofChange tokReadsSpec)

/-- ITS FALSE NEIGHBOUR: 'it returns false'. Refute it at one input. -/
def tokReadsWrong : ChangeSpec := { name := "tokReads", fn := fun _ => fun
  | [d] => { results := [.lit (.bool false)], args := [d] }
  | _ => none }
def TokReadsWrongFalsely : Prop := tokReadsRow.holds Try.pinned (OpenSpec.ofChange tokReadsWrong)

/-- 'versolaw03.TokRaw': WHATEVER THE INPUT: true; the input reads as it did. -/
def tokRawSpec : ChangeSpec := { name := "tokRaw", fn := fun _ => fun
  | [d] => { results := [.lit (.bool true)], args := [d] }
  | _ => none }
def tokRawRow : OpenClaim := { program := "ytdaheonodpkfgaa", sum := "854e8704d353e8efec14003d1c7757f2cd07513d082c0916b37b515cac67de18", func := "verso/versolaw03.TokRaw", spec := "tokRaw", inPlace := ["internal/bytealg.IndexByteString", "internal/abi.NoEscape", "internal/bytealg.IndexString"], unfollowed := true, recurses := true, named := ["internal/bytealg.MaxLen"], apart := false }
def TokRawSaid : Prop := tokRawRow.holds Try.pinned (OpenSpec.ofChange tokRawSpec)

/-- ITS FALSE NEIGHBOUR: 'it returns false'. Refute it at one input. -/
def tokRawWrong : ChangeSpec := { name := "tokRaw", fn := fun _ => fun
  | [d] => { results := [.lit (.bool false)], args := [d] }
  | _ => none }
def TokRawWrongFalsely : Prop := tokRawRow.holds Try.pinned (OpenSpec.ofChange tokRawWrong)

/-- 'versolaw03.TokParts': WHATEVER THE INPUT: true; the input reads as it did. -/
def tokPartsSpec : ChangeSpec := { name := "tokParts", fn := fun _ => fun
  | [d] => { results := [.lit (.bool true)], args := [d] }
  | _ => none }
def tokPartsRow : OpenClaim := { program := "ytdaheonodpkfgaa", sum := "854e8704d353e8efec14003d1c7757f2cd07513d082c0916b37b515cac67de18", func := "verso/versolaw03.TokParts", spec := "tokParts", inPlace := ["internal/bytealg.IndexByteString", "internal/abi.NoEscape", "internal/bytealg.IndexString"], unfollowed := true, recurses := true, named := ["internal/bytealg.MaxLen"], apart := false }
def TokPartsSaid : Prop := tokPartsRow.holds Try.pinned (OpenSpec.ofChange tokPartsSpec)

/-- ITS FALSE NEIGHBOUR: 'it returns false'. Refute it at one input. -/
def tokPartsWrong : ChangeSpec := { name := "tokParts", fn := fun _ => fun
  | [d] => { results := [.lit (.bool false)], args := [d] }
  | _ => none }
def TokPartsWrongFalsely : Prop := tokPartsRow.holds Try.pinned (OpenSpec.ofChange tokPartsWrong)

/-- 'versolaw03.TokJoins': WHATEVER THE INPUT: true; the input reads as it did. -/
def tokJoinsSpec : ChangeSpec := { name := "tokJoins", fn := fun _ => fun
  | [d1, d2, d3] => { results := [.lit (.bool true)], args := [d1, d2, d3] }
  | _ => none }
def tokJoinsRow : OpenClaim := { program := "ytdaheonodpkfgaa", sum := "854e8704d353e8efec14003d1c7757f2cd07513d082c0916b37b515cac67de18", func := "verso/versolaw03.TokJoins", spec := "tokJoins", inPlace := ["internal/bytealg.IndexByteString", "internal/abi.NoEscape", "internal/bytealg.IndexString"], unfollowed := true, recurses := true, named := ["internal/bytealg.MaxLen"], apart := false }
def TokJoinsSaid : Prop := tokJoinsRow.holds Try.pinned (OpenSpec.ofChange tokJoinsSpec)

/-- ITS FALSE NEIGHBOUR: 'it returns false'. Refute it at one input. -/
def tokJoinsWrong : ChangeSpec := { name := "tokJoins", fn := fun _ => fun
  | [d1, d2, d3] => { results := [.lit (.bool false)], args := [d1, d2, d3] }
  | _ => none }
def TokJoinsWrongFalsely : Prop := tokJoinsRow.holds Try.pinned (OpenSpec.ofChange tokJoinsWrong)

/-- 'versolaw03.TokNote': WHATEVER THE INPUT: true; the input reads as it did. -/
def tokNoteSpec : ChangeSpec := { name := "tokNote", fn := fun _ => fun
  | [d] => { results := [.lit (.bool true)], args := [d] }
  | _ => none }
def tokNoteRow : OpenClaim := { program := "ytdaheonodpkfgaa", sum := "854e8704d353e8efec14003d1c7757f2cd07513d082c0916b37b515cac67de18", func := "verso/versolaw03.TokNote", spec := "tokNote", inPlace := ["internal/bytealg.IndexByteString", "internal/abi.NoEscape", "internal/bytealg.IndexString"], unfollowed := true, recurses := true, named := ["internal/bytealg.MaxLen"], apart := false }
def TokNoteSaid : Prop := tokNoteRow.holds Try.pinned (OpenSpec.ofChange tokNoteSpec)

/-- ITS FALSE NEIGHBOUR: 'it returns false'. Refute it at one input. -/
def tokNoteWrong : ChangeSpec := { name := "tokNote", fn := fun _ => fun
  | [d] => { results := [.lit (.bool false)], args := [d] }
  | _ => none }
def TokNoteWrongFalsely : Prop := tokNoteRow.holds Try.pinned (OpenSpec.ofChange tokNoteWrong)

/-- 'versolaw03.TokWithin': WHATEVER THE INPUT: true; the input reads as it did. -/
def tokWithinSpec : ChangeSpec := { name := "tokWithin", fn := fun _ => fun
  | [d1, d2] => { results := [.lit (.bool true)], args := [d1, d2] }
  | _ => none }
def tokWithinRow : OpenClaim := { program := "ytdaheonodpkfgaa", sum := "854e8704d353e8efec14003d1c7757f2cd07513d082c0916b37b515cac67de18", func := "verso/versolaw03.TokWithin", spec := "tokWithin", inPlace := ["internal/bytealg.IndexByteString", "internal/abi.NoEscape", "internal/bytealg.IndexString"], unfollowed := true, recurses := true, named := ["internal/bytealg.MaxLen"], apart := false }
def TokWithinSaid : Prop := tokWithinRow.holds Try.pinned (OpenSpec.ofChange tokWithinSpec)

/-- ITS FALSE NEIGHBOUR: 'it returns false'. Refute it at one input. -/
def tokWithinWrong : ChangeSpec := { name := "tokWithin", fn := fun _ => fun
  | [d1, d2] => { results := [.lit (.bool false)], args := [d1, d2] }
  | _ => none }
def TokWithinWrongFalsely : Prop := tokWithinRow.holds Try.pinned (OpenSpec.ofChange tokWithinWrong)

/-- 'versolaw03.TokText': WHATEVER THE INPUT: true; the input reads as it did. -/
def tokTextSpec : ChangeSpec := { name := "tokText", fn := fun _ => fun
  | [d] => { results := [.lit (.bool true)], args := [d] }
  | _ => none }
def tokTextRow : OpenClaim := { program := "ytdaheonodpkfgaa", sum := "854e8704d353e8efec14003d1c7757f2cd07513d082c0916b37b515cac67de18", func := "verso/versolaw03.TokText", spec := "tokText", inPlace := ["internal/bytealg.IndexByteString", "internal/abi.NoEscape", "internal/bytealg.IndexString"], unfollowed := true, recurses := true, named := ["internal/bytealg.MaxLen"], apart := false }
def TokTextSaid : Prop := tokTextRow.holds Try.pinned (OpenSpec.ofChange tokTextSpec)

/-- ITS FALSE NEIGHBOUR: 'it returns false'. Refute it at one input. -/
def tokTextWrong : ChangeSpec := { name := "tokText", fn := fun _ => fun
  | [d] => { results := [.lit (.bool false)], args := [d] }
  | _ => none }
def TokTextWrongFalsely : Prop := tokTextRow.holds Try.pinned (OpenSpec.ofChange tokTextWrong)

/-- 'versolaw03.TokTag': WHATEVER THE INPUT: true; the input reads as it did. -/
def tokTagSpec : ChangeSpec := { name := "tokTag", fn := fun _ => fun
  | [d1, d2, d3] => { results := [.lit (.bool true)], args := [d1, d2, d3] }
  | _ => none }
def tokTagRow : OpenClaim := { program := "ytdaheonodpkfgaa", sum := "854e8704d353e8efec14003d1c7757f2cd07513d082c0916b37b515cac67de18", func := "verso/versolaw03.TokTag", spec := "tokTag", inPlace := ["internal/bytealg.IndexByteString", "internal/abi.NoEscape", "internal/bytealg.IndexString"], unfollowed := true, recurses := true, named := ["internal/bytealg.MaxLen"], apart := false }
def TokTagSaid : Prop := tokTagRow.holds Try.pinned (OpenSpec.ofChange tokTagSpec)

/-- ITS FALSE NEIGHBOUR: 'it returns false'. Refute it at one input. -/
def tokTagWrong : ChangeSpec := { name := "tokTag", fn := fun _ => fun
  | [d1, d2, d3] => { results := [.lit (.bool false)], args := [d1, d2, d3] }
  | _ => none }
def TokTagWrongFalsely : Prop := tokTagRow.holds Try.pinned (OpenSpec.ofChange tokTagWrong)

/- THE SECOND FORM. 'bulk': how many values and letters a reading holds, each counted each time it is reached (what is shared counts as often as it is met; a slice's spare places count too). A statement '..UptoSaid' is the law's where the arguments, and the package variables that the reading takes, are together of bulk at most 1048576: NARROWER than '..Said'. Prove '..Said' where nothing that the law and all that it calls make is longer than what came in: it says more and counts as full. Else prove '..UptoSaid'. A law counts once. -/
mutual
def uptoBulk {H : Type} : DataW H → Nat
  | .lit (.string bytes) => bytes.length + 1
  | .lit _ => 1
  | .nil => 1
  | .ptr d => uptoBulk d + 1
  | .slice elems spare => uptoBulkAll elems + uptoBulkAll spare + 1
  | .agg parts => uptoBulkAll parts + 1
  | .iface _ d => uptoBulk d + 1
  | .map entries => uptoBulkEntries entries + 1
  | .held _ => 1
def uptoBulkAll {H : Type} : List (DataW H) → Nat
  | [] => 0
  | d :: r => uptoBulk d + uptoBulkAll r
def uptoBulkEntries {H : Type} : List (Lit × DataW H) → Nat
  | [] => 0
  | x :: r => uptoBulkEntry x + uptoBulkEntries r
def uptoBulkEntry {H : Type} : Lit × DataW H → Nat
  | (.string bytes, d) => bytes.length + uptoBulk d + 1
  | (_, d) => uptoBulk d + 1
 end
def uptoSmall : (H : Type) → List (DataW H) → Bool := fun _ ds => decide (uptoBulkAll ds ≤ 1048576)
def OpenSpec.upto (s : _root_.Go.ChangeSpec) : _root_.Go.OpenSpec := { _root_.Go.OpenSpec.ofChange s with cond := some uptoSmall }

/-- 'versolaw03.TokReads', WHERE WHAT IT READS IS OF BULK AT MOST 1048576: true; the input reads as it did. -/
def tokReadsUptoRow : OpenClaim := { program := "ytdaheonodpkfgaa", sum := "854e8704d353e8efec14003d1c7757f2cd07513d082c0916b37b515cac67de18", func := "verso/versolaw03.TokReads", spec := "tokReads", inPlace := ["internal/bytealg.IndexByteString", "internal/abi.NoEscape", "internal/bytealg.IndexString"], unfollowed := true, recurses := true, named := ["internal/bytealg.MaxLen"], apart := false, narrowed := true }
def TokReadsUptoSaid : Prop := tokReadsUptoRow.holds Try.pinned (OpenSpec.upto tokReadsSpec)

/-- 'versolaw03.TokRaw', WHERE WHAT IT READS IS OF BULK AT MOST 1048576: true; the input reads as it did. -/
def tokRawUptoRow : OpenClaim := { program := "ytdaheonodpkfgaa", sum := "854e8704d353e8efec14003d1c7757f2cd07513d082c0916b37b515cac67de18", func := "verso/versolaw03.TokRaw", spec := "tokRaw", inPlace := ["internal/bytealg.IndexByteString", "internal/abi.NoEscape", "internal/bytealg.IndexString"], unfollowed := true, recurses := true, named := ["internal/bytealg.MaxLen"], apart := false, narrowed := true }
def TokRawUptoSaid : Prop := tokRawUptoRow.holds Try.pinned (OpenSpec.upto tokRawSpec)

/-- 'versolaw03.TokParts', WHERE WHAT IT READS IS OF BULK AT MOST 1048576: true; the input reads as it did. -/
def tokPartsUptoRow : OpenClaim := { program := "ytdaheonodpkfgaa", sum := "854e8704d353e8efec14003d1c7757f2cd07513d082c0916b37b515cac67de18", func := "verso/versolaw03.TokParts", spec := "tokParts", inPlace := ["internal/bytealg.IndexByteString", "internal/abi.NoEscape", "internal/bytealg.IndexString"], unfollowed := true, recurses := true, named := ["internal/bytealg.MaxLen"], apart := false, narrowed := true }
def TokPartsUptoSaid : Prop := tokPartsUptoRow.holds Try.pinned (OpenSpec.upto tokPartsSpec)

/-- 'versolaw03.TokJoins', WHERE WHAT IT READS IS OF BULK AT MOST 1048576: true; the input reads as it did. -/
def tokJoinsUptoRow : OpenClaim := { program := "ytdaheonodpkfgaa", sum := "854e8704d353e8efec14003d1c7757f2cd07513d082c0916b37b515cac67de18", func := "verso/versolaw03.TokJoins", spec := "tokJoins", inPlace := ["internal/bytealg.IndexByteString", "internal/abi.NoEscape", "internal/bytealg.IndexString"], unfollowed := true, recurses := true, named := ["internal/bytealg.MaxLen"], apart := false, narrowed := true }
def TokJoinsUptoSaid : Prop := tokJoinsUptoRow.holds Try.pinned (OpenSpec.upto tokJoinsSpec)

/-- 'versolaw03.TokNote', WHERE WHAT IT READS IS OF BULK AT MOST 1048576: true; the input reads as it did. -/
def tokNoteUptoRow : OpenClaim := { program := "ytdaheonodpkfgaa", sum := "854e8704d353e8efec14003d1c7757f2cd07513d082c0916b37b515cac67de18", func := "verso/versolaw03.TokNote", spec := "tokNote", inPlace := ["internal/bytealg.IndexByteString", "internal/abi.NoEscape", "internal/bytealg.IndexString"], unfollowed := true, recurses := true, named := ["internal/bytealg.MaxLen"], apart := false, narrowed := true }
def TokNoteUptoSaid : Prop := tokNoteUptoRow.holds Try.pinned (OpenSpec.upto tokNoteSpec)

/-- 'versolaw03.TokWithin', WHERE WHAT IT READS IS OF BULK AT MOST 1048576: true; the input reads as it did. -/
def tokWithinUptoRow : OpenClaim := { program := "ytdaheonodpkfgaa", sum := "854e8704d353e8efec14003d1c7757f2cd07513d082c0916b37b515cac67de18", func := "verso/versolaw03.TokWithin", spec := "tokWithin", inPlace := ["internal/bytealg.IndexByteString", "internal/abi.NoEscape", "internal/bytealg.IndexString"], unfollowed := true, recurses := true, named := ["internal/bytealg.MaxLen"], apart := false, narrowed := true }
def TokWithinUptoSaid : Prop := tokWithinUptoRow.holds Try.pinned (OpenSpec.upto tokWithinSpec)

/-- 'versolaw03.TokText', WHERE WHAT IT READS IS OF BULK AT MOST 1048576: true; the input reads as it did. -/
def tokTextUptoRow : OpenClaim := { program := "ytdaheonodpkfgaa", sum := "854e8704d353e8efec14003d1c7757f2cd07513d082c0916b37b515cac67de18", func := "verso/versolaw03.TokText", spec := "tokText", inPlace := ["internal/bytealg.IndexByteString", "internal/abi.NoEscape", "internal/bytealg.IndexString"], unfollowed := true, recurses := true, named := ["internal/bytealg.MaxLen"], apart := false, narrowed := true }
def TokTextUptoSaid : Prop := tokTextUptoRow.holds Try.pinned (OpenSpec.upto tokTextSpec)

/-- 'versolaw03.TokTag', WHERE WHAT IT READS IS OF BULK AT MOST 1048576: true; the input reads as it did. -/
def tokTagUptoRow : OpenClaim := { program := "ytdaheonodpkfgaa", sum := "854e8704d353e8efec14003d1c7757f2cd07513d082c0916b37b515cac67de18", func := "verso/versolaw03.TokTag", spec := "tokTag", inPlace := ["internal/bytealg.IndexByteString", "internal/abi.NoEscape", "internal/bytealg.IndexString"], unfollowed := true, recurses := true, named := ["internal/bytealg.MaxLen"], apart := false, narrowed := true }
def TokTagUptoSaid : Prop := tokTagUptoRow.holds Try.pinned (OpenSpec.upto tokTagSpec)

end Rows
end Go.Proofs.Ytdaheonodpkfgaa
