/-
  DERIVED. GIVEN WITH THE SEED: THE CARDS: each row of YtfchacihhljfhaaGreatDoorRows.lean that lists a variable, with what it lists TIED to the program's text (the seventh form; the later family's looks); each row that meets fmt, with fmt's text TOLD by the authors' own Lean function (tested against real Go, not proved from fmt's source: count such statements apart). THE CARD IS WHAT COUNTS. Prove the row's statement (the work); the ties are given (YtfchacihhljfhaaGreatDoorTie.lean); close each card by the builder's one call (the guide's Derived/Test/ToyasCard.lean, 'card_holds'). Laid BY PROGRAM, IN A SANDBOX (cutbox-door.mjs). By AI agents, Wed Nov 11 2026. No macro, syntax, notation, axiom, sorry.
-/
import Derived.Test.YtfchacihhljfhaaGreatDoorRows
import GoSem.ClaimSeven
namespace Go.Proofs.YtfchacihhljfhaaGreatDoor
namespace Rows

/-- THE TIED CARD OF 'versolaw10.SafeTells'. -/
def safeTellsCard : Claim7 := { stood := { row := safeTellsRow, standIns := [], harness := (true, "6be0b3c18443c77d7c5489fe63923784ffa3436ca0c932b97ebd2166e0869d80"), looks := false }, kinds := [], alts := [], laidByText := true, laidKinds := [.data, .pinned], laidTests := true, laidLooks := .later }
def SafeTellsCardSaid : Prop := Claim7.holds Tryz.pinned (.plain (OpenSpec.ofChange safeTellsSpec)) safeTellsCard

/-- THE SECOND FORM's CARD OF 'versolaw10.SafeTells'. -/
def safeTellsUptoCard : Claim7 := { stood := { row := safeTellsUptoRow, standIns := [], harness := (true, "6be0b3c18443c77d7c5489fe63923784ffa3436ca0c932b97ebd2166e0869d80"), looks := false }, kinds := [], alts := [], laidByText := true, laidKinds := [.data, .pinned], laidTests := true, laidLooks := .later }
def SafeTellsUptoCardSaid : Prop := Claim7.holds Tryz.pinned (.plain (OpenSpec.upto safeTellsSpec)) safeTellsUptoCard
end Rows
end Go.Proofs.YtfchacihhljfhaaGreatDoor
