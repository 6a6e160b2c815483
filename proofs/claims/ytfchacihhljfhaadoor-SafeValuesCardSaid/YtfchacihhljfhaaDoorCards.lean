/-
  DERIVED. GIVEN WITH THE SEED: THE CARDS: each row of YtfchacihhljfhaaDoorRows.lean that lists a variable, with what it lists TIED to the program's text (the seventh form; the later family's looks); each row that meets fmt, with fmt's text TOLD by the authors' own Lean function (tested against real Go, not proved from fmt's source: count such statements apart). THE CARD IS WHAT COUNTS. Prove the row's statement (the work); the ties are given (YtfchacihhljfhaaDoorTie.lean); close each card by the builder's one call (the guide's Derived/Test/ToyasCard.lean, 'card_holds'). Laid BY PROGRAM, IN A SANDBOX (cutbox-door.mjs). By AI agents, Wed Nov 11 2026. No macro, syntax, notation, axiom, sorry.
-/
import Derived.Test.YtfchacihhljfhaaDoorRows
import GoSem.ClaimSeven
namespace Go.Proofs.YtfchacihhljfhaaDoor
namespace Rows

/-- THE TIED CARD OF 'versolaw10.SafeValues'. -/
def safeValuesCard : Claim7 := { stood := { row := safeValuesRow, standIns := [], harness := (true, "6216a72ab2231927ab6845a73d9c377edba1f72b2d72b1e98812e8ee24209c99"), looks := false }, kinds := [], alts := [], laidByText := true, laidKinds := [.data, .pinned], laidTests := true, laidLooks := .later }
def SafeValuesCardSaid : Prop := Claim7.holds Tryd.pinned (.plain (OpenSpec.ofChange safeValuesSpec)) safeValuesCard

/-- THE TIED CARD OF 'versolaw10.SafeWithin'. -/
def safeWithinCard : Claim7 := { stood := { row := safeWithinRow, standIns := [], harness := (true, "6216a72ab2231927ab6845a73d9c377edba1f72b2d72b1e98812e8ee24209c99"), looks := false }, kinds := [], alts := [], laidByText := true, laidKinds := [.data, .pinned], laidTests := true, laidLooks := .later }
def SafeWithinCardSaid : Prop := Claim7.holds Tryd.pinned (.plain (OpenSpec.ofChange safeWithinSpec)) safeWithinCard

/-- THE TIED CARD OF 'versolaw10.SafeLinks'. -/
def safeLinksCard : Claim7 := { stood := { row := safeLinksRow, standIns := [], harness := (true, "6216a72ab2231927ab6845a73d9c377edba1f72b2d72b1e98812e8ee24209c99"), looks := false }, kinds := [], alts := [], laidByText := true, laidKinds := [.data, .pinned], laidTests := true, laidLooks := .later }
def SafeLinksCardSaid : Prop := Claim7.holds Tryd.pinned (.plain (OpenSpec.ofChange safeLinksSpec)) safeLinksCard

/-- THE TIED CARD OF 'versolaw10.SafeText'. -/
def safeTextCard : Claim7 := { stood := { row := safeTextRow, standIns := [], harness := (true, "6216a72ab2231927ab6845a73d9c377edba1f72b2d72b1e98812e8ee24209c99"), looks := false }, kinds := [], alts := [], laidByText := true, laidKinds := [.data, .pinned], laidTests := true, laidLooks := .later }
def SafeTextCardSaid : Prop := Claim7.holds Tryd.pinned (.plain (OpenSpec.ofChange safeTextSpec)) safeTextCard

/-- THE TIED CARD OF 'versolaw10.SafeStricter'. -/
def safeStricterCard : Claim7 := { stood := { row := safeStricterRow, standIns := [], harness := (true, "6216a72ab2231927ab6845a73d9c377edba1f72b2d72b1e98812e8ee24209c99"), looks := false }, kinds := [], alts := [], laidByText := true, laidKinds := [.data, .pinned], laidTests := true, laidLooks := .later }
def SafeStricterCardSaid : Prop := Claim7.holds Tryd.pinned (.plain (OpenSpec.ofChange safeStricterSpec)) safeStricterCard

/-- THE SECOND FORM's CARD OF 'versolaw10.SafeValues'. -/
def safeValuesUptoCard : Claim7 := { stood := { row := safeValuesUptoRow, standIns := [], harness := (true, "6216a72ab2231927ab6845a73d9c377edba1f72b2d72b1e98812e8ee24209c99"), looks := false }, kinds := [], alts := [], laidByText := true, laidKinds := [.data, .pinned], laidTests := true, laidLooks := .later }
def SafeValuesUptoCardSaid : Prop := Claim7.holds Tryd.pinned (.plain (OpenSpec.upto safeValuesSpec)) safeValuesUptoCard

/-- THE SECOND FORM's CARD OF 'versolaw10.SafeWithin'. -/
def safeWithinUptoCard : Claim7 := { stood := { row := safeWithinUptoRow, standIns := [], harness := (true, "6216a72ab2231927ab6845a73d9c377edba1f72b2d72b1e98812e8ee24209c99"), looks := false }, kinds := [], alts := [], laidByText := true, laidKinds := [.data, .pinned], laidTests := true, laidLooks := .later }
def SafeWithinUptoCardSaid : Prop := Claim7.holds Tryd.pinned (.plain (OpenSpec.upto safeWithinSpec)) safeWithinUptoCard

/-- THE SECOND FORM's CARD OF 'versolaw10.SafeLinks'. -/
def safeLinksUptoCard : Claim7 := { stood := { row := safeLinksUptoRow, standIns := [], harness := (true, "6216a72ab2231927ab6845a73d9c377edba1f72b2d72b1e98812e8ee24209c99"), looks := false }, kinds := [], alts := [], laidByText := true, laidKinds := [.data, .pinned], laidTests := true, laidLooks := .later }
def SafeLinksUptoCardSaid : Prop := Claim7.holds Tryd.pinned (.plain (OpenSpec.upto safeLinksSpec)) safeLinksUptoCard

/-- THE SECOND FORM's CARD OF 'versolaw10.SafeText'. -/
def safeTextUptoCard : Claim7 := { stood := { row := safeTextUptoRow, standIns := [], harness := (true, "6216a72ab2231927ab6845a73d9c377edba1f72b2d72b1e98812e8ee24209c99"), looks := false }, kinds := [], alts := [], laidByText := true, laidKinds := [.data, .pinned], laidTests := true, laidLooks := .later }
def SafeTextUptoCardSaid : Prop := Claim7.holds Tryd.pinned (.plain (OpenSpec.upto safeTextSpec)) safeTextUptoCard

/-- THE SECOND FORM's CARD OF 'versolaw10.SafeStricter'. -/
def safeStricterUptoCard : Claim7 := { stood := { row := safeStricterUptoRow, standIns := [], harness := (true, "6216a72ab2231927ab6845a73d9c377edba1f72b2d72b1e98812e8ee24209c99"), looks := false }, kinds := [], alts := [], laidByText := true, laidKinds := [.data, .pinned], laidTests := true, laidLooks := .later }
def SafeStricterUptoCardSaid : Prop := Claim7.holds Tryd.pinned (.plain (OpenSpec.upto safeStricterSpec)) safeStricterUptoCard
end Rows
end Go.Proofs.YtfchacihhljfhaaDoor
