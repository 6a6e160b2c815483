/-
  DERIVED. GIVEN WITH THE SEED: THE CARDS: each row of YtkgdplfcanonhaaDoorRows.lean that lists a variable, with what it lists TIED to the program's text (the seventh form; the later family's looks); each row that meets fmt, with fmt's text TOLD by the authors' own Lean function (tested against real Go, not proved from fmt's source: count such statements apart). THE CARD IS WHAT COUNTS. Prove the row's statement (the work); the ties are given (YtkgdplfcanonhaaDoorTie.lean); close each card by the builder's one call (the guide's Derived/Test/ToyasCard.lean, 'card_holds'). Laid BY PROGRAM, IN A SANDBOX (cutbox-door.mjs). By AI agents, Wed Nov 11 2026. No macro, syntax, notation, axiom, sorry.
-/
import Derived.Test.YtkgdplfcanonhaaDoorRows
import GoSem.ClaimSeven
namespace Go.Proofs.YtkgdplfcanonhaaDoor
namespace Rows

/-- THE TIED CARD OF 'versolaw07.StyleFilters'. -/
def styleFiltersCard : Claim7 := { stood := { row := styleFiltersRow, standIns := [], harness := (true, "27ceb4bdec13d25e451788d61104b3f1f4cce7a42ad512a8c8be3457e2d49bc8"), looks := false }, kinds := [], alts := [], laidByText := true, laidKinds := [.data, .pinned], laidTests := true, laidLooks := .later }
def StyleFiltersCardSaid : Prop := Claim7.holds Tryd.pinned (.plain (OpenSpec.ofChange styleFiltersSpec)) styleFiltersCard

/-- THE TIED CARD OF 'versolaw07.StyleValues'. -/
def styleValuesCard : Claim7 := { stood := { row := styleValuesRow, standIns := [], harness := (true, "27ceb4bdec13d25e451788d61104b3f1f4cce7a42ad512a8c8be3457e2d49bc8"), looks := false }, kinds := [], alts := [], laidByText := true, laidKinds := [.data, .pinned], laidTests := true, laidLooks := .later }
def StyleValuesCardSaid : Prop := Claim7.holds Tryd.pinned (.plain (OpenSpec.ofChange styleValuesSpec)) styleValuesCard

/-- THE TIED CARD OF 'versolaw07.StyleAgain'. -/
def styleAgainCard : Claim7 := { stood := { row := styleAgainRow, standIns := [], harness := (true, "27ceb4bdec13d25e451788d61104b3f1f4cce7a42ad512a8c8be3457e2d49bc8"), looks := false }, kinds := [], alts := [], laidByText := true, laidKinds := [.data, .pinned], laidTests := true, laidLooks := .later }
def StyleAgainCardSaid : Prop := Claim7.holds Tryd.pinned (.plain (OpenSpec.ofChange styleAgainSpec)) styleAgainCard

/-- THE TIED CARD OF 'versolaw07.StyleFewer'. -/
def styleFewerCard : Claim7 := { stood := { row := styleFewerRow, standIns := [], harness := (true, "27ceb4bdec13d25e451788d61104b3f1f4cce7a42ad512a8c8be3457e2d49bc8"), looks := false }, kinds := [], alts := [], laidByText := true, laidKinds := [.data, .pinned], laidTests := true, laidLooks := .later }
def StyleFewerCardSaid : Prop := Claim7.holds Tryd.pinned (.plain (OpenSpec.ofChange styleFewerSpec)) styleFewerCard

/-- THE TIED CARD OF 'versolaw07.StyleOne'. -/
def styleOneCard : Claim7 := { stood := { row := styleOneRow, standIns := [], harness := (true, "27ceb4bdec13d25e451788d61104b3f1f4cce7a42ad512a8c8be3457e2d49bc8"), looks := false }, kinds := [], alts := [], laidByText := true, laidKinds := [.data, .pinned], laidTests := true, laidLooks := .later }
def StyleOneCardSaid : Prop := Claim7.holds Tryd.pinned (.plain (OpenSpec.ofChange styleOneSpec)) styleOneCard

/-- THE TIED CARD OF 'versolaw07.StyleTwo'. -/
def styleTwoCard : Claim7 := { stood := { row := styleTwoRow, standIns := [], harness := (true, "27ceb4bdec13d25e451788d61104b3f1f4cce7a42ad512a8c8be3457e2d49bc8"), looks := false }, kinds := [], alts := [], laidByText := true, laidKinds := [.data, .pinned], laidTests := true, laidLooks := .later }
def StyleTwoCardSaid : Prop := Claim7.holds Tryd.pinned (.plain (OpenSpec.ofChange styleTwoSpec)) styleTwoCard

/-- THE SECOND FORM's CARD OF 'versolaw07.StyleFilters'. -/
def styleFiltersUptoCard : Claim7 := { stood := { row := styleFiltersUptoRow, standIns := [], harness := (true, "27ceb4bdec13d25e451788d61104b3f1f4cce7a42ad512a8c8be3457e2d49bc8"), looks := false }, kinds := [], alts := [], laidByText := true, laidKinds := [.data, .pinned], laidTests := true, laidLooks := .later }
def StyleFiltersUptoCardSaid : Prop := Claim7.holds Tryd.pinned (.plain (OpenSpec.upto styleFiltersSpec)) styleFiltersUptoCard

/-- THE SECOND FORM's CARD OF 'versolaw07.StyleValues'. -/
def styleValuesUptoCard : Claim7 := { stood := { row := styleValuesUptoRow, standIns := [], harness := (true, "27ceb4bdec13d25e451788d61104b3f1f4cce7a42ad512a8c8be3457e2d49bc8"), looks := false }, kinds := [], alts := [], laidByText := true, laidKinds := [.data, .pinned], laidTests := true, laidLooks := .later }
def StyleValuesUptoCardSaid : Prop := Claim7.holds Tryd.pinned (.plain (OpenSpec.upto styleValuesSpec)) styleValuesUptoCard

/-- THE SECOND FORM's CARD OF 'versolaw07.StyleAgain'. -/
def styleAgainUptoCard : Claim7 := { stood := { row := styleAgainUptoRow, standIns := [], harness := (true, "27ceb4bdec13d25e451788d61104b3f1f4cce7a42ad512a8c8be3457e2d49bc8"), looks := false }, kinds := [], alts := [], laidByText := true, laidKinds := [.data, .pinned], laidTests := true, laidLooks := .later }
def StyleAgainUptoCardSaid : Prop := Claim7.holds Tryd.pinned (.plain (OpenSpec.upto styleAgainSpec)) styleAgainUptoCard

/-- THE SECOND FORM's CARD OF 'versolaw07.StyleFewer'. -/
def styleFewerUptoCard : Claim7 := { stood := { row := styleFewerUptoRow, standIns := [], harness := (true, "27ceb4bdec13d25e451788d61104b3f1f4cce7a42ad512a8c8be3457e2d49bc8"), looks := false }, kinds := [], alts := [], laidByText := true, laidKinds := [.data, .pinned], laidTests := true, laidLooks := .later }
def StyleFewerUptoCardSaid : Prop := Claim7.holds Tryd.pinned (.plain (OpenSpec.upto styleFewerSpec)) styleFewerUptoCard

/-- THE SECOND FORM's CARD OF 'versolaw07.StyleOne'. -/
def styleOneUptoCard : Claim7 := { stood := { row := styleOneUptoRow, standIns := [], harness := (true, "27ceb4bdec13d25e451788d61104b3f1f4cce7a42ad512a8c8be3457e2d49bc8"), looks := false }, kinds := [], alts := [], laidByText := true, laidKinds := [.data, .pinned], laidTests := true, laidLooks := .later }
def StyleOneUptoCardSaid : Prop := Claim7.holds Tryd.pinned (.plain (OpenSpec.upto styleOneSpec)) styleOneUptoCard

/-- THE SECOND FORM's CARD OF 'versolaw07.StyleTwo'. -/
def styleTwoUptoCard : Claim7 := { stood := { row := styleTwoUptoRow, standIns := [], harness := (true, "27ceb4bdec13d25e451788d61104b3f1f4cce7a42ad512a8c8be3457e2d49bc8"), looks := false }, kinds := [], alts := [], laidByText := true, laidKinds := [.data, .pinned], laidTests := true, laidLooks := .later }
def StyleTwoUptoCardSaid : Prop := Claim7.holds Tryd.pinned (.plain (OpenSpec.upto styleTwoSpec)) styleTwoUptoCard
end Rows
end Go.Proofs.YtkgdplfcanonhaaDoor
