/-
  DERIVED. GIVEN WITH THE SEED: THE CARDS: each row of YthngplknbbcecaaGreatDoorRows.lean that lists a variable, with what it lists TIED to the program's text (the seventh form; the later family's looks); each row that meets fmt, with fmt's text TOLD by the authors' own Lean function (tested against real Go, not proved from fmt's source: count such statements apart). THE CARD IS WHAT COUNTS. Prove the row's statement (the work); the ties are given (YthngplknbbcecaaGreatDoorTie.lean); close each card by the builder's one call (the guide's Derived/Test/ToyasCard.lean, 'card_holds'). Laid BY PROGRAM, IN A SANDBOX (cutbox-door.mjs). By AI agents, Wed Nov 11 2026. No macro, syntax, notation, axiom, sorry.
-/
import Derived.Test.YthngplknbbcecaaGreatDoorRows
import GoSem.ClaimSeven
namespace Go.Proofs.YthngplknbbcecaaGreatDoor
namespace Rows

/-- THE TIED CARD OF 'versolaw11.SanCleans'. -/
def sanCleansCard : Claim7 := { stood := { row := sanCleansRow, standIns := [], harness := (true, "60e0c0abb680bb88d5855b68225b94177801aebbeb1b7a1125bf9a131a17fd41"), looks := false }, kinds := [], alts := [], laidByText := true, laidKinds := [.data, .pinned], laidTests := true, laidLooks := .later }
def SanCleansCardSaid : Prop := Claim7.holds Tryz.pinned (.plain (OpenSpec.ofChange sanCleansSpec)) sanCleansCard

/-- THE TIED CARD OF 'versolaw11.SanTrees'. -/
def sanTreesCard : Claim7 := { stood := { row := sanTreesRow, standIns := [], harness := (true, "60e0c0abb680bb88d5855b68225b94177801aebbeb1b7a1125bf9a131a17fd41"), looks := false }, kinds := [], alts := [], laidByText := true, laidKinds := [.data, .pinned], laidTests := true, laidLooks := .later }
def SanTreesCardSaid : Prop := Claim7.holds Tryz.pinned (.plain (OpenSpec.ofChange sanTreesSpec)) sanTreesCard

/-- THE TIED CARD OF 'versolaw11.SanAgain'. -/
def sanAgainCard : Claim7 := { stood := { row := sanAgainRow, standIns := [], harness := (true, "60e0c0abb680bb88d5855b68225b94177801aebbeb1b7a1125bf9a131a17fd41"), looks := false }, kinds := [], alts := [], laidByText := true, laidKinds := [.data, .pinned], laidTests := true, laidLooks := .later }
def SanAgainCardSaid : Prop := Claim7.holds Tryz.pinned (.plain (OpenSpec.ofChange sanAgainSpec)) sanAgainCard

/-- THE TIED CARD OF 'versolaw11.SanPlain'. -/
def sanPlainCard : Claim7 := { stood := { row := sanPlainRow, standIns := [], harness := (true, "60e0c0abb680bb88d5855b68225b94177801aebbeb1b7a1125bf9a131a17fd41"), looks := false }, kinds := [], alts := [], laidByText := true, laidKinds := [.data, .pinned], laidTests := true, laidLooks := .later }
def SanPlainCardSaid : Prop := Claim7.holds Tryz.pinned (.plain (OpenSpec.ofChange sanPlainSpec)) sanPlainCard

/-- THE TIED CARD OF 'versolaw11.SanNothing'. -/
def sanNothingCard : Claim7 := { stood := { row := sanNothingRow, standIns := [], harness := (true, "60e0c0abb680bb88d5855b68225b94177801aebbeb1b7a1125bf9a131a17fd41"), looks := false }, kinds := [], alts := [], laidByText := true, laidKinds := [.data, .pinned], laidTests := true, laidLooks := .later }
def SanNothingCardSaid : Prop := Claim7.holds Tryz.pinned (.plain (OpenSpec.ofChange sanNothingSpec)) sanNothingCard

/-- THE TIED CARD OF 'versolaw11.SanText'. -/
def sanTextCard : Claim7 := { stood := { row := sanTextRow, standIns := [], harness := (true, "60e0c0abb680bb88d5855b68225b94177801aebbeb1b7a1125bf9a131a17fd41"), looks := false }, kinds := [], alts := [], laidByText := true, laidKinds := [.data, .pinned], laidTests := true, laidLooks := .later }
def SanTextCardSaid : Prop := Claim7.holds Tryz.pinned (.plain (OpenSpec.ofChange sanTextSpec)) sanTextCard

/-- THE TIED CARD OF 'versolaw11.SanSafe'. -/
def sanSafeCard : Claim7 := { stood := { row := sanSafeRow, standIns := [], harness := (true, "60e0c0abb680bb88d5855b68225b94177801aebbeb1b7a1125bf9a131a17fd41"), looks := false }, kinds := [], alts := [], laidByText := true, laidKinds := [.data, .pinned], laidTests := true, laidLooks := .later }
def SanSafeCardSaid : Prop := Claim7.holds Tryz.pinned (.plain (OpenSpec.ofChange sanSafeSpec)) sanSafeCard

/-- THE TIED CARD OF 'versolaw11.SanKeeps'. -/
def sanKeepsCard : Claim7 := { stood := { row := sanKeepsRow, standIns := [], harness := (true, "60e0c0abb680bb88d5855b68225b94177801aebbeb1b7a1125bf9a131a17fd41"), looks := false }, kinds := [], alts := [], laidByText := true, laidKinds := [.data, .pinned], laidTests := true, laidLooks := .later }
def SanKeepsCardSaid : Prop := Claim7.holds Tryz.pinned (.plain (OpenSpec.ofChange sanKeepsSpec)) sanKeepsCard

/-- THE TIED CARD OF 'versolaw11.SanStricter'. -/
def sanStricterCard : Claim7 := { stood := { row := sanStricterRow, standIns := [], harness := (true, "60e0c0abb680bb88d5855b68225b94177801aebbeb1b7a1125bf9a131a17fd41"), looks := false }, kinds := [], alts := [], laidByText := true, laidKinds := [.data, .pinned], laidTests := true, laidLooks := .later }
def SanStricterCardSaid : Prop := Claim7.holds Tryz.pinned (.plain (OpenSpec.ofChange sanStricterSpec)) sanStricterCard

/-- THE SECOND FORM's CARD OF 'versolaw11.SanCleans'. -/
def sanCleansUptoCard : Claim7 := { stood := { row := sanCleansUptoRow, standIns := [], harness := (true, "60e0c0abb680bb88d5855b68225b94177801aebbeb1b7a1125bf9a131a17fd41"), looks := false }, kinds := [], alts := [], laidByText := true, laidKinds := [.data, .pinned], laidTests := true, laidLooks := .later }
def SanCleansUptoCardSaid : Prop := Claim7.holds Tryz.pinned (.plain (OpenSpec.upto sanCleansSpec)) sanCleansUptoCard

/-- THE SECOND FORM's CARD OF 'versolaw11.SanTrees'. -/
def sanTreesUptoCard : Claim7 := { stood := { row := sanTreesUptoRow, standIns := [], harness := (true, "60e0c0abb680bb88d5855b68225b94177801aebbeb1b7a1125bf9a131a17fd41"), looks := false }, kinds := [], alts := [], laidByText := true, laidKinds := [.data, .pinned], laidTests := true, laidLooks := .later }
def SanTreesUptoCardSaid : Prop := Claim7.holds Tryz.pinned (.plain (OpenSpec.upto sanTreesSpec)) sanTreesUptoCard

/-- THE SECOND FORM's CARD OF 'versolaw11.SanAgain'. -/
def sanAgainUptoCard : Claim7 := { stood := { row := sanAgainUptoRow, standIns := [], harness := (true, "60e0c0abb680bb88d5855b68225b94177801aebbeb1b7a1125bf9a131a17fd41"), looks := false }, kinds := [], alts := [], laidByText := true, laidKinds := [.data, .pinned], laidTests := true, laidLooks := .later }
def SanAgainUptoCardSaid : Prop := Claim7.holds Tryz.pinned (.plain (OpenSpec.upto sanAgainSpec)) sanAgainUptoCard

/-- THE SECOND FORM's CARD OF 'versolaw11.SanPlain'. -/
def sanPlainUptoCard : Claim7 := { stood := { row := sanPlainUptoRow, standIns := [], harness := (true, "60e0c0abb680bb88d5855b68225b94177801aebbeb1b7a1125bf9a131a17fd41"), looks := false }, kinds := [], alts := [], laidByText := true, laidKinds := [.data, .pinned], laidTests := true, laidLooks := .later }
def SanPlainUptoCardSaid : Prop := Claim7.holds Tryz.pinned (.plain (OpenSpec.upto sanPlainSpec)) sanPlainUptoCard

/-- THE SECOND FORM's CARD OF 'versolaw11.SanNothing'. -/
def sanNothingUptoCard : Claim7 := { stood := { row := sanNothingUptoRow, standIns := [], harness := (true, "60e0c0abb680bb88d5855b68225b94177801aebbeb1b7a1125bf9a131a17fd41"), looks := false }, kinds := [], alts := [], laidByText := true, laidKinds := [.data, .pinned], laidTests := true, laidLooks := .later }
def SanNothingUptoCardSaid : Prop := Claim7.holds Tryz.pinned (.plain (OpenSpec.upto sanNothingSpec)) sanNothingUptoCard

/-- THE SECOND FORM's CARD OF 'versolaw11.SanText'. -/
def sanTextUptoCard : Claim7 := { stood := { row := sanTextUptoRow, standIns := [], harness := (true, "60e0c0abb680bb88d5855b68225b94177801aebbeb1b7a1125bf9a131a17fd41"), looks := false }, kinds := [], alts := [], laidByText := true, laidKinds := [.data, .pinned], laidTests := true, laidLooks := .later }
def SanTextUptoCardSaid : Prop := Claim7.holds Tryz.pinned (.plain (OpenSpec.upto sanTextSpec)) sanTextUptoCard

/-- THE SECOND FORM's CARD OF 'versolaw11.SanSafe'. -/
def sanSafeUptoCard : Claim7 := { stood := { row := sanSafeUptoRow, standIns := [], harness := (true, "60e0c0abb680bb88d5855b68225b94177801aebbeb1b7a1125bf9a131a17fd41"), looks := false }, kinds := [], alts := [], laidByText := true, laidKinds := [.data, .pinned], laidTests := true, laidLooks := .later }
def SanSafeUptoCardSaid : Prop := Claim7.holds Tryz.pinned (.plain (OpenSpec.upto sanSafeSpec)) sanSafeUptoCard

/-- THE SECOND FORM's CARD OF 'versolaw11.SanKeeps'. -/
def sanKeepsUptoCard : Claim7 := { stood := { row := sanKeepsUptoRow, standIns := [], harness := (true, "60e0c0abb680bb88d5855b68225b94177801aebbeb1b7a1125bf9a131a17fd41"), looks := false }, kinds := [], alts := [], laidByText := true, laidKinds := [.data, .pinned], laidTests := true, laidLooks := .later }
def SanKeepsUptoCardSaid : Prop := Claim7.holds Tryz.pinned (.plain (OpenSpec.upto sanKeepsSpec)) sanKeepsUptoCard

/-- THE SECOND FORM's CARD OF 'versolaw11.SanStricter'. -/
def sanStricterUptoCard : Claim7 := { stood := { row := sanStricterUptoRow, standIns := [], harness := (true, "60e0c0abb680bb88d5855b68225b94177801aebbeb1b7a1125bf9a131a17fd41"), looks := false }, kinds := [], alts := [], laidByText := true, laidKinds := [.data, .pinned], laidTests := true, laidLooks := .later }
def SanStricterUptoCardSaid : Prop := Claim7.holds Tryz.pinned (.plain (OpenSpec.upto sanStricterSpec)) sanStricterUptoCard
end Rows
end Go.Proofs.YthngplknbbcecaaGreatDoor
