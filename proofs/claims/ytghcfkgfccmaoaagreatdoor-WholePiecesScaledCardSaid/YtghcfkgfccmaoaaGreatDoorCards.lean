/-
  DERIVED. GIVEN WITH THE SEED: THE CARDS: each row of YtghcfkgfccmaoaaGreatDoorRows.lean that lists a variable, with what it lists TIED to the program's text (the seventh form; the later family's looks); each row that meets fmt, with fmt's text TOLD by the authors' own Lean function (tested against real Go, not proved from fmt's source: count such statements apart). THE CARD IS WHAT COUNTS. Prove the row's statement (the work); the ties are given (YtghcfkgfccmaoaaGreatDoorTie.lean); close each card by the builder's one call (the guide's Derived/Test/ToyasCard.lean, 'card_holds'). Laid BY PROGRAM, IN A SANDBOX (cutbox-door.mjs). By AI agents, Wed Nov 11 2026. No macro, syntax, notation, axiom, sorry.
-/
import Derived.Test.YtghcfkgfccmaoaaGreatDoorRows
import GoSem.ClaimSeven
namespace Go.Proofs.YtghcfkgfccmaoaaGreatDoor
namespace Rows

/-- THE TIED CARD OF 'fuseetop.WholeBurstsScaled'. -/
def wholeBurstsScaledCard : Claim7 := { stood := { row := wholeBurstsScaledRow, standIns := [], harness := (true, "9b659dcb9e57d5d135a9aa1e4215ca764c1902b38231d8290304f4e5b1e55bea"), looks := false }, kinds := [], alts := [], laidByText := true, laidKinds := [.data], laidTests := true, laidLooks := .later }
def WholeBurstsScaledCardSaid : Prop := Claim7.holds Tryz.pinned (.plain (OpenSpec.ofChange wholeBurstsScaledSpec)) wholeBurstsScaledCard

/-- THE TIED CARD OF 'fuseetop.WholeWeeks'. -/
def wholeWeeksCard : Claim7 := { stood := { row := wholeWeeksRow, standIns := [], harness := (true, "9b659dcb9e57d5d135a9aa1e4215ca764c1902b38231d8290304f4e5b1e55bea"), looks := false }, kinds := [], alts := [], laidByText := true, laidKinds := [.data], laidTests := true, laidLooks := .later }
def WholeWeeksCardSaid : Prop := Claim7.holds Tryz.pinned (.plain (OpenSpec.ofChange wholeWeeksSpec)) wholeWeeksCard

/-- THE TIED CARD OF 'fuseetop.WholePiecesScaled'. -/
def wholePiecesScaledCard : Claim7 := { stood := { row := wholePiecesScaledRow, standIns := [], harness := (true, "9b659dcb9e57d5d135a9aa1e4215ca764c1902b38231d8290304f4e5b1e55bea"), looks := false }, kinds := [], alts := [], laidByText := true, laidKinds := [.data], laidTests := true, laidLooks := .later }
def WholePiecesScaledCardSaid : Prop := Claim7.holds Tryz.pinned (.plain (OpenSpec.ofChange wholePiecesScaledSpec)) wholePiecesScaledCard

/-- THE TIED CARD OF 'fuseetop.WholeTicksFiner'. -/
def wholeTicksFinerCard : Claim7 := { stood := { row := wholeTicksFinerRow, standIns := [], harness := (true, "9b659dcb9e57d5d135a9aa1e4215ca764c1902b38231d8290304f4e5b1e55bea"), looks := false }, kinds := [], alts := [], laidByText := true, laidKinds := [.data], laidTests := true, laidLooks := .later }
def WholeTicksFinerCardSaid : Prop := Claim7.holds Tryz.pinned (.plain (OpenSpec.ofChange wholeTicksFinerSpec)) wholeTicksFinerCard

/-- THE SECOND FORM's CARD OF 'fuseetop.WholeBurstsScaled'. -/
def wholeBurstsScaledUptoCard : Claim7 := { stood := { row := wholeBurstsScaledUptoRow, standIns := [], harness := (true, "9b659dcb9e57d5d135a9aa1e4215ca764c1902b38231d8290304f4e5b1e55bea"), looks := false }, kinds := [], alts := [], laidByText := true, laidKinds := [.data], laidTests := true, laidLooks := .later }
def WholeBurstsScaledUptoCardSaid : Prop := Claim7.holds Tryz.pinned (.plain (OpenSpec.upto wholeBurstsScaledSpec)) wholeBurstsScaledUptoCard

/-- THE SECOND FORM's CARD OF 'fuseetop.WholeWeeks'. -/
def wholeWeeksUptoCard : Claim7 := { stood := { row := wholeWeeksUptoRow, standIns := [], harness := (true, "9b659dcb9e57d5d135a9aa1e4215ca764c1902b38231d8290304f4e5b1e55bea"), looks := false }, kinds := [], alts := [], laidByText := true, laidKinds := [.data], laidTests := true, laidLooks := .later }
def WholeWeeksUptoCardSaid : Prop := Claim7.holds Tryz.pinned (.plain (OpenSpec.upto wholeWeeksSpec)) wholeWeeksUptoCard

/-- THE SECOND FORM's CARD OF 'fuseetop.WholePiecesScaled'. -/
def wholePiecesScaledUptoCard : Claim7 := { stood := { row := wholePiecesScaledUptoRow, standIns := [], harness := (true, "9b659dcb9e57d5d135a9aa1e4215ca764c1902b38231d8290304f4e5b1e55bea"), looks := false }, kinds := [], alts := [], laidByText := true, laidKinds := [.data], laidTests := true, laidLooks := .later }
def WholePiecesScaledUptoCardSaid : Prop := Claim7.holds Tryz.pinned (.plain (OpenSpec.upto wholePiecesScaledSpec)) wholePiecesScaledUptoCard

/-- THE SECOND FORM's CARD OF 'fuseetop.WholeTicksFiner'. -/
def wholeTicksFinerUptoCard : Claim7 := { stood := { row := wholeTicksFinerUptoRow, standIns := [], harness := (true, "9b659dcb9e57d5d135a9aa1e4215ca764c1902b38231d8290304f4e5b1e55bea"), looks := false }, kinds := [], alts := [], laidByText := true, laidKinds := [.data], laidTests := true, laidLooks := .later }
def WholeTicksFinerUptoCardSaid : Prop := Claim7.holds Tryz.pinned (.plain (OpenSpec.upto wholeTicksFinerSpec)) wholeTicksFinerUptoCard
end Rows
end Go.Proofs.YtghcfkgfccmaoaaGreatDoor
