/-
  DERIVED. GIVEN WITH THE SEED: THE CARDS: each row of YtkikjebliennbaaGreatDoorRows.lean that lists a variable, with what it lists TIED to the program's text (the seventh form; the later family's looks); each row that meets fmt, with fmt's text TOLD by the authors' own Lean function (tested against real Go, not proved from fmt's source: count such statements apart). THE CARD IS WHAT COUNTS. Prove the row's statement (the work); the ties are given (YtkikjebliennbaaGreatDoorTie.lean); close each card by the builder's one call (the guide's Derived/Test/ToyasCard.lean, 'card_holds'). Laid BY PROGRAM, IN A SANDBOX (cutbox-door.mjs). By AI agents, Wed Nov 11 2026. No macro, syntax, notation, axiom, sorry.
-/
import Derived.Test.YtkikjebliennbaaGreatDoorRows
import GoSem.ClaimSeven
namespace Go.Proofs.YtkikjebliennbaaGreatDoor
namespace Rows

/-- THE TIED CARD OF 'fuseetop.WholeGatesScaled'. -/
def wholeGatesScaledCard : Claim7 := { stood := { row := wholeGatesScaledRow, standIns := [], harness := (true, "c5ac4a39ab54f7ee396ff8c06f89f59ded65f6aada9f9f1140cfb8543834d67a"), looks := false }, kinds := [], alts := [], laidByText := true, laidKinds := [.data], laidTests := true, laidLooks := .later }
def WholeGatesScaledCardSaid : Prop := Claim7.holds Tryz.pinned (.plain (OpenSpec.ofChange wholeGatesScaledSpec)) wholeGatesScaledCard

/-- THE TIED CARD OF 'fuseetop.WholeTurnsScaled'. -/
def wholeTurnsScaledCard : Claim7 := { stood := { row := wholeTurnsScaledRow, standIns := [], harness := (true, "c5ac4a39ab54f7ee396ff8c06f89f59ded65f6aada9f9f1140cfb8543834d67a"), looks := false }, kinds := [], alts := [], laidByText := true, laidKinds := [.data], laidTests := true, laidLooks := .later }
def WholeTurnsScaledCardSaid : Prop := Claim7.holds Tryz.pinned (.plain (OpenSpec.ofChange wholeTurnsScaledSpec)) wholeTurnsScaledCard

/-- THE TIED CARD OF 'fuseetop.WholeRan'. -/
def wholeRanCard : Claim7 := { stood := { row := wholeRanRow, standIns := [], harness := (true, "c5ac4a39ab54f7ee396ff8c06f89f59ded65f6aada9f9f1140cfb8543834d67a"), looks := false }, kinds := [], alts := [], laidByText := true, laidKinds := [.data], laidTests := true, laidLooks := .later }
def WholeRanCardSaid : Prop := Claim7.holds Tryz.pinned (.plain (OpenSpec.ofChange wholeRanSpec)) wholeRanCard

/-- THE TIED CARD OF 'fuseetop.WholeDesksNamed'. -/
def wholeDesksNamedCard : Claim7 := { stood := { row := wholeDesksNamedRow, standIns := [], harness := (true, "c5ac4a39ab54f7ee396ff8c06f89f59ded65f6aada9f9f1140cfb8543834d67a"), looks := false }, kinds := [], alts := [], laidByText := true, laidKinds := [.data], laidTests := true, laidLooks := .later }
def WholeDesksNamedCardSaid : Prop := Claim7.holds Tryz.pinned (.plain (OpenSpec.ofChange wholeDesksNamedSpec)) wholeDesksNamedCard

/-- THE SECOND FORM's CARD OF 'fuseetop.WholeGatesScaled'. -/
def wholeGatesScaledUptoCard : Claim7 := { stood := { row := wholeGatesScaledUptoRow, standIns := [], harness := (true, "c5ac4a39ab54f7ee396ff8c06f89f59ded65f6aada9f9f1140cfb8543834d67a"), looks := false }, kinds := [], alts := [], laidByText := true, laidKinds := [.data], laidTests := true, laidLooks := .later }
def WholeGatesScaledUptoCardSaid : Prop := Claim7.holds Tryz.pinned (.plain (OpenSpec.upto wholeGatesScaledSpec)) wholeGatesScaledUptoCard

/-- THE SECOND FORM's CARD OF 'fuseetop.WholeTurnsScaled'. -/
def wholeTurnsScaledUptoCard : Claim7 := { stood := { row := wholeTurnsScaledUptoRow, standIns := [], harness := (true, "c5ac4a39ab54f7ee396ff8c06f89f59ded65f6aada9f9f1140cfb8543834d67a"), looks := false }, kinds := [], alts := [], laidByText := true, laidKinds := [.data], laidTests := true, laidLooks := .later }
def WholeTurnsScaledUptoCardSaid : Prop := Claim7.holds Tryz.pinned (.plain (OpenSpec.upto wholeTurnsScaledSpec)) wholeTurnsScaledUptoCard

/-- THE SECOND FORM's CARD OF 'fuseetop.WholeRan'. -/
def wholeRanUptoCard : Claim7 := { stood := { row := wholeRanUptoRow, standIns := [], harness := (true, "c5ac4a39ab54f7ee396ff8c06f89f59ded65f6aada9f9f1140cfb8543834d67a"), looks := false }, kinds := [], alts := [], laidByText := true, laidKinds := [.data], laidTests := true, laidLooks := .later }
def WholeRanUptoCardSaid : Prop := Claim7.holds Tryz.pinned (.plain (OpenSpec.upto wholeRanSpec)) wholeRanUptoCard

/-- THE SECOND FORM's CARD OF 'fuseetop.WholeDesksNamed'. -/
def wholeDesksNamedUptoCard : Claim7 := { stood := { row := wholeDesksNamedUptoRow, standIns := [], harness := (true, "c5ac4a39ab54f7ee396ff8c06f89f59ded65f6aada9f9f1140cfb8543834d67a"), looks := false }, kinds := [], alts := [], laidByText := true, laidKinds := [.data], laidTests := true, laidLooks := .later }
def WholeDesksNamedUptoCardSaid : Prop := Claim7.holds Tryz.pinned (.plain (OpenSpec.upto wholeDesksNamedSpec)) wholeDesksNamedUptoCard
end Rows
end Go.Proofs.YtkikjebliennbaaGreatDoor
