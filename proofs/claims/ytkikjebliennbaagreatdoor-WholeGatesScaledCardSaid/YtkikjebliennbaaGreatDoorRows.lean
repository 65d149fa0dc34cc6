/-
  NARROWER THAN 'FOR EVERY INPUT', by the rows' own cells (each row's printed sentence says how): WholeGatesScaled: laid · WholeTurnsScaled: laid · WholeRan: laid · WholeDesksNamed: laid.
  DERIVED. THE GIVEN ROWS OF THIS SEAT. 4 by the template 'for every input the law returns true; each argument reads behind the call as it read before'; 0 by the template 'total and deterministic' (their statements: YtkikjebliennbaaGreatDoorTotals.lean).
  GIVEN WITH THE SEED: the statements are not yours to turn. If you find one false, say at which input.
  Laid BY PROGRAM, IN A SANDBOX (cutbox-rows.mjs): the forced cells as the released guide's own fill.sh prints them over the translation 2634a763b452c4f4… (all of the seat's roots in one cut). By AI agents, Wed Nov 11 2026. No macro, syntax, notation, axiom, sorry.
-/
import Derived.Test.YtkikjebliennbaaGreatDoorChecked
import GoSem.Claim
import GoSem.ClaimJoined
import GoSem.ClaimMapViews
import Derived.JoinedTies
import Derived.KernelRfl
namespace Go.Proofs.YtkikjebliennbaaGreatDoor
/- THE CELL 'sum', in the pinned program and in every row, IS THE sha256 OF THE DUMP (.gsa) THAT YtkikjebliennbaaGreatDoorProg.lean LOADS. Nothing in Lean hashes anything: it is a label: what it is worth is what the hold of that sum in a sandbox is worth. -/
noncomputable def Tryz.pinned : Pinned := { name := "ytkikjebliennbaagreatdoor", sum := "2634a763b452c4f436fb7339174af41097f0fa0b4ba39ede2a6d7688da98a391", checked := Tryz.checked }
namespace Rows
def none {H : Type} : Left H := { results := [], args := [] }

/- WHAT THE LISTED PACKAGE-LEVEL VARIABLES READ AS WHEN THE CALL BEGINS. Each datum BY PROGRAM (the guide's laid-datum.mjs) off the statement by which the dump's own 'gosem.cut.vars' lays the variable. In a bare row this is a premise. The card (YtkikjebliennbaaGreatDoorCards.lean) ties it to the program's text. -/
def laid_math_bits_deBruijn32tab {H : Type} : DataW H := .agg [.lit (.int .u8 0), .lit (.int .u8 1), .lit (.int .u8 28), .lit (.int .u8 2), .lit (.int .u8 29), .lit (.int .u8 14), .lit (.int .u8 24), .lit (.int .u8 3), .lit (.int .u8 30), .lit (.int .u8 22), .lit (.int .u8 20), .lit (.int .u8 15), .lit (.int .u8 25), .lit (.int .u8 17), .lit (.int .u8 4), .lit (.int .u8 8), .lit (.int .u8 31), .lit (.int .u8 27), .lit (.int .u8 13), .lit (.int .u8 23), .lit (.int .u8 21), .lit (.int .u8 19), .lit (.int .u8 16), .lit (.int .u8 7), .lit (.int .u8 26), .lit (.int .u8 12), .lit (.int .u8 18), .lit (.int .u8 6), .lit (.int .u8 11), .lit (.int .u8 5), .lit (.int .u8 10), .lit (.int .u8 9)]

/-- 'fuseetop.WholeGatesScaled': WHATEVER THE INPUT: true; the input reads as it did. -/
def wholeGatesScaledSpec : ChangeSpec := { name := "wholeGatesScaled", fn := fun _ => fun
  | [d1, d2, d3, d4, d5] => { results := [.lit (.bool true)], args := [d1, d2, d3, d4, d5] }
  | _ => none }
def wholeGatesScaledRow : OpenClaim := { program := "ytkikjebliennbaagreatdoor", sum := "2634a763b452c4f436fb7339174af41097f0fa0b4ba39ede2a6d7688da98a391", func := "fusee/fuseetop.WholeGatesScaled", spec := "wholeGatesScaled", inPlace := ["slices.overlaps[fusee/weekly.Alarm]", "slices.overlaps[fusee/agenda.Meeting]"], unfollowed := true, recurses := true, named := ["math/bits.deBruijn32tab"], plainKeys := false, apart := false, laid := [("math/bits.deBruijn32tab", laid_math_bits_deBruijn32tab)] }
def WholeGatesScaledSaid : Prop := wholeGatesScaledRow.holds Tryz.pinned (OpenSpec.ofChange wholeGatesScaledSpec)

/-- ITS FALSE NEIGHBOUR: 'it returns false'. Refute it at one input. -/
def wholeGatesScaledWrong : ChangeSpec := { name := "wholeGatesScaled", fn := fun _ => fun
  | [d1, d2, d3, d4, d5] => { results := [.lit (.bool false)], args := [d1, d2, d3, d4, d5] }
  | _ => none }
def WholeGatesScaledWrongFalsely : Prop := wholeGatesScaledRow.holds Tryz.pinned (OpenSpec.ofChange wholeGatesScaledWrong)

/-- 'fuseetop.WholeTurnsScaled': WHATEVER THE INPUT: true; the input reads as it did. -/
def wholeTurnsScaledSpec : ChangeSpec := { name := "wholeTurnsScaled", fn := fun _ => fun
  | [d1, d2, d3, d4] => { results := [.lit (.bool true)], args := [d1, d2, d3, d4] }
  | _ => none }
def wholeTurnsScaledRow : OpenClaim := { program := "ytkikjebliennbaagreatdoor", sum := "2634a763b452c4f436fb7339174af41097f0fa0b4ba39ede2a6d7688da98a391", func := "fusee/fuseetop.WholeTurnsScaled", spec := "wholeTurnsScaled", inPlace := ["slices.overlaps[fusee/weekly.Alarm]", "slices.overlaps[fusee/agenda.Meeting]"], unfollowed := true, recurses := true, named := ["math/bits.deBruijn32tab"], plainKeys := false, apart := false, laid := [("math/bits.deBruijn32tab", laid_math_bits_deBruijn32tab)] }
def WholeTurnsScaledSaid : Prop := wholeTurnsScaledRow.holds Tryz.pinned (OpenSpec.ofChange wholeTurnsScaledSpec)

/-- ITS FALSE NEIGHBOUR: 'it returns false'. Refute it at one input. -/
def wholeTurnsScaledWrong : ChangeSpec := { name := "wholeTurnsScaled", fn := fun _ => fun
  | [d1, d2, d3, d4] => { results := [.lit (.bool false)], args := [d1, d2, d3, d4] }
  | _ => none }
def WholeTurnsScaledWrongFalsely : Prop := wholeTurnsScaledRow.holds Tryz.pinned (OpenSpec.ofChange wholeTurnsScaledWrong)

/-- 'fuseetop.WholeRan': WHATEVER THE INPUT: true; the input reads as it did. -/
def wholeRanSpec : ChangeSpec := { name := "wholeRan", fn := fun _ => fun
  | [d] => { results := [.lit (.bool true)], args := [d] }
  | _ => none }
def wholeRanRow : OpenClaim := { program := "ytkikjebliennbaagreatdoor", sum := "2634a763b452c4f436fb7339174af41097f0fa0b4ba39ede2a6d7688da98a391", func := "fusee/fuseetop.WholeRan", spec := "wholeRan", inPlace := ["slices.overlaps[fusee/weekly.Alarm]", "slices.overlaps[fusee/agenda.Meeting]"], unfollowed := true, recurses := true, named := ["math/bits.deBruijn32tab"], plainKeys := false, apart := false, laid := [("math/bits.deBruijn32tab", laid_math_bits_deBruijn32tab)] }
def WholeRanSaid : Prop := wholeRanRow.holds Tryz.pinned (OpenSpec.ofChange wholeRanSpec)

/-- ITS FALSE NEIGHBOUR: 'it returns false'. Refute it at one input. -/
def wholeRanWrong : ChangeSpec := { name := "wholeRan", fn := fun _ => fun
  | [d] => { results := [.lit (.bool false)], args := [d] }
  | _ => none }
def WholeRanWrongFalsely : Prop := wholeRanRow.holds Tryz.pinned (OpenSpec.ofChange wholeRanWrong)

/-- 'fuseetop.WholeDesksNamed': WHATEVER THE INPUT: true; the input reads as it did. -/
def wholeDesksNamedSpec : ChangeSpec := { name := "wholeDesksNamed", fn := fun _ => fun
  | [d1, d2, d3, d4] => { results := [.lit (.bool true)], args := [d1, d2, d3, d4] }
  | _ => none }
def wholeDesksNamedRow : OpenClaim := { program := "ytkikjebliennbaagreatdoor", sum := "2634a763b452c4f436fb7339174af41097f0fa0b4ba39ede2a6d7688da98a391", func := "fusee/fuseetop.WholeDesksNamed", spec := "wholeDesksNamed", inPlace := ["slices.overlaps[fusee/weekly.Alarm]", "slices.overlaps[fusee/agenda.Meeting]"], unfollowed := true, recurses := true, named := ["math/bits.deBruijn32tab"], plainKeys := false, apart := false, laid := [("math/bits.deBruijn32tab", laid_math_bits_deBruijn32tab)] }
def WholeDesksNamedSaid : Prop := wholeDesksNamedRow.holds Tryz.pinned (OpenSpec.ofChange wholeDesksNamedSpec)

/-- ITS FALSE NEIGHBOUR: 'it returns false'. Refute it at one input. -/
def wholeDesksNamedWrong : ChangeSpec := { name := "wholeDesksNamed", fn := fun _ => fun
  | [d1, d2, d3, d4] => { results := [.lit (.bool false)], args := [d1, d2, d3, d4] }
  | _ => none }
def WholeDesksNamedWrongFalsely : Prop := wholeDesksNamedRow.holds Tryz.pinned (OpenSpec.ofChange wholeDesksNamedWrong)

/- THE SECOND FORM. 'bulk': how many values and letters a reading holds, each counted each time it is reached (what is shared counts as often as it is met; a slice's spare places count too). A statement '..UptoSaid' is the law's where the arguments, and the package variables that the reading takes, are together of bulk at most 1048576: NARROWER than '..Said'. Prove '..Said' where nothing that the law and all that it calls make is longer than what came in: it says more and counts as full. Else prove '..UptoSaid'. A law counts once. -/
mutual
def uptoBulk {H : Type} : DataW H → Nat
  | .lit (.string bytes) => bytes.length + 1
  | .lit _ => 1
  | .nil => 1
  | .ptr d => uptoBulk d + 1
  | .slice elems spare => uptoBulkAll elems + uptoBulkAll spare + 1
  | .agg parts => uptoBulkAll parts + 1
  | .iface _ d => uptoBulk d + 1
  | .map entries => uptoBulkEntries entries + 1
  | .held _ => 1
def uptoBulkAll {H : Type} : List (DataW H) → Nat
  | [] => 0
  | d :: r => uptoBulk d + uptoBulkAll r
def uptoBulkEntries {H : Type} : List (Lit × DataW H) → Nat
  | [] => 0
  | x :: r => uptoBulkEntry x + uptoBulkEntries r
def uptoBulkEntry {H : Type} : Lit × DataW H → Nat
  | (.string bytes, d) => bytes.length + uptoBulk d + 1
  | (_, d) => uptoBulk d + 1
 end
def uptoSmall : (H : Type) → List (DataW H) → Bool := fun _ ds => decide (uptoBulkAll ds ≤ 1048576)
def OpenSpec.upto (s : _root_.Go.ChangeSpec) : _root_.Go.OpenSpec := { _root_.Go.OpenSpec.ofChange s with cond := some uptoSmall }

/-- 'fuseetop.WholeGatesScaled', WHERE WHAT IT READS IS OF BULK AT MOST 1048576: true; the input reads as it did. -/
def wholeGatesScaledUptoRow : OpenClaim := { program := "ytkikjebliennbaagreatdoor", sum := "2634a763b452c4f436fb7339174af41097f0fa0b4ba39ede2a6d7688da98a391", func := "fusee/fuseetop.WholeGatesScaled", spec := "wholeGatesScaled", inPlace := ["slices.overlaps[fusee/weekly.Alarm]", "slices.overlaps[fusee/agenda.Meeting]"], unfollowed := true, recurses := true, named := ["math/bits.deBruijn32tab"], plainKeys := false, apart := false, laid := [("math/bits.deBruijn32tab", laid_math_bits_deBruijn32tab)], narrowed := true }
def WholeGatesScaledUptoSaid : Prop := wholeGatesScaledUptoRow.holds Tryz.pinned (OpenSpec.upto wholeGatesScaledSpec)

/-- 'fuseetop.WholeTurnsScaled', WHERE WHAT IT READS IS OF BULK AT MOST 1048576: true; the input reads as it did. -/
def wholeTurnsScaledUptoRow : OpenClaim := { program := "ytkikjebliennbaagreatdoor", sum := "2634a763b452c4f436fb7339174af41097f0fa0b4ba39ede2a6d7688da98a391", func := "fusee/fuseetop.WholeTurnsScaled", spec := "wholeTurnsScaled", inPlace := ["slices.overlaps[fusee/weekly.Alarm]", "slices.overlaps[fusee/agenda.Meeting]"], unfollowed := true, recurses := true, named := ["math/bits.deBruijn32tab"], plainKeys := false, apart := false, laid := [("math/bits.deBruijn32tab", laid_math_bits_deBruijn32tab)], narrowed := true }
def WholeTurnsScaledUptoSaid : Prop := wholeTurnsScaledUptoRow.holds Tryz.pinned (OpenSpec.upto wholeTurnsScaledSpec)

/-- 'fuseetop.WholeRan', WHERE WHAT IT READS IS OF BULK AT MOST 1048576: true; the input reads as it did. -/
def wholeRanUptoRow : OpenClaim := { program := "ytkikjebliennbaagreatdoor", sum := "2634a763b452c4f436fb7339174af41097f0fa0b4ba39ede2a6d7688da98a391", func := "fusee/fuseetop.WholeRan", spec := "wholeRan", inPlace := ["slices.overlaps[fusee/weekly.Alarm]", "slices.overlaps[fusee/agenda.Meeting]"], unfollowed := true, recurses := true, named := ["math/bits.deBruijn32tab"], plainKeys := false, apart := false, laid := [("math/bits.deBruijn32tab", laid_math_bits_deBruijn32tab)], narrowed := true }
def WholeRanUptoSaid : Prop := wholeRanUptoRow.holds Tryz.pinned (OpenSpec.upto wholeRanSpec)

/-- 'fuseetop.WholeDesksNamed', WHERE WHAT IT READS IS OF BULK AT MOST 1048576: true; the input reads as it did. -/
def wholeDesksNamedUptoRow : OpenClaim := { program := "ytkikjebliennbaagreatdoor", sum := "2634a763b452c4f436fb7339174af41097f0fa0b4ba39ede2a6d7688da98a391", func := "fusee/fuseetop.WholeDesksNamed", spec := "wholeDesksNamed", inPlace := ["slices.overlaps[fusee/weekly.Alarm]", "slices.overlaps[fusee/agenda.Meeting]"], unfollowed := true, recurses := true, named := ["math/bits.deBruijn32tab"], plainKeys := false, apart := false, laid := [("math/bits.deBruijn32tab", laid_math_bits_deBruijn32tab)], narrowed := true }
def WholeDesksNamedUptoSaid : Prop := wholeDesksNamedUptoRow.holds Tryz.pinned (OpenSpec.upto wholeDesksNamedSpec)

end Rows
end Go.Proofs.YtkikjebliennbaaGreatDoor
