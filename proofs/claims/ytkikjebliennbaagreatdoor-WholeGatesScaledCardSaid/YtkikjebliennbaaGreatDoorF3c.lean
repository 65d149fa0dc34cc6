/-
  The closed facts of a row (printed by program). (Helper theorems; each says its own conditions.)
-/
import Derived.Test.YtkikjebliennbaaGreatDoorRows
import Derived.JoinedOf
import Derived.KernelRfl
/-! The closed facts of a row (printed by program). -/
namespace Go.Proofs.YtkikjebliennbaaGreatDoor.gates
open Go
theorem fact12 : ((Rows.wholeGatesScaledRow.named == Tryz.prog.varsNamed 3)) = true := by kernel_rfl
theorem fact13 : ((Rows.wholeGatesScaledRow.maps == (Tryz.f3.params.toList ++ Rows.wholeGatesScaledSpec.plain.varTypes Tryz.prog).any (Tryz.prog.mapsRec ·))) = true := by kernel_rfl
theorem fact14 : ((Rows.wholeGatesScaledRow.ifaces == (Tryz.f3.params.toList ++ Rows.wholeGatesScaledSpec.plain.varTypes Tryz.prog).any (Tryz.prog.ifacesRec ·))) = true := by kernel_rfl
theorem fact15 : ((Rows.wholeGatesScaledRow.mapsOut == Tryz.prog.mapsAmong Tryz.f3.resultTypes.toList)) = true := by kernel_rfl
theorem fact16 : ((Rows.wholeGatesScaledRow.loops == (Tryz.f3.params.toList ++ Rows.wholeGatesScaledSpec.plain.varTypes Tryz.prog).any (Tryz.prog.loopsFrom ·))) = true := by kernel_rfl
theorem fact17 : ((Rows.wholeGatesScaledRow.wideKeys == (Tryz.f3.params.toList ++ Rows.wholeGatesScaledSpec.plain.varTypes Tryz.prog ++ Tryz.f3.resultTypes.toList).any (Tryz.prog.wideKeysFrom ·))) = true := by kernel_rfl
end Go.Proofs.YtkikjebliennbaaGreatDoor.gates
