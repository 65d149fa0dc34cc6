/-
  The closed facts of a row (printed by program). (Helper theorems; each says its own conditions.)
-/
import Derived.Test.YtkikjebliennbaaGreatDoorRows
import Derived.JoinedOf
import Derived.KernelRfl
/-! The closed facts of a row (printed by program). -/
namespace Go.Proofs.YtkikjebliennbaaGreatDoor.gates
open Go
theorem fact0 : (Rows.wholeGatesScaledRow.wf (OpenSpec.ofChange Rows.wholeGatesScaledSpec)) = true := by kernel_rfl
theorem fact1 : (laidOutB Tryz.prog) = true := by kernel_rfl
theorem fact2 : (mapsRowed Tryz.prog) = true := by kernel_rfl
theorem fact3 : (Tryz.f3.params.all (Tryz.prog.readableRec ·)) = true := by kernel_rfl
theorem fact4 : (namedTie Tryz.prog Rows.wholeGatesScaledRow.named Rows.wholeGatesScaledSpec.vars) = true := by kernel_rfl
theorem fact5 : ((Rows.wholeGatesScaledRow.stops == [])) = true := by kernel_rfl
end Go.Proofs.YtkikjebliennbaaGreatDoor.gates
