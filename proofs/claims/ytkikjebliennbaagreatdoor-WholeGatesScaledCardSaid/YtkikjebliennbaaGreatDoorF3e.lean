/-
  The closed facts of a row (printed by program). (Helper theorems; each says its own conditions.)
-/
import Derived.Test.YtkikjebliennbaaGreatDoorRows
import Derived.JoinedOf
import Derived.KernelRfl
/-! The closed facts of a row (printed by program). -/
namespace Go.Proofs.YtkikjebliennbaaGreatDoor.gates
open Go
theorem fact24 : (Tryz.prog.stopsHeard) = true := by kernel_rfl
theorem fact25 : (Tryz.prog.mayEnter) = true := by kernel_rfl
theorem fact26 : ((Rows.wholeGatesScaledRow.lifted == Tryz.prog.liftsFinal)) = true := by kernel_rfl
theorem fact27 : ((Tryz.prog.make == some Rows.wholeGatesScaledRow.make)) = true := by kernel_rfl
theorem fact28 : ((Rows.wholeGatesScaledRow.kinds == (if Rows.wholeGatesScaledRow.domain.isEmpty then [] else Tryz.f3.params.toList.map fun t => match Tryz.prog.underlying t with | some (.int k) => some k | _ => none))) = true := by kernel_rfl
theorem fact29 : ((Rows.wholeGatesScaledRow.pinned == Rows.wholeGatesScaledRow.pinnedBy)) = true := by kernel_rfl
end Go.Proofs.YtkikjebliennbaaGreatDoor.gates
