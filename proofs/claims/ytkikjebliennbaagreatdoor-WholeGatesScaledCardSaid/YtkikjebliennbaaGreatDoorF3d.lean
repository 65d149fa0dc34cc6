/-
  The closed facts of a row (printed by program). (Helper theorems; each says its own conditions.)
-/
import Derived.Test.YtkikjebliennbaaGreatDoorRows
import Derived.JoinedOf
import Derived.KernelRfl
/-! The closed facts of a row (printed by program). -/
namespace Go.Proofs.YtkikjebliennbaaGreatDoor.gates
open Go
theorem fact18 : (Rows.wholeGatesScaledSpec.vars.all (Tryz.prog.varReadable ·)) = true := by kernel_rfl
theorem fact19 : (Tryz.f3.resultTypes.all (fun t => Tryz.prog.readableRec t && decide (t < Tryz.prog.types.size))) = true := by kernel_rfl
theorem fact20 : ((Rows.wholeGatesScaledRow.ifacesOut == Tryz.f3.resultTypes.toList.any (Tryz.prog.ifacesRec ·))) = true := by kernel_rfl
theorem fact21 : ((Rows.wholeGatesScaledRow.loopsOut == Tryz.f3.resultTypes.toList.any (Tryz.prog.loopsFrom ·))) = true := by kernel_rfl
theorem fact22 : ((Rows.wholeGatesScaledRow.plainKeys == Tryz.prog.plainKeys)) = true := by kernel_rfl
theorem fact23 : (Rows.wholeGatesScaledRow.shortTexts.isNone) = true := by kernel_rfl
end Go.Proofs.YtkikjebliennbaaGreatDoor.gates
