/-
  The closed facts of a row (printed by program). (Helper theorems; each says its own conditions.)
-/
import Derived.Test.YtkikjebliennbaaGreatDoorRows
import Derived.JoinedOf
import Derived.KernelRfl
/-! The closed facts of a row (printed by program). -/
namespace Go.Proofs.YtkikjebliennbaaGreatDoor.gates
open Go
theorem fact30 : ((Rows.wholeGatesScaledRow.veiled == (Tryz.f3.params.toList ++ Rows.wholeGatesScaledSpec.plain.varTypes Tryz.prog ++ Tryz.f3.resultTypes.toList).any (Tryz.prog.veiledRec ·))) = true := by kernel_rfl
theorem fact31 : (Rows.wholeGatesScaledRow.veiledFits Tryz.prog Tryz.f3.params.toList (Tryz.f3.params.toList ++ Rows.wholeGatesScaledSpec.plain.varTypes Tryz.prog ++ Tryz.f3.resultTypes.toList)) = true := by kernel_rfl
end Go.Proofs.YtkikjebliennbaaGreatDoor.gates
