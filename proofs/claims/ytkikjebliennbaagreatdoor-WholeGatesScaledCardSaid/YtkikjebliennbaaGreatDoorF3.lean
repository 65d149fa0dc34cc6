/-
  The closed facts of a row (printed by program). (Helper theorems; each says its own conditions.)
-/
import Derived.Test.YtkikjebliennbaaGreatDoorF3a
import Derived.Test.YtkikjebliennbaaGreatDoorF3b
import Derived.Test.YtkikjebliennbaaGreatDoorF3c
import Derived.Test.YtkikjebliennbaaGreatDoorF3d
import Derived.Test.YtkikjebliennbaaGreatDoorF3e
import Derived.Test.YtkikjebliennbaaGreatDoorF3f
/-! The closed facts of a row (printed by program). -/
namespace Go.Proofs.YtkikjebliennbaaGreatDoor.gates
open Go
theorem and_t {a b : Bool} (ha : a = true) (hb : b = true) : (a && b) = true := by rw [ha, hb]; rfl
end Go.Proofs.YtkikjebliennbaaGreatDoor.gates
