/-
  (Helper theorems; each says its own conditions.)
-/
import Derived.Test.YtkikjebliennbaaGreatDoorW26
namespace Go.Abs
open Go Go.Proofs
theorem known_run : Known Tryz.prog 0 75 [] (.bool true) :=
  Known.run (T := []) fit (fun _ h => by cases h) (fuel := 3000) (by kernel_rfl) (by rfl) (by rfl)
end Go.Abs
