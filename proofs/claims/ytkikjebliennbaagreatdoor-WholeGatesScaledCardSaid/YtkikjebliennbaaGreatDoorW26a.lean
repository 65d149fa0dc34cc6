/-
  (Helper theorems; each says its own conditions.)
-/
import Derived.Test.YtkikjebliennbaaGreatDoorW26
namespace Go.Abs
open Go Go.Proofs
theorem known_cron : Known Tryz.prog 0 47 [.agg [.int .u64 1, .int .u64 128, .int .u64 4294967294, .int .u64 8190, .int .u64 1], .int .i64 0] (.tup [.int .i64 6180, .bool true]) :=
  Known.run (T := []) fit (fun _ h => by cases h) (fuel := 3000) (by kernel_rfl) (by rfl) (by rfl)
end Go.Abs
