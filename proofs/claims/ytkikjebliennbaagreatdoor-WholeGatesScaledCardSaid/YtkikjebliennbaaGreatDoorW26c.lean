/-
  (Helper theorems; each says its own conditions.)
-/
import Derived.Test.YtkikjebliennbaaGreatDoorW26a
import Derived.Test.YtkikjebliennbaaGreatDoorW26b
namespace Go.Abs
open Go Go.Proofs
theorem known_wakes : Known Tryz.prog 0 7 [] (.bool true) :=
  Known.run (T := [(47, [.agg [.int .u64 1, .int .u64 128, .int .u64 4294967294, .int .u64 8190, .int .u64 1], .int .i64 0], .tup [.int .i64 6180, .bool true]), (75, [], .bool true)]) fit
    (fun x h => by
      simp only [List.mem_cons, List.not_mem_nil, or_false] at h
      rcases h with rfl | rfl
      · exact known_cron
      · exact known_run)
    (fuel := 3000) (by kernel_rfl) (by rfl) (by rfl)
end Go.Abs
#print axioms Go.Abs.known_wakes
