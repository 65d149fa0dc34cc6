/-
  Trees (printed by program). (Helper theorems; each says its own conditions.)
-/
import Derived.Test.YtkikjebliennbaaGreatDoorG2a
/-! Trees (printed by program). -/
namespace Go.Abs
open Go Go.Proofs
theorem many_t0 (g s t n x c : Int) (KN : List AV → List ABlk → Prop) (KE : Nat → List AV → List ABlk → Prop) (KF : AV → List ABlk → Prop) :
  wexecL (CI esG) (XN esG) 60 manyPre ⟨21, argsT [.ptr 1 0, .int .i64 x, .int .i64 c] 0 .lf, hOf [.dead, gate g s t n], []⟩ (leafF oqI (CI esG).P [.tmp 6] 21 2 2 [0, 1, 7, 10, 11] KN KE KF) =
  (KN ([AV.ptr 1 0, AV.int IntKind.i64 x, AV.int IntKind.i64 0, AV.int IntKind.i64 (imin (imax c 0) 4096),  AV.int IntKind.i64 0]) ([ABlk.dead, obj 150 4 [AV.int IntKind.i64 g, AV.int IntKind.i64 s, AV.int IntKind.i64 t, AV.int IntKind.i64 n]])) := by kernel_rfl

theorem many_t1 (g s t n x p lim i : Int) (KN : List AV → List ABlk → Prop) (KE : Nat → List AV → List ABlk → Prop) (KF : AV → List ABlk → Prop) :
  wexec (CI esG) (XN esG) 60 manyLoop (stOf 21 [0, 1, 7, 10, 11] [.ptr 1 0, .int .i64 x, .int .i64 p, .int .i64 lim, .int .i64 i] [.dead, gate g s t n]) (leafF oqI (CI esG).P [.tmp 6] 21 2 2 [0, 1, 7, 10, 11] KN KE KF) =
  (splitB (!ile lim i)
    (And (True)
    (splitB (!gPass s t n x)
      (KE (0) ([AV.ptr 1 0, AV.int IntKind.i64 x, AV.int IntKind.i64 p, AV.int IntKind.i64 lim, AV.int IntKind.i64 i]) ([ABlk.dead,  obj 150 4   [AV.int IntKind.i64 g, AV.int IntKind.i64 s, AV.int IntKind.i64 (gTurn g s t n x), AV.int IntKind.i64 (gNow n x)]]))
      (KN ([AV.ptr 1 0, AV.int IntKind.i64 x, AV.int IntKind.i64 (IntKind.i64.wrap (p + 1)), AV.int IntKind.i64 lim,  AV.int IntKind.i64 (IntKind.i64.wrap (i + 1))]) ([ABlk.dead,  obj 150 4   [AV.int IntKind.i64 g, AV.int IntKind.i64 s, AV.int IntKind.i64 (gTurn g s t n x), AV.int IntKind.i64 (gNow n x)]]))
    )
    )
    (KE (0) ([AV.ptr 1 0, AV.int IntKind.i64 x, AV.int IntKind.i64 p, AV.int IntKind.i64 lim, AV.int IntKind.i64 i]) ([ABlk.dead, obj 150 4 [AV.int IntKind.i64 g, AV.int IntKind.i64 s, AV.int IntKind.i64 t, AV.int IntKind.i64 n]]))
  ) := by kernel_rfl

theorem many_t2 (g s t n x p lim i : Int) (KF : AV → List ABlk → Prop) :
  wexecL (CI esG) (XN esG) 60 manyPost (stOf 21 [0, 1, 7, 10, 11] [.ptr 1 0, .int .i64 x, .int .i64 p, .int .i64 lim, .int .i64 i] [.dead, gate g s t n]) (EndsF oqI (CI esG).P [.tmp 6] 2 KF) =
  (KF (AV.int IntKind.i64 p) ([ABlk.dead, obj 150 4 [AV.int IntKind.i64 g, AV.int IntKind.i64 s, AV.int IntKind.i64 t, AV.int IntKind.i64 n]])) := by kernel_rfl

end Go.Abs
