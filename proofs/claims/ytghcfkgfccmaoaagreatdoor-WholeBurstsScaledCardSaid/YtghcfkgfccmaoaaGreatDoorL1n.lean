/-
  Trees (printed by program). (Helper theorems; each says its own conditions.)
-/
import Derived.Test.YtghcfkgfccmaoaaGreatDoorL1
/-! Trees (printed by program). -/
namespace Go.Abs
open Go Go.Proofs
theorem nil_tree (q m : Int) (t l : Int) (KF : AV → List ABlk → Prop) :
  wexecL Cl XC 60 items1 ⟨200, argsT [.int .i64 q, .int .i64 m, .sl0, .int .u8 t, .int .u32 l] 0 .lf, hOf [tabB], []⟩ (EndsF noOpq Tryz.prog rs1 0 KF) =
  (splitB (!ile 1 q)
    (KF (AV.bool true) ([]))
    (splitB (!ile q 274877906944)
      (KF (AV.bool true) ([]))
      (splitB (!ieq m 0)
        (splitB (!ile q m)
          (KF (AV.bool true) ([]))
          (splitB (!ile m 281474976710656)
            (KF (AV.bool true) ([]))
            (And (bGood q m)
            (And (bGood (IntKind.i64.wrap (IntKind.i64.wrap (1 + IntKind.i64.wrap (t.tmod 4)) * q))
  (IntKind.i64.wrap (IntKind.i64.wrap (1 + IntKind.i64.wrap (t.tmod 4)) * m)))
            (KF (AV.bool true) ([]))
            )
            )
          )
        )
        (And (bGood q m)
        (And (bGood (IntKind.i64.wrap (IntKind.i64.wrap (1 + IntKind.i64.wrap (t.tmod 4)) * q))
  (IntKind.i64.wrap (IntKind.i64.wrap (1 + IntKind.i64.wrap (t.tmod 4)) * m)))
        (KF (AV.bool true) ([]))
        )
        )
      )
    )
  ) := by kernel_rfl

end Go.Abs
