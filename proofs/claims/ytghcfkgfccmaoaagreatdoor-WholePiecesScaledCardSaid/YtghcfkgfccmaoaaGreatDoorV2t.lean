/-
  Trees (printed by program). (Helper theorems; each says its own conditions.)
-/
import Derived.Test.YtghcfkgfccmaoaaGreatDoorV1
/-! Trees (printed by program). -/
namespace Go.Abs
open Go Go.Proofs
theorem reach_t0 (piece at_ now : Int) (l : List Int) (n : Nat) (KN : List AV → List ABlk → Prop) (KE : Nat → List AV → List ABlk → Prop) (KF : AV → List ABlk → Prop) :
  wexecL (CI []) (XN []) 60 reachPre ⟨59, argsT [.ptr 1 0, .int .i64 now] 0 .lf, hOf [.dead, win piece at_ n, ring l n], []⟩ (leafF oqI (CI []).P [] 59 3 3 [0, 4, 29, 30] KN KE KF) =
  (splitB (ieq piece 0)
    False
    (And (∀ (j : Nat), j < n → (listFn (ints l) j).closed = true)
    (KN ([AV.ptr 1 0, AV.int IntKind.i64 (imax (IntKind.i64.wrap ((imin (imax now 0) 1152921504606846976).tdiv piece)) at_),  AV.int IntKind.i64   (imin (IntKind.i64.wrap (imax (IntKind.i64.wrap ((imin (imax now 0) 1152921504606846976).tdiv piece)) at_ - at_))    (n : Int)),  AV.int IntKind.i64 0]) ([ABlk.dead, obj 151 3 [AV.int IntKind.i64 piece, AV.int IntKind.i64 at_, AV.sl 2 0 n n true],  ABlk.cells { sto := Sto.fn (listFn (ints l)), n := n, elem := 3, esz := 1, ro := false }]))
    )
  ) := by kernel_rfl

theorem reach_t1 (piece at_ T lim i : Int) (l : List Int) (n : Nat) (KN : List AV → List ABlk → Prop) (KE : Nat → List AV → List ABlk → Prop) (KF : AV → List ABlk → Prop) :
  wexec (CI []) (XN []) 60 reachLoop (stOf 59 [0, 4, 29, 30] [.ptr 1 0, .int .i64 T, .int .i64 lim, .int .i64 i] [.dead, win piece at_ n, ring l n]) (leafF oqI (CI []).P [] 59 3 3 [0, 4, 29, 30] KN KE KF) =
  (splitB (!ile lim i)
    (splitB (ieq ((n : Int)) 0)
      False
      (splitB (inB ((IntKind.i64.wrap (at_ + 1)).tmod (n : Int)) n)
        (splitB ((0 + ((IntKind.i64.wrap (at_ + 1)).tmod (n : Int)).toNat * 1 + 1).ble n)
          (And (∀ (i : Nat),
  i < n →
    ((fun j =>
            bif j.beq (0 + ((IntKind.i64.wrap (at_ + 1)).tmod (n : Int)).toNat * 1) then AV.int IntKind.i64 0
            else listFn (ints l) j)
          i).closed =
      true)
          (KN ([AV.ptr 1 0, AV.int IntKind.i64 T, AV.int IntKind.i64 lim, AV.int IntKind.i64 (IntKind.i64.wrap (i + 1))]) ([ABlk.dead, obj 151 3 [AV.int IntKind.i64 piece, AV.int IntKind.i64 (IntKind.i64.wrap (at_ + 1)), AV.sl 2 0 n n true],  ABlk.cells   {    sto :=     Sto.fn fun j =>      bif j.beq (0 + ((IntKind.i64.wrap (at_ + 1)).tmod (n : Int)).toNat * 1) then AV.int IntKind.i64 0      else listFn (ints l) j,    n := n, elem := 3, esz := 1, ro := false }]))
          )
          False
        )
        False
      )
    )
    (And (∀ (j : Nat), j < n → (listFn (ints l) j).closed = true)
    (KE (0) ([AV.ptr 1 0, AV.int IntKind.i64 T, AV.int IntKind.i64 lim, AV.int IntKind.i64 i]) ([ABlk.dead, obj 151 3 [AV.int IntKind.i64 piece, AV.int IntKind.i64 at_, AV.sl 2 0 n n true],  ABlk.cells { sto := Sto.fn (listFn (ints l)), n := n, elem := 3, esz := 1, ro := false }]))
    )
  ) := by kernel_rfl

theorem reach_t2 (piece at_ T lim i : Int) (l : List Int) (n : Nat) (KF : AV → List ABlk → Prop) :
  wexecL (CI []) (XN []) 60 reachPost (stOf 59 [0, 4, 29, 30] [.ptr 1 0, .int .i64 T, .int .i64 lim, .int .i64 i] [.dead, win piece at_ n, ring l n]) (EndsF oqI (CI []).P [] 3 KF) =
  (And (∀ (j : Nat), j < n → (listFn (ints l) j).closed = true)
  (KF (AV.tup []) ([ABlk.dead, obj 151 3 [AV.int IntKind.i64 piece, AV.int IntKind.i64 T, AV.sl 2 0 n n true],  ABlk.cells { sto := Sto.fn (listFn (ints l)), n := n, elem := 3, esz := 1, ro := false }]))
  ) := by kernel_rfl

end Go.Abs
