/-
  Trees (printed by program). (Helper theorems; each says its own conditions.)
-/
import Derived.Test.YtghcfkgfccmaoaaGreatDoorV3
/-! Trees (printed by program). -/
namespace Go.Abs
open Go Go.Proofs
theorem parts_t0 (piece a now : Int) (l : List Int) (n : Nat) (KN : List AV → List ABlk → Prop) (KE : Nat → List AV → List ABlk → Prop) (KF : AV → List ABlk → Prop) :
  wexecL (CI esW1) (XN esW1) 60 partsPre ⟨44, argsT [.ptr 1 0, .int .i64 now] 0 .lf, hOf [.dead, win piece a n, ring l n], []⟩ (leafF oqI (CI esW1).P [.tmp 4] 44 3 3 [0, 5, 16, 17] KN KE KF) =
  (And (WOk piece a n n n (listFn (ints l)))
  (And (∀ (i : Nat), i < n → (listFn (ints (reachL piece a now (toI (listFn (ints l)) n))) i).closed = true)
  (KN ([AV.ptr 1 0, AV.sl0, AV.int IntKind.i64 (n : Int), AV.int IntKind.i64 0]) ([ABlk.dead, obj 151 3 [AV.int IntKind.i64 piece, AV.int IntKind.i64 (tgt piece a now), AV.sl 2 0 n n true],  ABlk.cells   { sto := Sto.fn (listFn (ints (reachL piece a now (toI (listFn (ints l)) n)))), n := n, elem := 3, esz := 1,    ro := false }]))
  )
  ) := by kernel_rfl

theorem parts_t1 (piece a i : Int) (F : Nat → Int) (l : List Int) (n : Nat) (KN : List AV → List ABlk → Prop) (KE : Nat → List AV → List ABlk → Prop) (KF : AV → List ABlk → Prop) :
  wexec (CI esW1) (XI esW1 2 F) 60 partsLoop (stOf 44 [0, 5, 16, 17] [.ptr 1 0, .sl0, .int .i64 n, .int .i64 i] [.dead, win piece a n, ring l n]) (leafF oqI (CI esW1).P [.tmp 4] 44 3 3 [0, 5, 16, 17] KN KE KF) =
  (splitB (!ile ((n : Int)) i)
    (splitB (ieq ((n : Int)) 0)
      False
      (splitB (inB ((IntKind.i64.wrap (IntKind.i64.wrap (a + 1) + i)).tmod (n : Int)) n)
        (splitB ((0 + ((IntKind.i64.wrap (IntKind.i64.wrap (a + 1) + i)).tmod (n : Int)).toNat * 1).blt n)
          (And ((Sto.fn (listFn (ints l))).get (0 + ((IntKind.i64.wrap (IntKind.i64.wrap (a + 1) + i)).tmod (n : Int)).toNat * 1) =
  AV.int IntKind.i64 (F (0 + ((IntKind.i64.wrap (IntKind.i64.wrap (a + 1) + i)).tmod (n : Int)).toNat * 1)))
          (And (∀ (j : Nat), j < n → (listFn (ints l) j).closed = true)
          (And (∀ (i_1 : Nat),
  i_1 < 1 →
    ((Sto.tr Tr.lf
              (listFn
                [AV.int IntKind.i64
                    (F (0 + ((IntKind.i64.wrap (IntKind.i64.wrap (a + 1) + i)).tmod (n : Int)).toNat * 1))])).get
          i_1).closed =
      true)
          (KN ([AV.ptr 1 0, AV.sl 3 0 1 1 false, AV.int IntKind.i64 (n : Int), AV.int IntKind.i64 (IntKind.i64.wrap (i + 1))]) ([ABlk.dead, obj 151 3 [AV.int IntKind.i64 piece, AV.int IntKind.i64 a, AV.sl 2 0 n n true],  ABlk.cells { sto := Sto.fn (listFn (ints l)), n := n, elem := 3, esz := 1, ro := false },  ABlk.cells   {    sto :=     Sto.fn      (Sto.tr Tr.lf        (listFn         [AV.int IntKind.i64           (F (0 + ((IntKind.i64.wrap (IntKind.i64.wrap (a + 1) + i)).tmod (n : Int)).toNat * 1))])).get,    n := 1, elem := 3, esz := 1, ro := false }]))
          )
          )
          )
          False
        )
        False
      )
    )
    (And (∀ (j : Nat), j < n → (listFn (ints l) j).closed = true)
    (KE (0) ([AV.ptr 1 0, AV.sl0, AV.int IntKind.i64 (n : Int), AV.int IntKind.i64 i]) ([ABlk.dead, obj 151 3 [AV.int IntKind.i64 piece, AV.int IntKind.i64 a, AV.sl 2 0 n n true],  ABlk.cells { sto := Sto.fn (listFn (ints l)), n := n, elem := 3, esz := 1, ro := false }]))
    )
  ) := by kernel_rfl

theorem parts_t2 (piece a i : Int) (F : Nat → Int) (l out : List Int) (n k : Nat) (KN : List AV → List ABlk → Prop) (KE : Nat → List AV → List ABlk → Prop) (KF : AV → List ABlk → Prop) :
  wexec (CI esW1) (XI esW1 2 F) 60 partsLoop (stOf 44 [0, 5, 16, 17] [.ptr 1 0, .sl 3 0 k k false, .int .i64 n, .int .i64 i] [.dead, win piece a n, ring l n, ring out k]) (leafF oqI (CI esW1).P [.tmp 4] 44 3 3 [0, 5, 16, 17] KN KE KF) =
  (splitB (!ile ((n : Int)) i)
    (splitB (ieq ((n : Int)) 0)
      False
      (splitB (inB ((IntKind.i64.wrap (IntKind.i64.wrap (a + 1) + i)).tmod (n : Int)) n)
        (splitB ((0 + ((IntKind.i64.wrap (IntKind.i64.wrap (a + 1) + i)).tmod (n : Int)).toNat * 1).blt n)
          (And ((Sto.fn (listFn (ints l))).get (0 + ((IntKind.i64.wrap (IntKind.i64.wrap (a + 1) + i)).tmod (n : Int)).toNat * 1) =
  AV.int IntKind.i64 (F (0 + ((IntKind.i64.wrap (IntKind.i64.wrap (a + 1) + i)).tmod (n : Int)).toNat * 1)))
          (splitB ((k + 1).ble k)
            (splitB ((0 + k * 1 + 1).ble k)
              (And (∀ (j : Nat), j < n → (listFn (ints l) j).closed = true)
              (And (∀ (i_1 : Nat),
  i_1 < k →
    ((fun j =>
            bif j.beq (0 + k * 1) then
              (Sto.tr Tr.lf
                    (listFn
                      [AV.int IntKind.i64
                          (F (0 + ((IntKind.i64.wrap (IntKind.i64.wrap (a + 1) + i)).tmod (n : Int)).toNat * 1))])).get
                0
            else listFn (ints out) j)
          i_1).closed =
      true)
              (KN ([AV.ptr 1 0, AV.sl 3 0 (k + 1) k false, AV.int IntKind.i64 (n : Int), AV.int IntKind.i64 (IntKind.i64.wrap (i + 1))]) ([ABlk.dead, obj 151 3 [AV.int IntKind.i64 piece, AV.int IntKind.i64 a, AV.sl 2 0 n n true],  ABlk.cells { sto := Sto.fn (listFn (ints l)), n := n, elem := 3, esz := 1, ro := false },  ABlk.cells   {    sto :=     Sto.fn fun j =>      bif j.beq (0 + k * 1) then       (Sto.tr Tr.lf          (listFn           [AV.int IntKind.i64             (F (0 + ((IntKind.i64.wrap (IntKind.i64.wrap (a + 1) + i)).tmod (n : Int)).toNat * 1))])).get        0      else listFn (ints out) j,    n := k, elem := 3, esz := 1, ro := false }]))
              )
              )
              False
            )
            (splitB (small (k + 1) 8)
              (splitB ((0 + k * 1).ble k)
                (splitB ((0 + k * 1).beq k && Nat.beq 1 1 && Nat.beq 3 3 && !false)
                  (And (∀ (j : Nat), j < n → (listFn (ints l) j).closed = true)
                  (And (∀ (i_1 : Nat),
  i_1 <
      (readL (Sto.fn (listFn (ints out))) 0 (k * 1) ++
          [AV.int IntKind.i64 (F (0 + ((IntKind.i64.wrap (IntKind.i64.wrap (a + 1) + i)).tmod (n : Int)).toNat * 1))]).length →
    ((Sto.tr Tr.lf
              (listFn
                (readL (Sto.fn (listFn (ints out))) 0 (k * 1) ++
                  [AV.int IntKind.i64
                      (F (0 + ((IntKind.i64.wrap (IntKind.i64.wrap (a + 1) + i)).tmod (n : Int)).toNat * 1))]))).get
          i_1).closed =
      true)
                  (KN ([AV.ptr 1 0, AV.sl 3 0 (k + 1) (k + 1) false, AV.int IntKind.i64 (n : Int), AV.int IntKind.i64 (IntKind.i64.wrap (i + 1))]) ([ABlk.dead, obj 151 3 [AV.int IntKind.i64 piece, AV.int IntKind.i64 a, AV.sl 2 0 n n true],  ABlk.cells { sto := Sto.fn (listFn (ints l)), n := n, elem := 3, esz := 1, ro := false },  ABlk.cells   {    sto :=     Sto.fn      (Sto.tr Tr.lf        (listFn         (readL (Sto.fn (listFn (ints out))) 0 (k * 1) ++          [AV.int IntKind.i64            (F (0 + ((IntKind.i64.wrap (IntKind.i64.wrap (a + 1) + i)).tmod (n : Int)).toNat * 1))]))).get,    n :=     (readL (Sto.fn (listFn (ints out))) 0 (k * 1) ++       [AV.int IntKind.i64         (F (0 + ((IntKind.i64.wrap (IntKind.i64.wrap (a + 1) + i)).tmod (n : Int)).toNat * 1))]).length,    elem := 3, esz := 1, ro := false }]))
                  )
                  )
                  False
                )
                False
              )
              False
            )
          )
          )
          False
        )
        False
      )
    )
    (And (∀ (j : Nat), j < n → (listFn (ints l) j).closed = true)
    (And (∀ (j : Nat), j < k → (listFn (ints out) j).closed = true)
    (KE (0) ([AV.ptr 1 0, AV.sl 3 0 k k false, AV.int IntKind.i64 (n : Int), AV.int IntKind.i64 i]) ([ABlk.dead, obj 151 3 [AV.int IntKind.i64 piece, AV.int IntKind.i64 a, AV.sl 2 0 n n true],  ABlk.cells { sto := Sto.fn (listFn (ints l)), n := n, elem := 3, esz := 1, ro := false },  ABlk.cells { sto := Sto.fn (listFn (ints out)), n := k, elem := 3, esz := 1, ro := false }]))
    )
    )
  ) := by kernel_rfl

theorem parts_t3 (piece a i : Int) (l out : List Int) (n k : Nat) (KF : AV → List ABlk → Prop) :
  wexecL (CI esW1) (XN esW1) 60 partsPost (stOf 44 [0, 5, 16, 17] [.ptr 1 0, .sl 3 0 k k false, .int .i64 n, .int .i64 i] [.dead, win piece a n, ring l n, ring out k]) (EndsF oqI (CI esW1).P [.tmp 4] 3 KF) =
  (And (∀ (j : Nat), j < n → (listFn (ints l) j).closed = true)
  (And (∀ (j : Nat), j < k → (listFn (ints out) j).closed = true)
  (KF (AV.sl 3 0 k k false) ([ABlk.dead, obj 151 3 [AV.int IntKind.i64 piece, AV.int IntKind.i64 a, AV.sl 2 0 n n true],  ABlk.cells { sto := Sto.fn (listFn (ints l)), n := n, elem := 3, esz := 1, ro := false },  ABlk.cells { sto := Sto.fn (listFn (ints out)), n := k, elem := 3, esz := 1, ro := false }]))
  )
  ) := by kernel_rfl

end Go.Abs
