/-
  Trees (printed by program). (Helper theorems; each says its own conditions.)
-/
import Derived.Test.YtghcfkgfccmaoaaGreatDoorV5
/-! Trees (printed by program). -/
namespace Go.Abs
open Go Go.Proofs
theorem add_t (piece a now m : Int) (F : Nat → Int) (l : List Int) (n : Nat) (KF : AV → List ABlk → Prop) :
  wcall (CI esW1) (XI esW1 2 F) 60 26 [.ptr 1 0, .int .i64 now, .int .i64 m] (hOf [.dead, win piece a n, ring l n]) (fun r => fin oqI 3 r.v r.h KF) =
  (And (WOk piece a n n n (listFn (ints l)))
  (splitB (ieq ((n : Int)) 0)
    False
    (splitB (inB ((tgt piece a now).tmod (n : Int)) n)
      (splitB ((0 + ((tgt piece a now).tmod (n : Int)).toNat * 1).blt n)
        (And ((Sto.fn (listFn (ints (reachL piece a now (toI (listFn (ints l)) n))))).get
    (0 + ((tgt piece a now).tmod (n : Int)).toNat * 1) =
  AV.int IntKind.i64 (F (0 + ((tgt piece a now).tmod (n : Int)).toNat * 1)))
        (And (True)
        (splitB (inB ((tgt piece a now).tmod (n : Int)) n)
          (splitB ((0 + ((tgt piece a now).tmod (n : Int)).toNat * 1 + 1).ble n)
            (And (∀ (i : Nat),
  i < n →
    ((fun j =>
            bif j.beq (0 + ((tgt piece a now).tmod (n : Int)).toNat * 1) then
              AV.int IntKind.i64 (IntKind.i64.wrap (F (0 + ((tgt piece a now).tmod (n : Int)).toNat * 1) + come m))
            else listFn (ints (reachL piece a now (toI (listFn (ints l)) n))) j)
          i).closed =
      true)
            (KF (AV.tup []) ([ABlk.dead, obj 151 3 [AV.int IntKind.i64 piece, AV.int IntKind.i64 (tgt piece a now), AV.sl 2 0 n n true],  ABlk.cells   {    sto :=     Sto.fn fun j =>      bif j.beq (0 + ((tgt piece a now).tmod (n : Int)).toNat * 1) then       AV.int IntKind.i64 (IntKind.i64.wrap (F (0 + ((tgt piece a now).tmod (n : Int)).toNat * 1) + come m))      else listFn (ints (reachL piece a now (toI (listFn (ints l)) n))) j,    n := n, elem := 3, esz := 1, ro := false }]))
            )
            False
          )
          False
        )
        )
        )
        False
      )
      False
    )
  )
  ) := by kernel_rfl

theorem full_t (piece a now : Int) (l : List Int) (n : Nat) (KF : AV → List ABlk → Prop) :
  wcall (CI esW1) (XN esW1) 60 31 [.ptr 1 0, .int .i64 now] (hOf [.dead, win piece a n, ring l n]) (fun r => fin oqI 3 r.v r.h KF) =
  (And (WOk piece a n n n (listFn (ints l)))
  (And (∀ (i : Nat), i < n → (listFn (ints (reachL piece a now (toI (listFn (ints l)) n))) i).closed = true)
  (KF (AV.int IntKind.i64 (IntKind.i64.wrap (IntKind.i64.wrap (tgt piece a now + 1) * piece))) ([ABlk.dead, obj 151 3 [AV.int IntKind.i64 piece, AV.int IntKind.i64 (tgt piece a now), AV.sl 2 0 n n true],  ABlk.cells   { sto := Sto.fn (listFn (ints (reachL piece a now (toI (listFn (ints l)) n)))), n := n, elem := 3, esz := 1,    ro := false }]))
  )
  ) := by kernel_rfl

theorem sum_t0 (piece a now : Int) (l : List Int) (n : Nat) (KN : List AV → List ABlk → Prop) (KE : Nat → List AV → List ABlk → Prop) (KF : AV → List ABlk → Prop) :
  wexecL (CI esW2) (XN esW2) 60 sumPre ⟨21, argsT [.ptr 1 0, .int .i64 now] 0 .lf, hOf [.dead, win piece a n, ring l n], []⟩ (leafF oqI (CI esW2).P [.tmp 4] 21 3 3 [5, 10, 11, 12] KN KE KF) =
  (And (WOk piece a n n n (listFn (ints l)))
  (And (∀ (i : Nat), i < n → (listFn (ints (reachL piece a now (toI (listFn (ints l)) n))) i).closed = true)
  (And (∀ (i : Nat),
  i < n → (listFn (ints (partsL (tgt piece a now) (reachL piece a now (toI (listFn (ints l)) n)))) i).closed = true)
  (KN ([AV.int IntKind.i64 0, AV.sl 3 0 n n false, AV.int IntKind.i64 (n : Int), AV.int IntKind.i64 0]) ([ABlk.dead, obj 151 3 [AV.int IntKind.i64 piece, AV.int IntKind.i64 (tgt piece a now), AV.sl 2 0 n n true],  ABlk.cells   { sto := Sto.fn (listFn (ints (reachL piece a now (toI (listFn (ints l)) n)))), n := n, elem := 3, esz := 1,    ro := false },  ABlk.cells   { sto := Sto.fn (listFn (ints (partsL (tgt piece a now) (reachL piece a now (toI (listFn (ints l)) n))))), n := n,    elem := 3, esz := 1, ro := false }]))
  )
  )
  ) := by kernel_rfl

theorem sum_t1 (piece a s i : Int) (F : Nat → Int) (l out : List Int) (n : Nat) (KN : List AV → List ABlk → Prop) (KE : Nat → List AV → List ABlk → Prop) (KF : AV → List ABlk → Prop) :
  wexec (CI esW2) (XI esW2 3 F) 60 sumLoop (stOf 21 [5, 10, 11, 12] [.int .i64 s, .sl 3 0 n n false, .int .i64 n, .int .i64 i] [.dead, win piece a n, ring l n, ring out n]) (leafF oqI (CI esW2).P [.tmp 4] 21 3 3 [5, 10, 11, 12] KN KE KF) =
  (splitB (!ile ((n : Int)) i)
    (splitB (inB i n)
      (splitB ((0 + i.toNat * 1).blt n)
        (And ((Sto.fn (listFn (ints out))).get (0 + i.toNat * 1) = AV.int IntKind.i64 (F (0 + i.toNat * 1)))
        (And (∀ (j : Nat), j < n → (listFn (ints l) j).closed = true)
        (And (∀ (j : Nat), j < n → (listFn (ints out) j).closed = true)
        (KN ([AV.int IntKind.i64 (IntKind.i64.wrap (s + F (0 + i.toNat * 1))), AV.sl 3 0 n n false, AV.int IntKind.i64 (n : Int),  AV.int IntKind.i64 (IntKind.i64.wrap (i + 1))]) ([ABlk.dead, obj 151 3 [AV.int IntKind.i64 piece, AV.int IntKind.i64 a, AV.sl 2 0 n n true],  ABlk.cells { sto := Sto.fn (listFn (ints l)), n := n, elem := 3, esz := 1, ro := false },  ABlk.cells { sto := Sto.fn (listFn (ints out)), n := n, elem := 3, esz := 1, ro := false }]))
        )
        )
        )
        False
      )
      False
    )
    (And (∀ (j : Nat), j < n → (listFn (ints l) j).closed = true)
    (And (∀ (j : Nat), j < n → (listFn (ints out) j).closed = true)
    (KE (0) ([AV.int IntKind.i64 s, AV.sl 3 0 n n false, AV.int IntKind.i64 (n : Int), AV.int IntKind.i64 i]) ([ABlk.dead, obj 151 3 [AV.int IntKind.i64 piece, AV.int IntKind.i64 a, AV.sl 2 0 n n true],  ABlk.cells { sto := Sto.fn (listFn (ints l)), n := n, elem := 3, esz := 1, ro := false },  ABlk.cells { sto := Sto.fn (listFn (ints out)), n := n, elem := 3, esz := 1, ro := false }]))
    )
    )
  ) := by kernel_rfl

theorem sum_t2 (piece a s i : Int) (l out : List Int) (n : Nat) (KF : AV → List ABlk → Prop) :
  wexecL (CI esW2) (XN esW2) 60 sumPost (stOf 21 [5, 10, 11, 12] [.int .i64 s, .sl 3 0 n n false, .int .i64 n, .int .i64 i] [.dead, win piece a n, ring l n, ring out n]) (EndsF oqI (CI esW2).P [.tmp 4] 3 KF) =
  (And (∀ (j : Nat), j < n → (listFn (ints l) j).closed = true)
  (KF (AV.int IntKind.i64 s) ([ABlk.dead, obj 151 3 [AV.int IntKind.i64 piece, AV.int IntKind.i64 a, AV.sl 2 0 n n true],  ABlk.cells { sto := Sto.fn (listFn (ints l)), n := n, elem := 3, esz := 1, ro := false }]))
  ) := by kernel_rfl

theorem gre_t0 (piece a now : Int) (l : List Int) (n : Nat) (KN : List AV → List ABlk → Prop) (KE : Nat → List AV → List ABlk → Prop) (KF : AV → List ABlk → Prop) :
  wexecL (CI esW2) (XN esW2) 60 grePre ⟨21, argsT [.ptr 1 0, .int .i64 now] 0 .lf, hOf [.dead, win piece a n, ring l n], []⟩ (leafF oqI (CI esW2).P [.tmp 4] 21 3 3 [5, 10, 11, 12] KN KE KF) =
  (And (WOk piece a n n n (listFn (ints l)))
  (And (∀ (i : Nat), i < n → (listFn (ints (reachL piece a now (toI (listFn (ints l)) n))) i).closed = true)
  (And (∀ (i : Nat),
  i < n → (listFn (ints (partsL (tgt piece a now) (reachL piece a now (toI (listFn (ints l)) n)))) i).closed = true)
  (KN ([AV.int IntKind.i64 0, AV.sl 3 0 n n false, AV.int IntKind.i64 (n : Int), AV.int IntKind.i64 0]) ([ABlk.dead, obj 151 3 [AV.int IntKind.i64 piece, AV.int IntKind.i64 (tgt piece a now), AV.sl 2 0 n n true],  ABlk.cells   { sto := Sto.fn (listFn (ints (reachL piece a now (toI (listFn (ints l)) n)))), n := n, elem := 3, esz := 1,    ro := false },  ABlk.cells   { sto := Sto.fn (listFn (ints (partsL (tgt piece a now) (reachL piece a now (toI (listFn (ints l)) n))))), n := n,    elem := 3, esz := 1, ro := false }]))
  )
  )
  ) := by kernel_rfl

theorem gre_t1 (piece a s i : Int) (F : Nat → Int) (l out : List Int) (n : Nat) (KN : List AV → List ABlk → Prop) (KE : Nat → List AV → List ABlk → Prop) (KF : AV → List ABlk → Prop) :
  wexec (CI esW2) (XI esW2 3 F) 60 greLoop (stOf 21 [5, 10, 11, 12] [.int .i64 s, .sl 3 0 n n false, .int .i64 n, .int .i64 i] [.dead, win piece a n, ring l n, ring out n]) (leafF oqI (CI esW2).P [.tmp 4] 21 3 3 [5, 10, 11, 12] KN KE KF) =
  (splitB (!ile ((n : Int)) i)
    (splitB (inB i n)
      (splitB ((0 + i.toNat * 1).blt n)
        (And ((Sto.fn (listFn (ints out))).get (0 + i.toNat * 1) = AV.int IntKind.i64 (F (0 + i.toNat * 1)))
        (And (∀ (j : Nat), j < n → (listFn (ints l) j).closed = true)
        (And (∀ (j : Nat), j < n → (listFn (ints out) j).closed = true)
        (KN ([AV.int IntKind.i64 (imax s (F (0 + i.toNat * 1))), AV.sl 3 0 n n false, AV.int IntKind.i64 (n : Int),  AV.int IntKind.i64 (IntKind.i64.wrap (i + 1))]) ([ABlk.dead, obj 151 3 [AV.int IntKind.i64 piece, AV.int IntKind.i64 a, AV.sl 2 0 n n true],  ABlk.cells { sto := Sto.fn (listFn (ints l)), n := n, elem := 3, esz := 1, ro := false },  ABlk.cells { sto := Sto.fn (listFn (ints out)), n := n, elem := 3, esz := 1, ro := false }]))
        )
        )
        )
        False
      )
      False
    )
    (And (∀ (j : Nat), j < n → (listFn (ints l) j).closed = true)
    (And (∀ (j : Nat), j < n → (listFn (ints out) j).closed = true)
    (KE (0) ([AV.int IntKind.i64 s, AV.sl 3 0 n n false, AV.int IntKind.i64 (n : Int), AV.int IntKind.i64 i]) ([ABlk.dead, obj 151 3 [AV.int IntKind.i64 piece, AV.int IntKind.i64 a, AV.sl 2 0 n n true],  ABlk.cells { sto := Sto.fn (listFn (ints l)), n := n, elem := 3, esz := 1, ro := false },  ABlk.cells { sto := Sto.fn (listFn (ints out)), n := n, elem := 3, esz := 1, ro := false }]))
    )
    )
  ) := by kernel_rfl

theorem gre_t2 (piece a s i : Int) (l out : List Int) (n : Nat) (KF : AV → List ABlk → Prop) :
  wexecL (CI esW2) (XN esW2) 60 grePost (stOf 21 [5, 10, 11, 12] [.int .i64 s, .sl 3 0 n n false, .int .i64 n, .int .i64 i] [.dead, win piece a n, ring l n, ring out n]) (EndsF oqI (CI esW2).P [.tmp 4] 3 KF) =
  (And (∀ (j : Nat), j < n → (listFn (ints l) j).closed = true)
  (KF (AV.int IntKind.i64 s) ([ABlk.dead, obj 151 3 [AV.int IntKind.i64 piece, AV.int IntKind.i64 a, AV.sl 2 0 n n true],  ABlk.cells { sto := Sto.fn (listFn (ints l)), n := n, elem := 3, esz := 1, ro := false }]))
  ) := by kernel_rfl

end Go.Abs
