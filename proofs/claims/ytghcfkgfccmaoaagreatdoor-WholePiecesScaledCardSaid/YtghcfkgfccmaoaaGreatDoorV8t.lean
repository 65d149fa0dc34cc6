/-
  Trees (printed by program). (Helper theorems; each says its own conditions.)
-/
import Derived.Test.YtghcfkgfccmaoaaGreatDoorV7
/-! Trees (printed by program). -/
namespace Go.Abs
open Go Go.Proofs
theorem allow_t (piece a now x most : Int) (l : List Int) (n : Nat) (KF : AV → List ABlk → Prop) :
  wcall (CI esW3) (XN esW3) 60 27 [.ptr 1 0, .int .i64 now, .int .i64 x, .int .i64 most] (hOf [.dead, win piece a n, ring l n]) (fun r => fin oqI 3 r.v r.h KF) =
  (And (WOk piece a n n n (listFn (ints l)))
  (And (True)
  (splitB (!ile (IntKind.i64.wrap (sumL (partsL (tgt piece a now) (reachL piece a now (toI (listFn (ints l)) n))) + come x)) most)
    (And (∀ (i : Nat), i < n → (listFn (ints (reachL piece a now (toI (listFn (ints l)) n))) i).closed = true)
    (KF (AV.bool false) ([ABlk.dead, obj 151 3 [AV.int IntKind.i64 piece, AV.int IntKind.i64 (tgt piece a now), AV.sl 2 0 n n true],  ABlk.cells   { sto := Sto.fn (listFn (ints (reachL piece a now (toI (listFn (ints l)) n)))), n := n, elem := 3, esz := 1,    ro := false }]))
    )
    (And (WOk piece (tgt piece a now) n n n (listFn (ints (reachL piece a now (toI (listFn (ints l)) n)))))
    (And (∀ (i : Nat),
  i < n →
    (listFn
          (ints
            (addL (tgt piece (tgt piece a now) now) x
              (reachL piece (tgt piece a now) now
                (toI (listFn (ints (reachL piece a now (toI (listFn (ints l)) n)))) n))))
          i).closed =
      true)
    (KF (AV.bool true) ([ABlk.dead,  obj 151 3 [AV.int IntKind.i64 piece, AV.int IntKind.i64 (tgt piece (tgt piece a now) now), AV.sl 2 0 n n true],  ABlk.cells   {    sto :=     Sto.fn      (listFn       (ints        (addL (tgt piece (tgt piece a now) now) x         (reachL piece (tgt piece a now) now          (toI (listFn (ints (reachL piece a now (toI (listFn (ints l)) n)))) n))))),    n := n, elem := 3, esz := 1, ro := false }]))
    )
    )
  )
  )
  ) := by kernel_rfl

theorem wnew_t (width parts : Int) (KF : AV → List ABlk → Prop) :
  wcall (CI []) (XN []) 60 25 [.int .i64 width, .int .i64 parts] (hOf [.dead]) (fun r => fin oqI 1 r.v r.h KF) =
  (splitB (!ile 1 width)
    (KF (AV.nilp) ([ABlk.dead]))
    (splitB (!ile width 1099511627776)
      (KF (AV.nilp) ([ABlk.dead]))
      (splitB (!ile 1 parts)
        (KF (AV.nilp) ([ABlk.dead]))
        (splitB (!ile parts 64)
          (KF (AV.nilp) ([ABlk.dead]))
          (splitB (ieq parts 0)
            False
            (splitB (!ieq (width.tmod parts) 0)
              (KF (AV.nilp) ([ABlk.dead]))
              (splitB (ieq parts 0)
                False
                (splitB (ile 0 parts && ile parts parts && Nat.blt 0 1 && Nat.beq 1 1 && (8 * parts.toNat).ble (2 ^ 47) &&
  parts.toNat.blt 4611686018427387904)
                  (And (∀ (i : Nat), i < parts.toNat * 1 → ((Sto.tr Tr.lf (zeroFn [AV.int IntKind.i64 0] 1)).get i).closed = true)
                  (KF (AV.ptr 1 0) ([ABlk.dead,  obj 151 3   [AV.int IntKind.i64 (IntKind.i64.wrap (width.tdiv parts)), AV.int IntKind.i64 0,    AV.sl 2 0 parts.toNat parts.toNat true],  ABlk.cells   { sto := Sto.fn (Sto.tr Tr.lf (zeroFn [AV.int IntKind.i64 0] 1)).get, n := parts.toNat * 1, elem := 3, esz := 1,    ro := false }]))
                  )
                  False
                )
              )
            )
          )
        )
      )
    )
  ) := by kernel_rfl

theorem eq_t0 (l l' : List Int) (n n' c c' : Nat) (e e' : Bool) (KN : List AV → List ABlk → Prop) (KE : Nat → List AV → List ABlk → Prop) (KF : AV → List ABlk → Prop) :
  wexecL (CI []) (XN []) 60 eqPre ⟨26, argsT [.sl 1 0 n c e, .sl 2 0 n' c' e'] 0 .lf, hOf [.dead, ring l n, ring l' n'], []⟩ (leafF oqI (CI []).P [.tmp 4] 26 3 3 [0, 1, 12, 13] KN KE KF) =
  (splitB (!ieq (n : Int) (n' : Int))
    (And (∀ (j : Nat), j < n → (listFn (ints l) j).closed = true)
    (And (∀ (j : Nat), j < n' → (listFn (ints l') j).closed = true)
    (KF (AV.bool false) ([ABlk.dead, ABlk.cells { sto := Sto.fn (listFn (ints l)), n := n, elem := 3, esz := 1, ro := false },  ABlk.cells { sto := Sto.fn (listFn (ints l')), n := n', elem := 3, esz := 1, ro := false }]))
    )
    )
    (And (∀ (j : Nat), j < n → (listFn (ints l) j).closed = true)
    (And (∀ (j : Nat), j < n' → (listFn (ints l') j).closed = true)
    (KN ([AV.sl 1 0 n c e, AV.sl 2 0 n' c' e', AV.int IntKind.i64 (n : Int), AV.int IntKind.i64 0]) ([ABlk.dead, ABlk.cells { sto := Sto.fn (listFn (ints l)), n := n, elem := 3, esz := 1, ro := false },  ABlk.cells { sto := Sto.fn (listFn (ints l')), n := n', elem := 3, esz := 1, ro := false }]))
    )
    )
  ) := by kernel_rfl

theorem eq_t1 (i : Int) (F G : Nat → Int) (l l' : List Int) (n n' c c' : Nat) (e e' : Bool) (KN : List AV → List ABlk → Prop) (KE : Nat → List AV → List ABlk → Prop) (KF : AV → List ABlk → Prop) :
  wexec (CI []) (XI2 [] F G) 60 eqLoop (stOf 26 [0, 1, 12, 13] [.sl 1 0 n c e, .sl 2 0 n' c' e', .int .i64 n, .int .i64 i] [.dead, ring l n, ring l' n']) (leafF oqI (CI []).P [.tmp 4] 26 3 3 [0, 1, 12, 13] KN KE KF) =
  (splitB (!ile ((n : Int)) i)
    (splitB (inB i n)
      (splitB ((0 + i.toNat * 1).blt n)
        (And ((Sto.fn (listFn (ints l))).get (0 + i.toNat * 1) = AV.int IntKind.i64 (F (0 + i.toNat * 1)))
        (splitB (inB i n')
          (splitB ((0 + i.toNat * 1).blt n')
            (And ((Sto.fn (listFn (ints l'))).get (0 + i.toNat * 1) = AV.int IntKind.i64 (G (0 + i.toNat * 1)))
            (splitB (!ieq (F (0 + i.toNat * 1)) (G (0 + i.toNat * 1)))
              (And (∀ (j : Nat), j < n → (listFn (ints l) j).closed = true)
              (And (∀ (j : Nat), j < n' → (listFn (ints l') j).closed = true)
              (KF (AV.bool false) ([ABlk.dead, ABlk.cells { sto := Sto.fn (listFn (ints l)), n := n, elem := 3, esz := 1, ro := false },  ABlk.cells { sto := Sto.fn (listFn (ints l')), n := n', elem := 3, esz := 1, ro := false }]))
              )
              )
              (And (∀ (j : Nat), j < n → (listFn (ints l) j).closed = true)
              (And (∀ (j : Nat), j < n' → (listFn (ints l') j).closed = true)
              (KN ([AV.sl 1 0 n c e, AV.sl 2 0 n' c' e', AV.int IntKind.i64 (n : Int), AV.int IntKind.i64 (IntKind.i64.wrap (i + 1))]) ([ABlk.dead, ABlk.cells { sto := Sto.fn (listFn (ints l)), n := n, elem := 3, esz := 1, ro := false },  ABlk.cells { sto := Sto.fn (listFn (ints l')), n := n', elem := 3, esz := 1, ro := false }]))
              )
              )
            )
            )
            False
          )
          False
        )
        )
        False
      )
      False
    )
    (And (∀ (j : Nat), j < n → (listFn (ints l) j).closed = true)
    (And (∀ (j : Nat), j < n' → (listFn (ints l') j).closed = true)
    (KE (0) ([AV.sl 1 0 n c e, AV.sl 2 0 n' c' e', AV.int IntKind.i64 (n : Int), AV.int IntKind.i64 i]) ([ABlk.dead, ABlk.cells { sto := Sto.fn (listFn (ints l)), n := n, elem := 3, esz := 1, ro := false },  ABlk.cells { sto := Sto.fn (listFn (ints l')), n := n', elem := 3, esz := 1, ro := false }]))
    )
    )
  ) := by kernel_rfl

theorem eq_t2 (i : Int) (l l' : List Int) (n n' c c' : Nat) (e e' : Bool) (KF : AV → List ABlk → Prop) :
  wexecL (CI []) (XN []) 60 eqPost (stOf 26 [0, 1, 12, 13] [.sl 1 0 n c e, .sl 2 0 n' c' e', .int .i64 n, .int .i64 i] [.dead, ring l n, ring l' n']) (EndsF oqI (CI []).P [.tmp 4] 3 KF) =
  (And (∀ (j : Nat), j < n → (listFn (ints l) j).closed = true)
  (And (∀ (j : Nat), j < n' → (listFn (ints l') j).closed = true)
  (KF (AV.bool true) ([ABlk.dead, ABlk.cells { sto := Sto.fn (listFn (ints l)), n := n, elem := 3, esz := 1, ro := false },  ABlk.cells { sto := Sto.fn (listFn (ints l')), n := n', elem := 3, esz := 1, ro := false }]))
  )
  ) := by kernel_rfl

end Go.Abs
