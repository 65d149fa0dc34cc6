/-
  Trees (printed by program). (Helper theorems; each says its own conditions.)
-/
import Derived.Test.YtghcfkgfccmaoaaGreatDoorL1
/-! Trees (printed by program). -/
namespace Go.Abs
open Go Go.Proofs
theorem pre_tree (q m : Int) (len cap : Nat) (t l : Int) (d : Nat → AV) (nd : Nat) (KN : List AV → List ABlk → Prop) (KE : Nat → List AV → List ABlk → Prop) (KF : AV → List ABlk → Prop) :
  wexecL Cl XC 60 (items1.take 8) ⟨200, argsT [.int .i64 q, .int .i64 m, .sl 1 0 len cap true, .int .u8 t, .int .u32 l] 0 .lf, hOf [tabB, inB1 d nd], []⟩ (leafF noOpq Tryz.prog rs1 200 1 0 ts1 KN KE KF) =
  (splitB (!ile 1 q)
    (KF (AV.bool true) ([]))
    (splitB (!ile q 274877906944)
      (KF (AV.bool true) ([]))
      (splitB (!ieq m 0)
        (splitB (!ile q m)
          (KF (AV.bool true) ([]))
          (splitB (!ile m 281474976710656)
            (KF (AV.bool true) ([]))
            (splitB (!ile ((len : Int)) 100)
              (KF (AV.bool true) ([]))
              (And (bGood q m)
              (And (bGood (IntKind.i64.wrap (IntKind.i64.wrap (1 + IntKind.i64.wrap (t.tmod 4)) * q))
  (IntKind.i64.wrap (IntKind.i64.wrap (1 + IntKind.i64.wrap (t.tmod 4)) * m)))
              (And (∀ (j : Nat), j < 32 → (listFn tabV j).closed = true)
              (And (∀ (j : Nat), j < nd → (d j).closed = true)
              (KN ([AV.int IntKind.i64 (IntKind.i64.wrap (1 + IntKind.i64.wrap (t.tmod 4))), AV.int IntKind.i64 (IntKind.i64.wrap l),  AV.ptr 1 0, AV.ptr 2 0, AV.sl 3 0 len cap true, AV.int IntKind.i64 (len : Int), AV.int IntKind.i64 0]) ([ABlk.cells { sto := Sto.fn (listFn tabV), n := 32, elem := 0, esz := 32, ro := true },  obj 137 7   [AV.int IntKind.i64 q, AV.int IntKind.i64 m, AV.int IntKind.i64 0, AV.int IntKind.i64 0, AV.int IntKind.i64 0,    AV.int IntKind.i64 0, AV.int IntKind.i64 0],  obj 137 7   [AV.int IntKind.i64 (IntKind.i64.wrap (IntKind.i64.wrap (1 + IntKind.i64.wrap (t.tmod 4)) * q)),    AV.int IntKind.i64 (IntKind.i64.wrap (IntKind.i64.wrap (1 + IntKind.i64.wrap (t.tmod 4)) * m)),    AV.int IntKind.i64 0, AV.int IntKind.i64 0, AV.int IntKind.i64 0, AV.int IntKind.i64 0, AV.int IntKind.i64 0],  ABlk.cells { sto := Sto.fn d, n := nd, elem := 28, esz := 2, ro := true }]))
              )
              )
              )
              )
            )
          )
        )
        (splitB (!ile ((len : Int)) 100)
          (KF (AV.bool true) ([]))
          (And (bGood q m)
          (And (bGood (IntKind.i64.wrap (IntKind.i64.wrap (1 + IntKind.i64.wrap (t.tmod 4)) * q))
  (IntKind.i64.wrap (IntKind.i64.wrap (1 + IntKind.i64.wrap (t.tmod 4)) * m)))
          (And (∀ (j : Nat), j < 32 → (listFn tabV j).closed = true)
          (And (∀ (j : Nat), j < nd → (d j).closed = true)
          (KN ([AV.int IntKind.i64 (IntKind.i64.wrap (1 + IntKind.i64.wrap (t.tmod 4))), AV.int IntKind.i64 (IntKind.i64.wrap l),  AV.ptr 1 0, AV.ptr 2 0, AV.sl 3 0 len cap true, AV.int IntKind.i64 (len : Int), AV.int IntKind.i64 0]) ([ABlk.cells { sto := Sto.fn (listFn tabV), n := 32, elem := 0, esz := 32, ro := true },  obj 137 7   [AV.int IntKind.i64 q, AV.int IntKind.i64 m, AV.int IntKind.i64 0, AV.int IntKind.i64 0, AV.int IntKind.i64 0,    AV.int IntKind.i64 0, AV.int IntKind.i64 0],  obj 137 7   [AV.int IntKind.i64 (IntKind.i64.wrap (IntKind.i64.wrap (1 + IntKind.i64.wrap (t.tmod 4)) * q)),    AV.int IntKind.i64 (IntKind.i64.wrap (IntKind.i64.wrap (1 + IntKind.i64.wrap (t.tmod 4)) * m)),    AV.int IntKind.i64 0, AV.int IntKind.i64 0, AV.int IntKind.i64 0, AV.int IntKind.i64 0, AV.int IntKind.i64 0],  ABlk.cells { sto := Sto.fn d, n := nd, elem := 28, esz := 2, ro := true }]))
          )
          )
          )
          )
        )
      )
    )
  ) := by kernel_rfl

theorem body_tree (k by_ : Int) (len cap : Nat) (i kd nw : Int) (q m now fr to pk at_ q' m' now' fr' to' pk' at' : Int) (d : Nat → AV) (nd : Nat) (KN : List AV → List ABlk → Prop) (KE : Nat → List AV → List ABlk → Prop) (KF : AV → List ABlk → Prop) :
  wexec Cl (XL kd nw) 60 loop1 (stOf 200 ts1 (vals1 k by_ len cap i) (blks1 (flt q m now fr to pk at_) (flt q' m' now' fr' to' pk' at') d nd)) (leafF noOpq Tryz.prog rs1 200 1 0 ts1 KN KE KF) =
  (splitB (!ile ((len : Int)) i)
    (splitB (inB i len)
      (splitB ((0 + i.toNat * 2 + 2).ble nd)
        (And (readL (Sto.fn d) (0 + i.toNat * 2) 2 = [AV.int IntKind.u8 kd, AV.int IntKind.i64 nw])
        (splitB (!ile 0 nw)
          (And (∀ (j : Nat), j < 32 → (listFn tabV j).closed = true)
          (And (∀ (j : Nat), j < nd → (d j).closed = true)
          (KN ([AV.int IntKind.i64 k, AV.int IntKind.i64 by_, AV.ptr 1 0, AV.ptr 2 0, AV.sl 3 0 len cap true, AV.int IntKind.i64 (len : Int),  AV.int IntKind.i64 (IntKind.i64.wrap (i + 1))]) ([ABlk.cells { sto := Sto.fn (listFn tabV), n := 32, elem := 0, esz := 32, ro := true },  obj 137 7   [AV.int IntKind.i64 q, AV.int IntKind.i64 m, AV.int IntKind.i64 now, AV.int IntKind.i64 fr, AV.int IntKind.i64 to,    AV.int IntKind.i64 pk, AV.int IntKind.i64 at_],  obj 137 7   [AV.int IntKind.i64 q', AV.int IntKind.i64 m', AV.int IntKind.i64 now', AV.int IntKind.i64 fr',    AV.int IntKind.i64 to', AV.int IntKind.i64 pk', AV.int IntKind.i64 at'],  ABlk.cells { sto := Sto.fn d, n := nd, elem := 28, esz := 2, ro := true }]))
          )
          )
          (splitB (!ile nw 35184372088832)
            (And (∀ (j : Nat), j < 32 → (listFn tabV j).closed = true)
            (And (∀ (j : Nat), j < nd → (d j).closed = true)
            (KN ([AV.int IntKind.i64 k, AV.int IntKind.i64 by_, AV.ptr 1 0, AV.ptr 2 0, AV.sl 3 0 len cap true, AV.int IntKind.i64 (len : Int),  AV.int IntKind.i64 (IntKind.i64.wrap (i + 1))]) ([ABlk.cells { sto := Sto.fn (listFn tabV), n := 32, elem := 0, esz := 32, ro := true },  obj 137 7   [AV.int IntKind.i64 q, AV.int IntKind.i64 m, AV.int IntKind.i64 now, AV.int IntKind.i64 fr, AV.int IntKind.i64 to,    AV.int IntKind.i64 pk, AV.int IntKind.i64 at_],  obj 137 7   [AV.int IntKind.i64 q', AV.int IntKind.i64 m', AV.int IntKind.i64 now', AV.int IntKind.i64 fr',    AV.int IntKind.i64 to', AV.int IntKind.i64 pk', AV.int IntKind.i64 at'],  ABlk.cells { sto := Sto.fn d, n := nd, elem := 28, esz := 2, ro := true }]))
            )
            )
            (splitB (ieq (kd.tmod 4) 0)
              (splitB (bFires q m now fr to pk nw)
                (splitB (!bFires q m now fr to pk nw == bFires q' m' now' fr' to' pk' (IntKind.i64.wrap (IntKind.i64.wrap (k * nw) + by_)))
                  (KF (AV.bool false) ([]))
                  (splitB (!(ieq (IntKind.i64.wrap (IntKind.i64.wrap (k * bif bFires q m now fr to pk nw then fr else 0) + by_))
      (bif bFires q' m' now' fr' to' pk' (IntKind.i64.wrap (IntKind.i64.wrap (k * nw) + by_)) then fr' else 0) &&
    (ieq (IntKind.i64.wrap (IntKind.i64.wrap (k * bif bFires q m now fr to pk nw then to else 0) + by_))
        (bif bFires q' m' now' fr' to' pk' (IntKind.i64.wrap (IntKind.i64.wrap (k * nw) + by_)) then to' else 0) &&
      (ieq (bif bFires q m now fr to pk nw then pk else 0)
          (bif bFires q' m' now' fr' to' pk' (IntKind.i64.wrap (IntKind.i64.wrap (k * nw) + by_)) then pk' else 0) &&
        (ieq (IntKind.i64.wrap (IntKind.i64.wrap (k * bif bFires q m now fr to pk nw then bEnd q m fr to else 0) + by_))
            (bif bFires q' m' now' fr' to' pk' (IntKind.i64.wrap (IntKind.i64.wrap (k * nw) + by_)) then
              bEnd q' m' fr' to'
            else 0) &&
          true)))))
                    (KF (AV.bool false) ([]))
                    (splitB (!(!ieq (IntKind.i64.wrap ((bif bFires q m now fr to pk nw then 0 else pk) + 1)) 0) ==
    !ieq
        (IntKind.i64.wrap
          ((bif bFires q' m' now' fr' to' pk' (IntKind.i64.wrap (IntKind.i64.wrap (k * nw) + by_)) then 0 else pk') +
            1))
        0)
                      (KF (AV.bool false) ([]))
                      (splitB (!ieq (IntKind.i64.wrap ((bif bFires q m now fr to pk nw then 0 else pk) + 1)) 0)
                        (splitB (!ieq
    (IntKind.i64.wrap
      (IntKind.i64.wrap
          (k *
            bif ieq (IntKind.i64.wrap ((bif bFires q m now fr to pk nw then 0 else pk) + 1)) 0 then 0
            else bEnd q m (bif bFires q m now fr to pk nw || ieq pk 0 then bNow now nw else fr) (bNow now nw)) +
        by_))
    (bif
        ieq
          (IntKind.i64.wrap
            ((bif bFires q' m' now' fr' to' pk' (IntKind.i64.wrap (IntKind.i64.wrap (k * nw) + by_)) then 0 else pk') +
              1))
          0 then
      0
    else
      bEnd q' m'
        (bif bFires q' m' now' fr' to' pk' (IntKind.i64.wrap (IntKind.i64.wrap (k * nw) + by_)) || ieq pk' 0 then
          bNow now' (IntKind.i64.wrap (IntKind.i64.wrap (k * nw) + by_))
        else fr')
        (bNow now' (IntKind.i64.wrap (IntKind.i64.wrap (k * nw) + by_)))))
                          (KF (AV.bool false) ([]))
                          (splitB (!ieq (IntKind.i64.wrap ((bif bFires q m now fr to pk nw then 0 else pk) + 1))
    (IntKind.i64.wrap
      ((bif bFires q' m' now' fr' to' pk' (IntKind.i64.wrap (IntKind.i64.wrap (k * nw) + by_)) then 0 else pk') + 1)))
                            (KF (AV.bool false) ([]))
                            (And (∀ (j : Nat), j < 32 → (listFn tabV j).closed = true)
                            (And (∀ (j : Nat), j < nd → (d j).closed = true)
                            (KN ([AV.int IntKind.i64 k, AV.int IntKind.i64 by_, AV.ptr 1 0, AV.ptr 2 0, AV.sl 3 0 len cap true, AV.int IntKind.i64 (len : Int),  AV.int IntKind.i64 (IntKind.i64.wrap (i + 1))]) ([ABlk.cells { sto := Sto.fn (listFn tabV), n := 32, elem := 0, esz := 32, ro := true },  obj 137 7   [AV.int IntKind.i64 q, AV.int IntKind.i64 m, AV.int IntKind.i64 (bNow now nw),    AV.int IntKind.i64 (bif bFires q m now fr to pk nw || ieq pk 0 then bNow now nw else fr),    AV.int IntKind.i64 (bNow now nw),    AV.int IntKind.i64 (IntKind.i64.wrap ((bif bFires q m now fr to pk nw then 0 else pk) + 1)),    AV.int IntKind.i64 (bif bFires q m now fr to pk nw then 0 else at_)],  obj 137 7   [AV.int IntKind.i64 q', AV.int IntKind.i64 m',    AV.int IntKind.i64 (bNow now' (IntKind.i64.wrap (IntKind.i64.wrap (k * nw) + by_))),    AV.int IntKind.i64     (bif bFires q' m' now' fr' to' pk' (IntKind.i64.wrap (IntKind.i64.wrap (k * nw) + by_)) || ieq pk' 0 then      bNow now' (IntKind.i64.wrap (IntKind.i64.wrap (k * nw) + by_))     else fr'),    AV.int IntKind.i64 (bNow now' (IntKind.i64.wrap (IntKind.i64.wrap (k * nw) + by_))),    AV.int IntKind.i64     (IntKind.i64.wrap      ((bif bFires q' m' now' fr' to' pk' (IntKind.i64.wrap (IntKind.i64.wrap (k * nw) + by_)) then 0 else pk') +       1)),    AV.int IntKind.i64     (bif bFires q' m' now' fr' to' pk' (IntKind.i64.wrap (IntKind.i64.wrap (k * nw) + by_)) then 0 else at')],  ABlk.cells { sto := Sto.fn d, n := nd, elem := 28, esz := 2, ro := true }]))
                            )
                            )
                          )
                        )
                        (splitB (!ieq (IntKind.i64.wrap ((bif bFires q m now fr to pk nw then 0 else pk) + 1))
    (IntKind.i64.wrap
      ((bif bFires q' m' now' fr' to' pk' (IntKind.i64.wrap (IntKind.i64.wrap (k * nw) + by_)) then 0 else pk') + 1)))
                          (KF (AV.bool false) ([]))
                          (And (∀ (j : Nat), j < 32 → (listFn tabV j).closed = true)
                          (And (∀ (j : Nat), j < nd → (d j).closed = true)
                          (KN ([AV.int IntKind.i64 k, AV.int IntKind.i64 by_, AV.ptr 1 0, AV.ptr 2 0, AV.sl 3 0 len cap true, AV.int IntKind.i64 (len : Int),  AV.int IntKind.i64 (IntKind.i64.wrap (i + 1))]) ([ABlk.cells { sto := Sto.fn (listFn tabV), n := 32, elem := 0, esz := 32, ro := true },  obj 137 7   [AV.int IntKind.i64 q, AV.int IntKind.i64 m, AV.int IntKind.i64 (bNow now nw),    AV.int IntKind.i64 (bif bFires q m now fr to pk nw || ieq pk 0 then bNow now nw else fr),    AV.int IntKind.i64 (bNow now nw),    AV.int IntKind.i64 (IntKind.i64.wrap ((bif bFires q m now fr to pk nw then 0 else pk) + 1)),    AV.int IntKind.i64 (bif bFires q m now fr to pk nw then 0 else at_)],  obj 137 7   [AV.int IntKind.i64 q', AV.int IntKind.i64 m',    AV.int IntKind.i64 (bNow now' (IntKind.i64.wrap (IntKind.i64.wrap (k * nw) + by_))),    AV.int IntKind.i64     (bif bFires q' m' now' fr' to' pk' (IntKind.i64.wrap (IntKind.i64.wrap (k * nw) + by_)) || ieq pk' 0 then      bNow now' (IntKind.i64.wrap (IntKind.i64.wrap (k * nw) + by_))     else fr'),    AV.int IntKind.i64 (bNow now' (IntKind.i64.wrap (IntKind.i64.wrap (k * nw) + by_))),    AV.int IntKind.i64     (IntKind.i64.wrap      ((bif bFires q' m' now' fr' to' pk' (IntKind.i64.wrap (IntKind.i64.wrap (k * nw) + by_)) then 0 else pk') +       1)),    AV.int IntKind.i64     (bif bFires q' m' now' fr' to' pk' (IntKind.i64.wrap (IntKind.i64.wrap (k * nw) + by_)) then 0 else at')],  ABlk.cells { sto := Sto.fn d, n := nd, elem := 28, esz := 2, ro := true }]))
                          )
                          )
                        )
                      )
                    )
                  )
                )
                (splitB (!bFires q m now fr to pk nw == bFires q' m' now' fr' to' pk' (IntKind.i64.wrap (IntKind.i64.wrap (k * nw) + by_)))
                  (KF (AV.bool false) ([]))
                  (splitB (!(ieq (bif bFires q m now fr to pk nw then fr else 0)
      (bif bFires q' m' now' fr' to' pk' (IntKind.i64.wrap (IntKind.i64.wrap (k * nw) + by_)) then fr' else 0) &&
    (ieq (bif bFires q m now fr to pk nw then to else 0)
        (bif bFires q' m' now' fr' to' pk' (IntKind.i64.wrap (IntKind.i64.wrap (k * nw) + by_)) then to' else 0) &&
      (ieq (bif bFires q m now fr to pk nw then pk else 0)
          (bif bFires q' m' now' fr' to' pk' (IntKind.i64.wrap (IntKind.i64.wrap (k * nw) + by_)) then pk' else 0) &&
        (ieq (bif bFires q m now fr to pk nw then bEnd q m fr to else 0)
            (bif bFires q' m' now' fr' to' pk' (IntKind.i64.wrap (IntKind.i64.wrap (k * nw) + by_)) then
              bEnd q' m' fr' to'
            else 0) &&
          true)))))
                    (KF (AV.bool false) ([]))
                    (splitB (!(!ieq (IntKind.i64.wrap ((bif bFires q m now fr to pk nw then 0 else pk) + 1)) 0) ==
    !ieq
        (IntKind.i64.wrap
          ((bif bFires q' m' now' fr' to' pk' (IntKind.i64.wrap (IntKind.i64.wrap (k * nw) + by_)) then 0 else pk') +
            1))
        0)
                      (KF (AV.bool false) ([]))
                      (splitB (!ieq (IntKind.i64.wrap ((bif bFires q m now fr to pk nw then 0 else pk) + 1)) 0)
                        (splitB (!ieq
    (IntKind.i64.wrap
      (IntKind.i64.wrap
          (k *
            bif ieq (IntKind.i64.wrap ((bif bFires q m now fr to pk nw then 0 else pk) + 1)) 0 then 0
            else bEnd q m (bif bFires q m now fr to pk nw || ieq pk 0 then bNow now nw else fr) (bNow now nw)) +
        by_))
    (bif
        ieq
          (IntKind.i64.wrap
            ((bif bFires q' m' now' fr' to' pk' (IntKind.i64.wrap (IntKind.i64.wrap (k * nw) + by_)) then 0 else pk') +
              1))
          0 then
      0
    else
      bEnd q' m'
        (bif bFires q' m' now' fr' to' pk' (IntKind.i64.wrap (IntKind.i64.wrap (k * nw) + by_)) || ieq pk' 0 then
          bNow now' (IntKind.i64.wrap (IntKind.i64.wrap (k * nw) + by_))
        else fr')
        (bNow now' (IntKind.i64.wrap (IntKind.i64.wrap (k * nw) + by_)))))
                          (KF (AV.bool false) ([]))
                          (splitB (!ieq (IntKind.i64.wrap ((bif bFires q m now fr to pk nw then 0 else pk) + 1))
    (IntKind.i64.wrap
      ((bif bFires q' m' now' fr' to' pk' (IntKind.i64.wrap (IntKind.i64.wrap (k * nw) + by_)) then 0 else pk') + 1)))
                            (KF (AV.bool false) ([]))
                            (And (∀ (j : Nat), j < 32 → (listFn tabV j).closed = true)
                            (And (∀ (j : Nat), j < nd → (d j).closed = true)
                            (KN ([AV.int IntKind.i64 k, AV.int IntKind.i64 by_, AV.ptr 1 0, AV.ptr 2 0, AV.sl 3 0 len cap true, AV.int IntKind.i64 (len : Int),  AV.int IntKind.i64 (IntKind.i64.wrap (i + 1))]) ([ABlk.cells { sto := Sto.fn (listFn tabV), n := 32, elem := 0, esz := 32, ro := true },  obj 137 7   [AV.int IntKind.i64 q, AV.int IntKind.i64 m, AV.int IntKind.i64 (bNow now nw),    AV.int IntKind.i64 (bif bFires q m now fr to pk nw || ieq pk 0 then bNow now nw else fr),    AV.int IntKind.i64 (bNow now nw),    AV.int IntKind.i64 (IntKind.i64.wrap ((bif bFires q m now fr to pk nw then 0 else pk) + 1)),    AV.int IntKind.i64 (bif bFires q m now fr to pk nw then 0 else at_)],  obj 137 7   [AV.int IntKind.i64 q', AV.int IntKind.i64 m',    AV.int IntKind.i64 (bNow now' (IntKind.i64.wrap (IntKind.i64.wrap (k * nw) + by_))),    AV.int IntKind.i64     (bif bFires q' m' now' fr' to' pk' (IntKind.i64.wrap (IntKind.i64.wrap (k * nw) + by_)) || ieq pk' 0 then      bNow now' (IntKind.i64.wrap (IntKind.i64.wrap (k * nw) + by_))     else fr'),    AV.int IntKind.i64 (bNow now' (IntKind.i64.wrap (IntKind.i64.wrap (k * nw) + by_))),    AV.int IntKind.i64     (IntKind.i64.wrap      ((bif bFires q' m' now' fr' to' pk' (IntKind.i64.wrap (IntKind.i64.wrap (k * nw) + by_)) then 0 else pk') +       1)),    AV.int IntKind.i64     (bif bFires q' m' now' fr' to' pk' (IntKind.i64.wrap (IntKind.i64.wrap (k * nw) + by_)) then 0 else at')],  ABlk.cells { sto := Sto.fn d, n := nd, elem := 28, esz := 2, ro := true }]))
                            )
                            )
                          )
                        )
                        (splitB (!ieq (IntKind.i64.wrap ((bif bFires q m now fr to pk nw then 0 else pk) + 1))
    (IntKind.i64.wrap
      ((bif bFires q' m' now' fr' to' pk' (IntKind.i64.wrap (IntKind.i64.wrap (k * nw) + by_)) then 0 else pk') + 1)))
                          (KF (AV.bool false) ([]))
                          (And (∀ (j : Nat), j < 32 → (listFn tabV j).closed = true)
                          (And (∀ (j : Nat), j < nd → (d j).closed = true)
                          (KN ([AV.int IntKind.i64 k, AV.int IntKind.i64 by_, AV.ptr 1 0, AV.ptr 2 0, AV.sl 3 0 len cap true, AV.int IntKind.i64 (len : Int),  AV.int IntKind.i64 (IntKind.i64.wrap (i + 1))]) ([ABlk.cells { sto := Sto.fn (listFn tabV), n := 32, elem := 0, esz := 32, ro := true },  obj 137 7   [AV.int IntKind.i64 q, AV.int IntKind.i64 m, AV.int IntKind.i64 (bNow now nw),    AV.int IntKind.i64 (bif bFires q m now fr to pk nw || ieq pk 0 then bNow now nw else fr),    AV.int IntKind.i64 (bNow now nw),    AV.int IntKind.i64 (IntKind.i64.wrap ((bif bFires q m now fr to pk nw then 0 else pk) + 1)),    AV.int IntKind.i64 (bif bFires q m now fr to pk nw then 0 else at_)],  obj 137 7   [AV.int IntKind.i64 q', AV.int IntKind.i64 m',    AV.int IntKind.i64 (bNow now' (IntKind.i64.wrap (IntKind.i64.wrap (k * nw) + by_))),    AV.int IntKind.i64     (bif bFires q' m' now' fr' to' pk' (IntKind.i64.wrap (IntKind.i64.wrap (k * nw) + by_)) || ieq pk' 0 then      bNow now' (IntKind.i64.wrap (IntKind.i64.wrap (k * nw) + by_))     else fr'),    AV.int IntKind.i64 (bNow now' (IntKind.i64.wrap (IntKind.i64.wrap (k * nw) + by_))),    AV.int IntKind.i64     (IntKind.i64.wrap      ((bif bFires q' m' now' fr' to' pk' (IntKind.i64.wrap (IntKind.i64.wrap (k * nw) + by_)) then 0 else pk') +       1)),    AV.int IntKind.i64     (bif bFires q' m' now' fr' to' pk' (IntKind.i64.wrap (IntKind.i64.wrap (k * nw) + by_)) then 0 else at')],  ABlk.cells { sto := Sto.fn d, n := nd, elem := 28, esz := 2, ro := true }]))
                          )
                          )
                        )
                      )
                    )
                  )
                )
              )
              (splitB (ieq (kd.tmod 4) 1)
                (splitB (bFires q m now fr to pk nw)
                  (splitB (!bFires q m now fr to pk nw == bFires q' m' now' fr' to' pk' (IntKind.i64.wrap (IntKind.i64.wrap (k * nw) + by_)))
                    (KF (AV.bool false) ([]))
                    (splitB (!(ieq (IntKind.i64.wrap (IntKind.i64.wrap (k * bif bFires q m now fr to pk nw then fr else 0) + by_))
      (bif bFires q' m' now' fr' to' pk' (IntKind.i64.wrap (IntKind.i64.wrap (k * nw) + by_)) then fr' else 0) &&
    (ieq (IntKind.i64.wrap (IntKind.i64.wrap (k * bif bFires q m now fr to pk nw then to else 0) + by_))
        (bif bFires q' m' now' fr' to' pk' (IntKind.i64.wrap (IntKind.i64.wrap (k * nw) + by_)) then to' else 0) &&
      (ieq (bif bFires q m now fr to pk nw then pk else 0)
          (bif bFires q' m' now' fr' to' pk' (IntKind.i64.wrap (IntKind.i64.wrap (k * nw) + by_)) then pk' else 0) &&
        (ieq (IntKind.i64.wrap (IntKind.i64.wrap (k * bif bFires q m now fr to pk nw then bEnd q m fr to else 0) + by_))
            (bif bFires q' m' now' fr' to' pk' (IntKind.i64.wrap (IntKind.i64.wrap (k * nw) + by_)) then
              bEnd q' m' fr' to'
            else 0) &&
          true)))))
                      (KF (AV.bool false) ([]))
                      (splitB (!(!ieq (IntKind.i64.wrap ((bif bFires q m now fr to pk nw then 0 else pk) + 1)) 0) ==
    !ieq
        (IntKind.i64.wrap
          ((bif bFires q' m' now' fr' to' pk' (IntKind.i64.wrap (IntKind.i64.wrap (k * nw) + by_)) then 0 else pk') +
            1))
        0)
                        (KF (AV.bool false) ([]))
                        (splitB (!ieq (IntKind.i64.wrap ((bif bFires q m now fr to pk nw then 0 else pk) + 1)) 0)
                          (splitB (!ieq
    (IntKind.i64.wrap
      (IntKind.i64.wrap
          (k *
            bif ieq (IntKind.i64.wrap ((bif bFires q m now fr to pk nw then 0 else pk) + 1)) 0 then 0
            else bEnd q m (bif bFires q m now fr to pk nw || ieq pk 0 then bNow now nw else fr) (bNow now nw)) +
        by_))
    (bif
        ieq
          (IntKind.i64.wrap
            ((bif bFires q' m' now' fr' to' pk' (IntKind.i64.wrap (IntKind.i64.wrap (k * nw) + by_)) then 0 else pk') +
              1))
          0 then
      0
    else
      bEnd q' m'
        (bif bFires q' m' now' fr' to' pk' (IntKind.i64.wrap (IntKind.i64.wrap (k * nw) + by_)) || ieq pk' 0 then
          bNow now' (IntKind.i64.wrap (IntKind.i64.wrap (k * nw) + by_))
        else fr')
        (bNow now' (IntKind.i64.wrap (IntKind.i64.wrap (k * nw) + by_)))))
                            (KF (AV.bool false) ([]))
                            (splitB (!ieq (IntKind.i64.wrap ((bif bFires q m now fr to pk nw then 0 else pk) + 1))
    (IntKind.i64.wrap
      ((bif bFires q' m' now' fr' to' pk' (IntKind.i64.wrap (IntKind.i64.wrap (k * nw) + by_)) then 0 else pk') + 1)))
                              (KF (AV.bool false) ([]))
                              (And (∀ (j : Nat), j < 32 → (listFn tabV j).closed = true)
                              (And (∀ (j : Nat), j < nd → (d j).closed = true)
                              (KN ([AV.int IntKind.i64 k, AV.int IntKind.i64 by_, AV.ptr 1 0, AV.ptr 2 0, AV.sl 3 0 len cap true, AV.int IntKind.i64 (len : Int),  AV.int IntKind.i64 (IntKind.i64.wrap (i + 1))]) ([ABlk.cells { sto := Sto.fn (listFn tabV), n := 32, elem := 0, esz := 32, ro := true },  obj 137 7   [AV.int IntKind.i64 q, AV.int IntKind.i64 m, AV.int IntKind.i64 (bNow now nw),    AV.int IntKind.i64 (bif bFires q m now fr to pk nw || ieq pk 0 then bNow now nw else fr),    AV.int IntKind.i64 (bNow now nw),    AV.int IntKind.i64 (IntKind.i64.wrap ((bif bFires q m now fr to pk nw then 0 else pk) + 1)),    AV.int IntKind.i64 (bif bFires q m now fr to pk nw then 0 else at_)],  obj 137 7   [AV.int IntKind.i64 q', AV.int IntKind.i64 m',    AV.int IntKind.i64 (bNow now' (IntKind.i64.wrap (IntKind.i64.wrap (k * nw) + by_))),    AV.int IntKind.i64     (bif bFires q' m' now' fr' to' pk' (IntKind.i64.wrap (IntKind.i64.wrap (k * nw) + by_)) || ieq pk' 0 then      bNow now' (IntKind.i64.wrap (IntKind.i64.wrap (k * nw) + by_))     else fr'),    AV.int IntKind.i64 (bNow now' (IntKind.i64.wrap (IntKind.i64.wrap (k * nw) + by_))),    AV.int IntKind.i64     (IntKind.i64.wrap      ((bif bFires q' m' now' fr' to' pk' (IntKind.i64.wrap (IntKind.i64.wrap (k * nw) + by_)) then 0 else pk') +       1)),    AV.int IntKind.i64     (bif bFires q' m' now' fr' to' pk' (IntKind.i64.wrap (IntKind.i64.wrap (k * nw) + by_)) then 0 else at')],  ABlk.cells { sto := Sto.fn d, n := nd, elem := 28, esz := 2, ro := true }]))
                              )
                              )
                            )
                          )
                          (splitB (!ieq (IntKind.i64.wrap ((bif bFires q m now fr to pk nw then 0 else pk) + 1))
    (IntKind.i64.wrap
      ((bif bFires q' m' now' fr' to' pk' (IntKind.i64.wrap (IntKind.i64.wrap (k * nw) + by_)) then 0 else pk') + 1)))
                            (KF (AV.bool false) ([]))
                            (And (∀ (j : Nat), j < 32 → (listFn tabV j).closed = true)
                            (And (∀ (j : Nat), j < nd → (d j).closed = true)
                            (KN ([AV.int IntKind.i64 k, AV.int IntKind.i64 by_, AV.ptr 1 0, AV.ptr 2 0, AV.sl 3 0 len cap true, AV.int IntKind.i64 (len : Int),  AV.int IntKind.i64 (IntKind.i64.wrap (i + 1))]) ([ABlk.cells { sto := Sto.fn (listFn tabV), n := 32, elem := 0, esz := 32, ro := true },  obj 137 7   [AV.int IntKind.i64 q, AV.int IntKind.i64 m, AV.int IntKind.i64 (bNow now nw),    AV.int IntKind.i64 (bif bFires q m now fr to pk nw || ieq pk 0 then bNow now nw else fr),    AV.int IntKind.i64 (bNow now nw),    AV.int IntKind.i64 (IntKind.i64.wrap ((bif bFires q m now fr to pk nw then 0 else pk) + 1)),    AV.int IntKind.i64 (bif bFires q m now fr to pk nw then 0 else at_)],  obj 137 7   [AV.int IntKind.i64 q', AV.int IntKind.i64 m',    AV.int IntKind.i64 (bNow now' (IntKind.i64.wrap (IntKind.i64.wrap (k * nw) + by_))),    AV.int IntKind.i64     (bif bFires q' m' now' fr' to' pk' (IntKind.i64.wrap (IntKind.i64.wrap (k * nw) + by_)) || ieq pk' 0 then      bNow now' (IntKind.i64.wrap (IntKind.i64.wrap (k * nw) + by_))     else fr'),    AV.int IntKind.i64 (bNow now' (IntKind.i64.wrap (IntKind.i64.wrap (k * nw) + by_))),    AV.int IntKind.i64     (IntKind.i64.wrap      ((bif bFires q' m' now' fr' to' pk' (IntKind.i64.wrap (IntKind.i64.wrap (k * nw) + by_)) then 0 else pk') +       1)),    AV.int IntKind.i64     (bif bFires q' m' now' fr' to' pk' (IntKind.i64.wrap (IntKind.i64.wrap (k * nw) + by_)) then 0 else at')],  ABlk.cells { sto := Sto.fn d, n := nd, elem := 28, esz := 2, ro := true }]))
                            )
                            )
                          )
                        )
                      )
                    )
                  )
                  (splitB (!bFires q m now fr to pk nw == bFires q' m' now' fr' to' pk' (IntKind.i64.wrap (IntKind.i64.wrap (k * nw) + by_)))
                    (KF (AV.bool false) ([]))
                    (splitB (!(ieq (bif bFires q m now fr to pk nw then fr else 0)
      (bif bFires q' m' now' fr' to' pk' (IntKind.i64.wrap (IntKind.i64.wrap (k * nw) + by_)) then fr' else 0) &&
    (ieq (bif bFires q m now fr to pk nw then to else 0)
        (bif bFires q' m' now' fr' to' pk' (IntKind.i64.wrap (IntKind.i64.wrap (k * nw) + by_)) then to' else 0) &&
      (ieq (bif bFires q m now fr to pk nw then pk else 0)
          (bif bFires q' m' now' fr' to' pk' (IntKind.i64.wrap (IntKind.i64.wrap (k * nw) + by_)) then pk' else 0) &&
        (ieq (bif bFires q m now fr to pk nw then bEnd q m fr to else 0)
            (bif bFires q' m' now' fr' to' pk' (IntKind.i64.wrap (IntKind.i64.wrap (k * nw) + by_)) then
              bEnd q' m' fr' to'
            else 0) &&
          true)))))
                      (KF (AV.bool false) ([]))
                      (splitB (!(!ieq (IntKind.i64.wrap ((bif bFires q m now fr to pk nw then 0 else pk) + 1)) 0) ==
    !ieq
        (IntKind.i64.wrap
          ((bif bFires q' m' now' fr' to' pk' (IntKind.i64.wrap (IntKind.i64.wrap (k * nw) + by_)) then 0 else pk') +
            1))
        0)
                        (KF (AV.bool false) ([]))
                        (splitB (!ieq (IntKind.i64.wrap ((bif bFires q m now fr to pk nw then 0 else pk) + 1)) 0)
                          (splitB (!ieq
    (IntKind.i64.wrap
      (IntKind.i64.wrap
          (k *
            bif ieq (IntKind.i64.wrap ((bif bFires q m now fr to pk nw then 0 else pk) + 1)) 0 then 0
            else bEnd q m (bif bFires q m now fr to pk nw || ieq pk 0 then bNow now nw else fr) (bNow now nw)) +
        by_))
    (bif
        ieq
          (IntKind.i64.wrap
            ((bif bFires q' m' now' fr' to' pk' (IntKind.i64.wrap (IntKind.i64.wrap (k * nw) + by_)) then 0 else pk') +
              1))
          0 then
      0
    else
      bEnd q' m'
        (bif bFires q' m' now' fr' to' pk' (IntKind.i64.wrap (IntKind.i64.wrap (k * nw) + by_)) || ieq pk' 0 then
          bNow now' (IntKind.i64.wrap (IntKind.i64.wrap (k * nw) + by_))
        else fr')
        (bNow now' (IntKind.i64.wrap (IntKind.i64.wrap (k * nw) + by_)))))
                            (KF (AV.bool false) ([]))
                            (splitB (!ieq (IntKind.i64.wrap ((bif bFires q m now fr to pk nw then 0 else pk) + 1))
    (IntKind.i64.wrap
      ((bif bFires q' m' now' fr' to' pk' (IntKind.i64.wrap (IntKind.i64.wrap (k * nw) + by_)) then 0 else pk') + 1)))
                              (KF (AV.bool false) ([]))
                              (And (∀ (j : Nat), j < 32 → (listFn tabV j).closed = true)
                              (And (∀ (j : Nat), j < nd → (d j).closed = true)
                              (KN ([AV.int IntKind.i64 k, AV.int IntKind.i64 by_, AV.ptr 1 0, AV.ptr 2 0, AV.sl 3 0 len cap true, AV.int IntKind.i64 (len : Int),  AV.int IntKind.i64 (IntKind.i64.wrap (i + 1))]) ([ABlk.cells { sto := Sto.fn (listFn tabV), n := 32, elem := 0, esz := 32, ro := true },  obj 137 7   [AV.int IntKind.i64 q, AV.int IntKind.i64 m, AV.int IntKind.i64 (bNow now nw),    AV.int IntKind.i64 (bif bFires q m now fr to pk nw || ieq pk 0 then bNow now nw else fr),    AV.int IntKind.i64 (bNow now nw),    AV.int IntKind.i64 (IntKind.i64.wrap ((bif bFires q m now fr to pk nw then 0 else pk) + 1)),    AV.int IntKind.i64 (bif bFires q m now fr to pk nw then 0 else at_)],  obj 137 7   [AV.int IntKind.i64 q', AV.int IntKind.i64 m',    AV.int IntKind.i64 (bNow now' (IntKind.i64.wrap (IntKind.i64.wrap (k * nw) + by_))),    AV.int IntKind.i64     (bif bFires q' m' now' fr' to' pk' (IntKind.i64.wrap (IntKind.i64.wrap (k * nw) + by_)) || ieq pk' 0 then      bNow now' (IntKind.i64.wrap (IntKind.i64.wrap (k * nw) + by_))     else fr'),    AV.int IntKind.i64 (bNow now' (IntKind.i64.wrap (IntKind.i64.wrap (k * nw) + by_))),    AV.int IntKind.i64     (IntKind.i64.wrap      ((bif bFires q' m' now' fr' to' pk' (IntKind.i64.wrap (IntKind.i64.wrap (k * nw) + by_)) then 0 else pk') +       1)),    AV.int IntKind.i64     (bif bFires q' m' now' fr' to' pk' (IntKind.i64.wrap (IntKind.i64.wrap (k * nw) + by_)) then 0 else at')],  ABlk.cells { sto := Sto.fn d, n := nd, elem := 28, esz := 2, ro := true }]))
                              )
                              )
                            )
                          )
                          (splitB (!ieq (IntKind.i64.wrap ((bif bFires q m now fr to pk nw then 0 else pk) + 1))
    (IntKind.i64.wrap
      ((bif bFires q' m' now' fr' to' pk' (IntKind.i64.wrap (IntKind.i64.wrap (k * nw) + by_)) then 0 else pk') + 1)))
                            (KF (AV.bool false) ([]))
                            (And (∀ (j : Nat), j < 32 → (listFn tabV j).closed = true)
                            (And (∀ (j : Nat), j < nd → (d j).closed = true)
                            (KN ([AV.int IntKind.i64 k, AV.int IntKind.i64 by_, AV.ptr 1 0, AV.ptr 2 0, AV.sl 3 0 len cap true, AV.int IntKind.i64 (len : Int),  AV.int IntKind.i64 (IntKind.i64.wrap (i + 1))]) ([ABlk.cells { sto := Sto.fn (listFn tabV), n := 32, elem := 0, esz := 32, ro := true },  obj 137 7   [AV.int IntKind.i64 q, AV.int IntKind.i64 m, AV.int IntKind.i64 (bNow now nw),    AV.int IntKind.i64 (bif bFires q m now fr to pk nw || ieq pk 0 then bNow now nw else fr),    AV.int IntKind.i64 (bNow now nw),    AV.int IntKind.i64 (IntKind.i64.wrap ((bif bFires q m now fr to pk nw then 0 else pk) + 1)),    AV.int IntKind.i64 (bif bFires q m now fr to pk nw then 0 else at_)],  obj 137 7   [AV.int IntKind.i64 q', AV.int IntKind.i64 m',    AV.int IntKind.i64 (bNow now' (IntKind.i64.wrap (IntKind.i64.wrap (k * nw) + by_))),    AV.int IntKind.i64     (bif bFires q' m' now' fr' to' pk' (IntKind.i64.wrap (IntKind.i64.wrap (k * nw) + by_)) || ieq pk' 0 then      bNow now' (IntKind.i64.wrap (IntKind.i64.wrap (k * nw) + by_))     else fr'),    AV.int IntKind.i64 (bNow now' (IntKind.i64.wrap (IntKind.i64.wrap (k * nw) + by_))),    AV.int IntKind.i64     (IntKind.i64.wrap      ((bif bFires q' m' now' fr' to' pk' (IntKind.i64.wrap (IntKind.i64.wrap (k * nw) + by_)) then 0 else pk') +       1)),    AV.int IntKind.i64     (bif bFires q' m' now' fr' to' pk' (IntKind.i64.wrap (IntKind.i64.wrap (k * nw) + by_)) then 0 else at')],  ABlk.cells { sto := Sto.fn d, n := nd, elem := 28, esz := 2, ro := true }]))
                            )
                            )
                          )
                        )
                      )
                    )
                  )
                )
                (splitB (ieq (kd.tmod 4) 2)
                  (splitB (bFires q m now fr to pk nw)
                    (splitB (!bFires q m now fr to pk nw == bFires q' m' now' fr' to' pk' (IntKind.i64.wrap (IntKind.i64.wrap (k * nw) + by_)))
                      (KF (AV.bool false) ([]))
                      (splitB (!(ieq (IntKind.i64.wrap (IntKind.i64.wrap (k * bif bFires q m now fr to pk nw then fr else 0) + by_))
      (bif bFires q' m' now' fr' to' pk' (IntKind.i64.wrap (IntKind.i64.wrap (k * nw) + by_)) then fr' else 0) &&
    (ieq (IntKind.i64.wrap (IntKind.i64.wrap (k * bif bFires q m now fr to pk nw then to else 0) + by_))
        (bif bFires q' m' now' fr' to' pk' (IntKind.i64.wrap (IntKind.i64.wrap (k * nw) + by_)) then to' else 0) &&
      (ieq (bif bFires q m now fr to pk nw then pk else 0)
          (bif bFires q' m' now' fr' to' pk' (IntKind.i64.wrap (IntKind.i64.wrap (k * nw) + by_)) then pk' else 0) &&
        (ieq (IntKind.i64.wrap (IntKind.i64.wrap (k * bif bFires q m now fr to pk nw then bEnd q m fr to else 0) + by_))
            (bif bFires q' m' now' fr' to' pk' (IntKind.i64.wrap (IntKind.i64.wrap (k * nw) + by_)) then
              bEnd q' m' fr' to'
            else 0) &&
          true)))))
                        (KF (AV.bool false) ([]))
                        (splitB (!(!ieq (bif bFires q m now fr to pk nw then 0 else pk) 0) ==
    !ieq (bif bFires q' m' now' fr' to' pk' (IntKind.i64.wrap (IntKind.i64.wrap (k * nw) + by_)) then 0 else pk') 0)
                          (KF (AV.bool false) ([]))
                          (splitB (!ieq (bif bFires q m now fr to pk nw then 0 else pk) 0)
                            (splitB (!ieq
    (IntKind.i64.wrap
      (IntKind.i64.wrap
          (k *
            bif ieq (bif bFires q m now fr to pk nw then 0 else pk) 0 then 0
            else
              bEnd q m (bif bFires q m now fr to pk nw then 0 else fr)
                (bif bFires q m now fr to pk nw then 0 else to)) +
        by_))
    (bif
        ieq (bif bFires q' m' now' fr' to' pk' (IntKind.i64.wrap (IntKind.i64.wrap (k * nw) + by_)) then 0 else pk')
          0 then
      0
    else
      bEnd q' m'
        (bif bFires q' m' now' fr' to' pk' (IntKind.i64.wrap (IntKind.i64.wrap (k * nw) + by_)) then 0 else fr')
        (bif bFires q' m' now' fr' to' pk' (IntKind.i64.wrap (IntKind.i64.wrap (k * nw) + by_)) then 0 else to')))
                              (KF (AV.bool false) ([]))
                              (splitB (!ieq (bif bFires q m now fr to pk nw then 0 else pk)
    (bif bFires q' m' now' fr' to' pk' (IntKind.i64.wrap (IntKind.i64.wrap (k * nw) + by_)) then 0 else pk'))
                                (KF (AV.bool false) ([]))
                                (And (∀ (j : Nat), j < 32 → (listFn tabV j).closed = true)
                                (And (∀ (j : Nat), j < nd → (d j).closed = true)
                                (KN ([AV.int IntKind.i64 k, AV.int IntKind.i64 by_, AV.ptr 1 0, AV.ptr 2 0, AV.sl 3 0 len cap true, AV.int IntKind.i64 (len : Int),  AV.int IntKind.i64 (IntKind.i64.wrap (i + 1))]) ([ABlk.cells { sto := Sto.fn (listFn tabV), n := 32, elem := 0, esz := 32, ro := true },  obj 137 7   [AV.int IntKind.i64 q, AV.int IntKind.i64 m, AV.int IntKind.i64 (bNow now nw),    AV.int IntKind.i64 (bif bFires q m now fr to pk nw then 0 else fr),    AV.int IntKind.i64 (bif bFires q m now fr to pk nw then 0 else to),    AV.int IntKind.i64 (bif bFires q m now fr to pk nw then 0 else pk),    AV.int IntKind.i64 (bif bFires q m now fr to pk nw then 0 else at_)],  obj 137 7   [AV.int IntKind.i64 q', AV.int IntKind.i64 m',    AV.int IntKind.i64 (bNow now' (IntKind.i64.wrap (IntKind.i64.wrap (k * nw) + by_))),    AV.int IntKind.i64     (bif bFires q' m' now' fr' to' pk' (IntKind.i64.wrap (IntKind.i64.wrap (k * nw) + by_)) then 0 else fr'),    AV.int IntKind.i64     (bif bFires q' m' now' fr' to' pk' (IntKind.i64.wrap (IntKind.i64.wrap (k * nw) + by_)) then 0 else to'),    AV.int IntKind.i64     (bif bFires q' m' now' fr' to' pk' (IntKind.i64.wrap (IntKind.i64.wrap (k * nw) + by_)) then 0 else pk'),    AV.int IntKind.i64     (bif bFires q' m' now' fr' to' pk' (IntKind.i64.wrap (IntKind.i64.wrap (k * nw) + by_)) then 0 else at')],  ABlk.cells { sto := Sto.fn d, n := nd, elem := 28, esz := 2, ro := true }]))
                                )
                                )
                              )
                            )
                            (splitB (!ieq (bif bFires q m now fr to pk nw then 0 else pk)
    (bif bFires q' m' now' fr' to' pk' (IntKind.i64.wrap (IntKind.i64.wrap (k * nw) + by_)) then 0 else pk'))
                              (KF (AV.bool false) ([]))
                              (And (∀ (j : Nat), j < 32 → (listFn tabV j).closed = true)
                              (And (∀ (j : Nat), j < nd → (d j).closed = true)
                              (KN ([AV.int IntKind.i64 k, AV.int IntKind.i64 by_, AV.ptr 1 0, AV.ptr 2 0, AV.sl 3 0 len cap true, AV.int IntKind.i64 (len : Int),  AV.int IntKind.i64 (IntKind.i64.wrap (i + 1))]) ([ABlk.cells { sto := Sto.fn (listFn tabV), n := 32, elem := 0, esz := 32, ro := true },  obj 137 7   [AV.int IntKind.i64 q, AV.int IntKind.i64 m, AV.int IntKind.i64 (bNow now nw),    AV.int IntKind.i64 (bif bFires q m now fr to pk nw then 0 else fr),    AV.int IntKind.i64 (bif bFires q m now fr to pk nw then 0 else to),    AV.int IntKind.i64 (bif bFires q m now fr to pk nw then 0 else pk),    AV.int IntKind.i64 (bif bFires q m now fr to pk nw then 0 else at_)],  obj 137 7   [AV.int IntKind.i64 q', AV.int IntKind.i64 m',    AV.int IntKind.i64 (bNow now' (IntKind.i64.wrap (IntKind.i64.wrap (k * nw) + by_))),    AV.int IntKind.i64     (bif bFires q' m' now' fr' to' pk' (IntKind.i64.wrap (IntKind.i64.wrap (k * nw) + by_)) then 0 else fr'),    AV.int IntKind.i64     (bif bFires q' m' now' fr' to' pk' (IntKind.i64.wrap (IntKind.i64.wrap (k * nw) + by_)) then 0 else to'),    AV.int IntKind.i64     (bif bFires q' m' now' fr' to' pk' (IntKind.i64.wrap (IntKind.i64.wrap (k * nw) + by_)) then 0 else pk'),    AV.int IntKind.i64     (bif bFires q' m' now' fr' to' pk' (IntKind.i64.wrap (IntKind.i64.wrap (k * nw) + by_)) then 0 else at')],  ABlk.cells { sto := Sto.fn d, n := nd, elem := 28, esz := 2, ro := true }]))
                              )
                              )
                            )
                          )
                        )
                      )
                    )
                    (splitB (!bFires q m now fr to pk nw == bFires q' m' now' fr' to' pk' (IntKind.i64.wrap (IntKind.i64.wrap (k * nw) + by_)))
                      (KF (AV.bool false) ([]))
                      (splitB (!(ieq (bif bFires q m now fr to pk nw then fr else 0)
      (bif bFires q' m' now' fr' to' pk' (IntKind.i64.wrap (IntKind.i64.wrap (k * nw) + by_)) then fr' else 0) &&
    (ieq (bif bFires q m now fr to pk nw then to else 0)
        (bif bFires q' m' now' fr' to' pk' (IntKind.i64.wrap (IntKind.i64.wrap (k * nw) + by_)) then to' else 0) &&
      (ieq (bif bFires q m now fr to pk nw then pk else 0)
          (bif bFires q' m' now' fr' to' pk' (IntKind.i64.wrap (IntKind.i64.wrap (k * nw) + by_)) then pk' else 0) &&
        (ieq (bif bFires q m now fr to pk nw then bEnd q m fr to else 0)
            (bif bFires q' m' now' fr' to' pk' (IntKind.i64.wrap (IntKind.i64.wrap (k * nw) + by_)) then
              bEnd q' m' fr' to'
            else 0) &&
          true)))))
                        (KF (AV.bool false) ([]))
                        (splitB (!(!ieq (bif bFires q m now fr to pk nw then 0 else pk) 0) ==
    !ieq (bif bFires q' m' now' fr' to' pk' (IntKind.i64.wrap (IntKind.i64.wrap (k * nw) + by_)) then 0 else pk') 0)
                          (KF (AV.bool false) ([]))
                          (splitB (!ieq (bif bFires q m now fr to pk nw then 0 else pk) 0)
                            (splitB (!ieq
    (IntKind.i64.wrap
      (IntKind.i64.wrap
          (k *
            bif ieq (bif bFires q m now fr to pk nw then 0 else pk) 0 then 0
            else
              bEnd q m (bif bFires q m now fr to pk nw then 0 else fr)
                (bif bFires q m now fr to pk nw then 0 else to)) +
        by_))
    (bif
        ieq (bif bFires q' m' now' fr' to' pk' (IntKind.i64.wrap (IntKind.i64.wrap (k * nw) + by_)) then 0 else pk')
          0 then
      0
    else
      bEnd q' m'
        (bif bFires q' m' now' fr' to' pk' (IntKind.i64.wrap (IntKind.i64.wrap (k * nw) + by_)) then 0 else fr')
        (bif bFires q' m' now' fr' to' pk' (IntKind.i64.wrap (IntKind.i64.wrap (k * nw) + by_)) then 0 else to')))
                              (KF (AV.bool false) ([]))
                              (splitB (!ieq (bif bFires q m now fr to pk nw then 0 else pk)
    (bif bFires q' m' now' fr' to' pk' (IntKind.i64.wrap (IntKind.i64.wrap (k * nw) + by_)) then 0 else pk'))
                                (KF (AV.bool false) ([]))
                                (And (∀ (j : Nat), j < 32 → (listFn tabV j).closed = true)
                                (And (∀ (j : Nat), j < nd → (d j).closed = true)
                                (KN ([AV.int IntKind.i64 k, AV.int IntKind.i64 by_, AV.ptr 1 0, AV.ptr 2 0, AV.sl 3 0 len cap true, AV.int IntKind.i64 (len : Int),  AV.int IntKind.i64 (IntKind.i64.wrap (i + 1))]) ([ABlk.cells { sto := Sto.fn (listFn tabV), n := 32, elem := 0, esz := 32, ro := true },  obj 137 7   [AV.int IntKind.i64 q, AV.int IntKind.i64 m, AV.int IntKind.i64 (bNow now nw),    AV.int IntKind.i64 (bif bFires q m now fr to pk nw then 0 else fr),    AV.int IntKind.i64 (bif bFires q m now fr to pk nw then 0 else to),    AV.int IntKind.i64 (bif bFires q m now fr to pk nw then 0 else pk),    AV.int IntKind.i64 (bif bFires q m now fr to pk nw then 0 else at_)],  obj 137 7   [AV.int IntKind.i64 q', AV.int IntKind.i64 m',    AV.int IntKind.i64 (bNow now' (IntKind.i64.wrap (IntKind.i64.wrap (k * nw) + by_))),    AV.int IntKind.i64     (bif bFires q' m' now' fr' to' pk' (IntKind.i64.wrap (IntKind.i64.wrap (k * nw) + by_)) then 0 else fr'),    AV.int IntKind.i64     (bif bFires q' m' now' fr' to' pk' (IntKind.i64.wrap (IntKind.i64.wrap (k * nw) + by_)) then 0 else to'),    AV.int IntKind.i64     (bif bFires q' m' now' fr' to' pk' (IntKind.i64.wrap (IntKind.i64.wrap (k * nw) + by_)) then 0 else pk'),    AV.int IntKind.i64     (bif bFires q' m' now' fr' to' pk' (IntKind.i64.wrap (IntKind.i64.wrap (k * nw) + by_)) then 0 else at')],  ABlk.cells { sto := Sto.fn d, n := nd, elem := 28, esz := 2, ro := true }]))
                                )
                                )
                              )
                            )
                            (splitB (!ieq (bif bFires q m now fr to pk nw then 0 else pk)
    (bif bFires q' m' now' fr' to' pk' (IntKind.i64.wrap (IntKind.i64.wrap (k * nw) + by_)) then 0 else pk'))
                              (KF (AV.bool false) ([]))
                              (And (∀ (j : Nat), j < 32 → (listFn tabV j).closed = true)
                              (And (∀ (j : Nat), j < nd → (d j).closed = true)
                              (KN ([AV.int IntKind.i64 k, AV.int IntKind.i64 by_, AV.ptr 1 0, AV.ptr 2 0, AV.sl 3 0 len cap true, AV.int IntKind.i64 (len : Int),  AV.int IntKind.i64 (IntKind.i64.wrap (i + 1))]) ([ABlk.cells { sto := Sto.fn (listFn tabV), n := 32, elem := 0, esz := 32, ro := true },  obj 137 7   [AV.int IntKind.i64 q, AV.int IntKind.i64 m, AV.int IntKind.i64 (bNow now nw),    AV.int IntKind.i64 (bif bFires q m now fr to pk nw then 0 else fr),    AV.int IntKind.i64 (bif bFires q m now fr to pk nw then 0 else to),    AV.int IntKind.i64 (bif bFires q m now fr to pk nw then 0 else pk),    AV.int IntKind.i64 (bif bFires q m now fr to pk nw then 0 else at_)],  obj 137 7   [AV.int IntKind.i64 q', AV.int IntKind.i64 m',    AV.int IntKind.i64 (bNow now' (IntKind.i64.wrap (IntKind.i64.wrap (k * nw) + by_))),    AV.int IntKind.i64     (bif bFires q' m' now' fr' to' pk' (IntKind.i64.wrap (IntKind.i64.wrap (k * nw) + by_)) then 0 else fr'),    AV.int IntKind.i64     (bif bFires q' m' now' fr' to' pk' (IntKind.i64.wrap (IntKind.i64.wrap (k * nw) + by_)) then 0 else to'),    AV.int IntKind.i64     (bif bFires q' m' now' fr' to' pk' (IntKind.i64.wrap (IntKind.i64.wrap (k * nw) + by_)) then 0 else pk'),    AV.int IntKind.i64     (bif bFires q' m' now' fr' to' pk' (IntKind.i64.wrap (IntKind.i64.wrap (k * nw) + by_)) then 0 else at')],  ABlk.cells { sto := Sto.fn d, n := nd, elem := 28, esz := 2, ro := true }]))
                              )
                              )
                            )
                          )
                        )
                      )
                    )
                  )
                  (splitB (!ieq pk 0)
                    (splitB (!(!ieq pk 0) == !ieq pk' 0)
                      (KF (AV.bool false) ([]))
                      (splitB (!(ieq (IntKind.i64.wrap (IntKind.i64.wrap (k * bif ieq pk 0 then 0 else fr) + by_)) (bif ieq pk' 0 then 0 else fr') &&
    (ieq (IntKind.i64.wrap (IntKind.i64.wrap (k * bif ieq pk 0 then 0 else to) + by_))
        (bif ieq pk' 0 then 0 else to') &&
      (ieq (bif ieq pk 0 then 0 else pk) (bif ieq pk' 0 then 0 else pk') &&
        (ieq (IntKind.i64.wrap (IntKind.i64.wrap (k * bif ieq pk 0 then 0 else now) + by_))
            (bif ieq pk' 0 then 0 else now') &&
          true)))))
                        (KF (AV.bool false) ([]))
                        (splitB (!(!ieq (bif ieq pk 0 then pk else 0) 0) == !ieq (bif ieq pk' 0 then pk' else 0) 0)
                          (KF (AV.bool false) ([]))
                          (splitB (!ieq (bif ieq pk 0 then pk else 0) 0)
                            (splitB (!ieq
    (IntKind.i64.wrap
      (IntKind.i64.wrap
          (k *
            bif ieq (bif ieq pk 0 then pk else 0) 0 then 0
            else bEnd q m (bif ieq pk 0 then fr else 0) (bif ieq pk 0 then to else 0)) +
        by_))
    (bif ieq (bif ieq pk' 0 then pk' else 0) 0 then 0
    else bEnd q' m' (bif ieq pk' 0 then fr' else 0) (bif ieq pk' 0 then to' else 0)))
                              (KF (AV.bool false) ([]))
                              (splitB (!ieq (bif ieq pk 0 then pk else 0) (bif ieq pk' 0 then pk' else 0))
                                (KF (AV.bool false) ([]))
                                (And (∀ (j : Nat), j < 32 → (listFn tabV j).closed = true)
                                (And (∀ (j : Nat), j < nd → (d j).closed = true)
                                (KN ([AV.int IntKind.i64 k, AV.int IntKind.i64 by_, AV.ptr 1 0, AV.ptr 2 0, AV.sl 3 0 len cap true, AV.int IntKind.i64 (len : Int),  AV.int IntKind.i64 (IntKind.i64.wrap (i + 1))]) ([ABlk.cells { sto := Sto.fn (listFn tabV), n := 32, elem := 0, esz := 32, ro := true },  obj 137 7   [AV.int IntKind.i64 q, AV.int IntKind.i64 m, AV.int IntKind.i64 now,    AV.int IntKind.i64 (bif ieq pk 0 then fr else 0), AV.int IntKind.i64 (bif ieq pk 0 then to else 0),    AV.int IntKind.i64 (bif ieq pk 0 then pk else 0), AV.int IntKind.i64 (bif ieq pk 0 then at_ else 0)],  obj 137 7   [AV.int IntKind.i64 q', AV.int IntKind.i64 m', AV.int IntKind.i64 now',    AV.int IntKind.i64 (bif ieq pk' 0 then fr' else 0), AV.int IntKind.i64 (bif ieq pk' 0 then to' else 0),    AV.int IntKind.i64 (bif ieq pk' 0 then pk' else 0), AV.int IntKind.i64 (bif ieq pk' 0 then at' else 0)],  ABlk.cells { sto := Sto.fn d, n := nd, elem := 28, esz := 2, ro := true }]))
                                )
                                )
                              )
                            )
                            (splitB (!ieq (bif ieq pk 0 then pk else 0) (bif ieq pk' 0 then pk' else 0))
                              (KF (AV.bool false) ([]))
                              (And (∀ (j : Nat), j < 32 → (listFn tabV j).closed = true)
                              (And (∀ (j : Nat), j < nd → (d j).closed = true)
                              (KN ([AV.int IntKind.i64 k, AV.int IntKind.i64 by_, AV.ptr 1 0, AV.ptr 2 0, AV.sl 3 0 len cap true, AV.int IntKind.i64 (len : Int),  AV.int IntKind.i64 (IntKind.i64.wrap (i + 1))]) ([ABlk.cells { sto := Sto.fn (listFn tabV), n := 32, elem := 0, esz := 32, ro := true },  obj 137 7   [AV.int IntKind.i64 q, AV.int IntKind.i64 m, AV.int IntKind.i64 now,    AV.int IntKind.i64 (bif ieq pk 0 then fr else 0), AV.int IntKind.i64 (bif ieq pk 0 then to else 0),    AV.int IntKind.i64 (bif ieq pk 0 then pk else 0), AV.int IntKind.i64 (bif ieq pk 0 then at_ else 0)],  obj 137 7   [AV.int IntKind.i64 q', AV.int IntKind.i64 m', AV.int IntKind.i64 now',    AV.int IntKind.i64 (bif ieq pk' 0 then fr' else 0), AV.int IntKind.i64 (bif ieq pk' 0 then to' else 0),    AV.int IntKind.i64 (bif ieq pk' 0 then pk' else 0), AV.int IntKind.i64 (bif ieq pk' 0 then at' else 0)],  ABlk.cells { sto := Sto.fn d, n := nd, elem := 28, esz := 2, ro := true }]))
                              )
                              )
                            )
                          )
                        )
                      )
                    )
                    (splitB (!(!ieq pk 0) == !ieq pk' 0)
                      (KF (AV.bool false) ([]))
                      (splitB (!(ieq (bif ieq pk 0 then 0 else fr) (bif ieq pk' 0 then 0 else fr') &&
    (ieq (bif ieq pk 0 then 0 else to) (bif ieq pk' 0 then 0 else to') &&
      (ieq (bif ieq pk 0 then 0 else pk) (bif ieq pk' 0 then 0 else pk') &&
        (ieq (bif ieq pk 0 then 0 else now) (bif ieq pk' 0 then 0 else now') && true)))))
                        (KF (AV.bool false) ([]))
                        (splitB (!(!ieq (bif ieq pk 0 then pk else 0) 0) == !ieq (bif ieq pk' 0 then pk' else 0) 0)
                          (KF (AV.bool false) ([]))
                          (splitB (!ieq (bif ieq pk 0 then pk else 0) 0)
                            (splitB (!ieq
    (IntKind.i64.wrap
      (IntKind.i64.wrap
          (k *
            bif ieq (bif ieq pk 0 then pk else 0) 0 then 0
            else bEnd q m (bif ieq pk 0 then fr else 0) (bif ieq pk 0 then to else 0)) +
        by_))
    (bif ieq (bif ieq pk' 0 then pk' else 0) 0 then 0
    else bEnd q' m' (bif ieq pk' 0 then fr' else 0) (bif ieq pk' 0 then to' else 0)))
                              (KF (AV.bool false) ([]))
                              (splitB (!ieq (bif ieq pk 0 then pk else 0) (bif ieq pk' 0 then pk' else 0))
                                (KF (AV.bool false) ([]))
                                (And (∀ (j : Nat), j < 32 → (listFn tabV j).closed = true)
                                (And (∀ (j : Nat), j < nd → (d j).closed = true)
                                (KN ([AV.int IntKind.i64 k, AV.int IntKind.i64 by_, AV.ptr 1 0, AV.ptr 2 0, AV.sl 3 0 len cap true, AV.int IntKind.i64 (len : Int),  AV.int IntKind.i64 (IntKind.i64.wrap (i + 1))]) ([ABlk.cells { sto := Sto.fn (listFn tabV), n := 32, elem := 0, esz := 32, ro := true },  obj 137 7   [AV.int IntKind.i64 q, AV.int IntKind.i64 m, AV.int IntKind.i64 now,    AV.int IntKind.i64 (bif ieq pk 0 then fr else 0), AV.int IntKind.i64 (bif ieq pk 0 then to else 0),    AV.int IntKind.i64 (bif ieq pk 0 then pk else 0), AV.int IntKind.i64 (bif ieq pk 0 then at_ else 0)],  obj 137 7   [AV.int IntKind.i64 q', AV.int IntKind.i64 m', AV.int IntKind.i64 now',    AV.int IntKind.i64 (bif ieq pk' 0 then fr' else 0), AV.int IntKind.i64 (bif ieq pk' 0 then to' else 0),    AV.int IntKind.i64 (bif ieq pk' 0 then pk' else 0), AV.int IntKind.i64 (bif ieq pk' 0 then at' else 0)],  ABlk.cells { sto := Sto.fn d, n := nd, elem := 28, esz := 2, ro := true }]))
                                )
                                )
                              )
                            )
                            (splitB (!ieq (bif ieq pk 0 then pk else 0) (bif ieq pk' 0 then pk' else 0))
                              (KF (AV.bool false) ([]))
                              (And (∀ (j : Nat), j < 32 → (listFn tabV j).closed = true)
                              (And (∀ (j : Nat), j < nd → (d j).closed = true)
                              (KN ([AV.int IntKind.i64 k, AV.int IntKind.i64 by_, AV.ptr 1 0, AV.ptr 2 0, AV.sl 3 0 len cap true, AV.int IntKind.i64 (len : Int),  AV.int IntKind.i64 (IntKind.i64.wrap (i + 1))]) ([ABlk.cells { sto := Sto.fn (listFn tabV), n := 32, elem := 0, esz := 32, ro := true },  obj 137 7   [AV.int IntKind.i64 q, AV.int IntKind.i64 m, AV.int IntKind.i64 now,    AV.int IntKind.i64 (bif ieq pk 0 then fr else 0), AV.int IntKind.i64 (bif ieq pk 0 then to else 0),    AV.int IntKind.i64 (bif ieq pk 0 then pk else 0), AV.int IntKind.i64 (bif ieq pk 0 then at_ else 0)],  obj 137 7   [AV.int IntKind.i64 q', AV.int IntKind.i64 m', AV.int IntKind.i64 now',    AV.int IntKind.i64 (bif ieq pk' 0 then fr' else 0), AV.int IntKind.i64 (bif ieq pk' 0 then to' else 0),    AV.int IntKind.i64 (bif ieq pk' 0 then pk' else 0), AV.int IntKind.i64 (bif ieq pk' 0 then at' else 0)],  ABlk.cells { sto := Sto.fn d, n := nd, elem := 28, esz := 2, ro := true }]))
                              )
                              )
                            )
                          )
                        )
                      )
                    )
                  )
                )
              )
            )
          )
        )
        )
        False
      )
      False
    )
    (And (∀ (j : Nat), j < 32 → (listFn tabV j).closed = true)
    (And (∀ (j : Nat), j < nd → (d j).closed = true)
    (KE (0) ([AV.int IntKind.i64 k, AV.int IntKind.i64 by_, AV.ptr 1 0, AV.ptr 2 0, AV.sl 3 0 len cap true, AV.int IntKind.i64 (len : Int),  AV.int IntKind.i64 i]) ([ABlk.cells { sto := Sto.fn (listFn tabV), n := 32, elem := 0, esz := 32, ro := true },  obj 137 7   [AV.int IntKind.i64 q, AV.int IntKind.i64 m, AV.int IntKind.i64 now, AV.int IntKind.i64 fr, AV.int IntKind.i64 to,    AV.int IntKind.i64 pk, AV.int IntKind.i64 at_],  obj 137 7   [AV.int IntKind.i64 q', AV.int IntKind.i64 m', AV.int IntKind.i64 now', AV.int IntKind.i64 fr',    AV.int IntKind.i64 to', AV.int IntKind.i64 pk', AV.int IntKind.i64 at'],  ABlk.cells { sto := Sto.fn d, n := nd, elem := 28, esz := 2, ro := true }]))
    )
    )
  ) := by kernel_rfl

theorem end_tree (k by_ : Int) (len cap : Nat) (i : Int) (a b : List AV) (d : Nat → AV) (nd : Nat) (KF : AV → List ABlk → Prop) :
  wexecL Cl XC 60 (items1.drop 9) (stOf 200 ts1 (vals1 k by_ len cap i) (blks1 a b d nd)) (EndsF noOpq Tryz.prog rs1 0 KF) =
  (KF (AV.bool true) ([])) := by kernel_rfl

end Go.Abs
