/-
  Trees (printed by program). (Helper theorems; each says its own conditions.)
-/
import Derived.Test.YtghcfkgfccmaoaaGreatDoorV9
/-! Trees (printed by program). -/
namespace Go.Abs
open Go Go.Proofs
theorem law_t0 (pc pt tm lt : Int) (len cap : Nat) (d : Nat → AV) (nd : Nat) (KN : List AV → List ABlk → Prop) (KE : Nat → List AV → List ABlk → Prop) (KF : AV → List ABlk → Prop) :
  wexecL CL (XN esL) 60 law5Pre ⟨149, argsT [.int .u16 pc, .int .u8 pt, .sl 1 0 len cap true, .int .u8 tm, .int .u16 lt] 0 .lf, hOf [tabB, inB5 d nd], []⟩ (leafF oqI CL.P [.tmp 10] 149 1 0 ts5 KN KE KF) =
  (splitB (!ile ((len : Int)) 100)
    (KF (AV.bool true) ([]))
    (And (wGood
  (IntKind.i64.wrap (IntKind.i64.wrap (1 + IntKind.i64.wrap (pt.tmod 64)) * IntKind.i64.wrap (1 + IntKind.i64.wrap pc)))
  (IntKind.i64.wrap (1 + IntKind.i64.wrap (pt.tmod 64))))
    (And (wGood
  (IntKind.i64.wrap
    (IntKind.i64.wrap
        (IntKind.i64.wrap (1 + IntKind.i64.wrap (tm.tmod 4)) * IntKind.i64.wrap (1 + IntKind.i64.wrap (pt.tmod 64))) *
      IntKind.i64.wrap (1 + IntKind.i64.wrap pc)))
  (IntKind.i64.wrap (1 + IntKind.i64.wrap (pt.tmod 64))))
    (And (∀ (j : Nat), j < 32 → (listFn tabV j).closed = true)
    (And (∀ (j : Nat), j < nd → (d j).closed = true)
    (And (∀ (i : Nat),
  i < (IntKind.i64.wrap (1 + IntKind.i64.wrap (pt.tmod 64))).toNat →
    (listFn (ints (List.replicate (IntKind.i64.wrap (1 + IntKind.i64.wrap (pt.tmod 64))).toNat 0)) i).closed = true)
    (And (∀ (i : Nat),
  i < (IntKind.i64.wrap (1 + IntKind.i64.wrap (pt.tmod 64))).toNat →
    (listFn (ints (List.replicate (IntKind.i64.wrap (1 + IntKind.i64.wrap (pt.tmod 64))).toNat 0)) i).closed = true)
    (KN ([AV.int IntKind.i64 (IntKind.i64.wrap (1 + IntKind.i64.wrap (tm.tmod 4))),  AV.int IntKind.i64   (IntKind.i64.wrap    (IntKind.i64.wrap      (IntKind.i64.wrap (1 + IntKind.i64.wrap (tm.tmod 4)) * IntKind.i64.wrap (1 + IntKind.i64.wrap pc)) *     IntKind.i64.wrap lt)),  AV.ptr 1 0, AV.ptr 2 0, AV.sl 3 0 len cap true, AV.int IntKind.i64 (len : Int), AV.int IntKind.i64 0]) ([ABlk.cells { sto := Sto.fn (listFn tabV), n := 32, elem := 0, esz := 32, ro := true },  obj 151 3   [AV.int IntKind.i64     (IntKind.i64.wrap       (IntKind.i64.wrap (1 + IntKind.i64.wrap (pt.tmod 64)) * IntKind.i64.wrap (1 + IntKind.i64.wrap pc)) /      IntKind.i64.wrap (1 + IntKind.i64.wrap (pt.tmod 64))),    AV.int IntKind.i64 0,    AV.sl 4 0 (IntKind.i64.wrap (1 + IntKind.i64.wrap (pt.tmod 64))).toNat     (IntKind.i64.wrap (1 + IntKind.i64.wrap (pt.tmod 64))).toNat true],  obj 151 3   [AV.int IntKind.i64     (IntKind.i64.wrap       (IntKind.i64.wrap         (IntKind.i64.wrap (1 + IntKind.i64.wrap (tm.tmod 4)) *          IntKind.i64.wrap (1 + IntKind.i64.wrap (pt.tmod 64))) *        IntKind.i64.wrap (1 + IntKind.i64.wrap pc)) /      IntKind.i64.wrap (1 + IntKind.i64.wrap (pt.tmod 64))),    AV.int IntKind.i64 0,    AV.sl 5 0 (IntKind.i64.wrap (1 + IntKind.i64.wrap (pt.tmod 64))).toNat     (IntKind.i64.wrap (1 + IntKind.i64.wrap (pt.tmod 64))).toNat true],  ABlk.cells { sto := Sto.fn d, n := nd, elem := 66, esz := 4, ro := true },  ABlk.cells   { sto := Sto.fn (listFn (ints (List.replicate (IntKind.i64.wrap (1 + IntKind.i64.wrap (pt.tmod 64))).toNat 0))),    n := (IntKind.i64.wrap (1 + IntKind.i64.wrap (pt.tmod 64))).toNat, elem := 3, esz := 1, ro := false },  ABlk.cells   { sto := Sto.fn (listFn (ints (List.replicate (IntKind.i64.wrap (1 + IntKind.i64.wrap (pt.tmod 64))).toNat 0))),    n := (IntKind.i64.wrap (1 + IntKind.i64.wrap (pt.tmod 64))).toNat, elem := 3, esz := 1, ro := false }]))
    )
    )
    )
    )
    )
    )
  ) := by kernel_rfl

theorem law_t1 (k b : Int) (len cap : Nat) (i kd nw nn mo : Int) (p p' a a' : Int) (l l' : List Int) (n : Nat) (d : Nat → AV) (nd : Nat) (KN : List AV → List ABlk → Prop) (KE : Nat → List AV → List ABlk → Prop) (KF : AV → List ABlk → Prop) :
  wexec CL (XL5 kd nw nn mo) 60 law5Loop (stOf 149 ts5 (vals5 k b len cap i) (blks5 p p' a a' l l' n d nd)) (leafF oqI CL.P [.tmp 10] 149 1 0 ts5 KN KE KF) =
  (splitB (!ile ((len : Int)) i)
    (splitB (inB i len)
      (splitB ((0 + i.toNat * 4 + 4).ble nd)
        (And (readL (Sto.fn d) (0 + i.toNat * 4) 4 =
  [AV.int IntKind.u8 kd, AV.int IntKind.i64 nw, AV.int IntKind.i64 nn, AV.int IntKind.i64 mo])
        (splitB (!ile 0 nw)
          (And (∀ (j : Nat), j < 32 → (listFn tabV j).closed = true)
          (And (∀ (j : Nat), j < nd → (d j).closed = true)
          (And (∀ (j : Nat), j < n → (listFn (ints l) j).closed = true)
          (And (∀ (j : Nat), j < n → (listFn (ints l') j).closed = true)
          (KN ([AV.int IntKind.i64 k, AV.int IntKind.i64 b, AV.ptr 1 0, AV.ptr 2 0, AV.sl 3 0 len cap true, AV.int IntKind.i64 (len : Int),  AV.int IntKind.i64 (IntKind.i64.wrap (i + 1))]) ([ABlk.cells { sto := Sto.fn (listFn tabV), n := 32, elem := 0, esz := 32, ro := true },  obj 151 3 [AV.int IntKind.i64 p, AV.int IntKind.i64 a, AV.sl 4 0 n n true],  obj 151 3 [AV.int IntKind.i64 p', AV.int IntKind.i64 a', AV.sl 5 0 n n true],  ABlk.cells { sto := Sto.fn d, n := nd, elem := 66, esz := 4, ro := true },  ABlk.cells { sto := Sto.fn (listFn (ints l)), n := n, elem := 3, esz := 1, ro := false },  ABlk.cells { sto := Sto.fn (listFn (ints l')), n := n, elem := 3, esz := 1, ro := false }]))
          )
          )
          )
          )
          (splitB (!ile nw 35184372088832)
            (And (∀ (j : Nat), j < 32 → (listFn tabV j).closed = true)
            (And (∀ (j : Nat), j < nd → (d j).closed = true)
            (And (∀ (j : Nat), j < n → (listFn (ints l) j).closed = true)
            (And (∀ (j : Nat), j < n → (listFn (ints l') j).closed = true)
            (KN ([AV.int IntKind.i64 k, AV.int IntKind.i64 b, AV.ptr 1 0, AV.ptr 2 0, AV.sl 3 0 len cap true, AV.int IntKind.i64 (len : Int),  AV.int IntKind.i64 (IntKind.i64.wrap (i + 1))]) ([ABlk.cells { sto := Sto.fn (listFn tabV), n := 32, elem := 0, esz := 32, ro := true },  obj 151 3 [AV.int IntKind.i64 p, AV.int IntKind.i64 a, AV.sl 4 0 n n true],  obj 151 3 [AV.int IntKind.i64 p', AV.int IntKind.i64 a', AV.sl 5 0 n n true],  ABlk.cells { sto := Sto.fn d, n := nd, elem := 66, esz := 4, ro := true },  ABlk.cells { sto := Sto.fn (listFn (ints l)), n := n, elem := 3, esz := 1, ro := false },  ABlk.cells { sto := Sto.fn (listFn (ints l')), n := n, elem := 3, esz := 1, ro := false }]))
            )
            )
            )
            )
            (splitB (ieq (kd.tmod 2) 0)
              (And (WOk p a n n n (listFn (ints l)))
              (And (WOk p' a' n n n (listFn (ints l')))
              (And (WOk p (tgt p a nw) n n n (listFn (ints (addL (tgt p a nw) nn (reachL p a nw (toI (listFn (ints l)) n))))))
              (And (WOk p' (tgt p' a' (IntKind.i64.wrap (IntKind.i64.wrap (k * nw) + b))) n n n
  (listFn
    (ints
      (addL (tgt p' a' (IntKind.i64.wrap (IntKind.i64.wrap (k * nw) + b))) nn
        (reachL p' a' (IntKind.i64.wrap (IntKind.i64.wrap (k * nw) + b)) (toI (listFn (ints l')) n))))))
              (splitB (!ieq
    (sumL
      (partsL (tgt p (tgt p a nw) nw)
        (reachL p (tgt p a nw) nw
          (toI (listFn (ints (addL (tgt p a nw) nn (reachL p a nw (toI (listFn (ints l)) n))))) n))))
    (sumL
      (partsL
        (tgt p' (tgt p' a' (IntKind.i64.wrap (IntKind.i64.wrap (k * nw) + b)))
          (IntKind.i64.wrap (IntKind.i64.wrap (k * nw) + b)))
        (reachL p' (tgt p' a' (IntKind.i64.wrap (IntKind.i64.wrap (k * nw) + b)))
          (IntKind.i64.wrap (IntKind.i64.wrap (k * nw) + b))
          (toI
            (listFn
              (ints
                (addL (tgt p' a' (IntKind.i64.wrap (IntKind.i64.wrap (k * nw) + b))) nn
                  (reachL p' a' (IntKind.i64.wrap (IntKind.i64.wrap (k * nw) + b)) (toI (listFn (ints l')) n)))))
            n)))))
                (KF (AV.bool false) ([]))
                (And (WOk p (tgt p (tgt p a nw) nw) n n n
  (listFn
    (ints
      (reachL p (tgt p a nw) nw
        (toI (listFn (ints (addL (tgt p a nw) nn (reachL p a nw (toI (listFn (ints l)) n))))) n)))))
                (And (WOk p'
  (tgt p' (tgt p' a' (IntKind.i64.wrap (IntKind.i64.wrap (k * nw) + b)))
    (IntKind.i64.wrap (IntKind.i64.wrap (k * nw) + b)))
  n n n
  (listFn
    (ints
      (reachL p' (tgt p' a' (IntKind.i64.wrap (IntKind.i64.wrap (k * nw) + b)))
        (IntKind.i64.wrap (IntKind.i64.wrap (k * nw) + b))
        (toI
          (listFn
            (ints
              (addL (tgt p' a' (IntKind.i64.wrap (IntKind.i64.wrap (k * nw) + b))) nn
                (reachL p' a' (IntKind.i64.wrap (IntKind.i64.wrap (k * nw) + b)) (toI (listFn (ints l')) n)))))
          n)))))
                (splitB (!ieq
    (greL
      (partsL (tgt p (tgt p (tgt p a nw) nw) nw)
        (reachL p (tgt p (tgt p a nw) nw) nw
          (toI
            (listFn
              (ints
                (reachL p (tgt p a nw) nw
                  (toI (listFn (ints (addL (tgt p a nw) nn (reachL p a nw (toI (listFn (ints l)) n))))) n))))
            n))))
    (greL
      (partsL
        (tgt p'
          (tgt p' (tgt p' a' (IntKind.i64.wrap (IntKind.i64.wrap (k * nw) + b)))
            (IntKind.i64.wrap (IntKind.i64.wrap (k * nw) + b)))
          (IntKind.i64.wrap (IntKind.i64.wrap (k * nw) + b)))
        (reachL p'
          (tgt p' (tgt p' a' (IntKind.i64.wrap (IntKind.i64.wrap (k * nw) + b)))
            (IntKind.i64.wrap (IntKind.i64.wrap (k * nw) + b)))
          (IntKind.i64.wrap (IntKind.i64.wrap (k * nw) + b))
          (toI
            (listFn
              (ints
                (reachL p' (tgt p' a' (IntKind.i64.wrap (IntKind.i64.wrap (k * nw) + b)))
                  (IntKind.i64.wrap (IntKind.i64.wrap (k * nw) + b))
                  (toI
                    (listFn
                      (ints
                        (addL (tgt p' a' (IntKind.i64.wrap (IntKind.i64.wrap (k * nw) + b))) nn
                          (reachL p' a' (IntKind.i64.wrap (IntKind.i64.wrap (k * nw) + b))
                            (toI (listFn (ints l')) n)))))
                    n))))
            n)))))
                  (KF (AV.bool false) ([]))
                  (And (WOk p (tgt p (tgt p (tgt p a nw) nw) nw) n n n
  (listFn
    (ints
      (reachL p (tgt p (tgt p a nw) nw) nw
        (toI
          (listFn
            (ints
              (reachL p (tgt p a nw) nw
                (toI (listFn (ints (addL (tgt p a nw) nn (reachL p a nw (toI (listFn (ints l)) n))))) n))))
          n)))))
                  (And (WOk p'
  (tgt p'
    (tgt p' (tgt p' a' (IntKind.i64.wrap (IntKind.i64.wrap (k * nw) + b)))
      (IntKind.i64.wrap (IntKind.i64.wrap (k * nw) + b)))
    (IntKind.i64.wrap (IntKind.i64.wrap (k * nw) + b)))
  n n n
  (listFn
    (ints
      (reachL p'
        (tgt p' (tgt p' a' (IntKind.i64.wrap (IntKind.i64.wrap (k * nw) + b)))
          (IntKind.i64.wrap (IntKind.i64.wrap (k * nw) + b)))
        (IntKind.i64.wrap (IntKind.i64.wrap (k * nw) + b))
        (toI
          (listFn
            (ints
              (reachL p' (tgt p' a' (IntKind.i64.wrap (IntKind.i64.wrap (k * nw) + b)))
                (IntKind.i64.wrap (IntKind.i64.wrap (k * nw) + b))
                (toI
                  (listFn
                    (ints
                      (addL (tgt p' a' (IntKind.i64.wrap (IntKind.i64.wrap (k * nw) + b))) nn
                        (reachL p' a' (IntKind.i64.wrap (IntKind.i64.wrap (k * nw) + b)) (toI (listFn (ints l')) n)))))
                  n))))
          n)))))
                  (And (EOk
  (listFn
    (ints
      (partsL (tgt p (tgt p (tgt p (tgt p a nw) nw) nw) nw)
        (reachL p (tgt p (tgt p (tgt p a nw) nw) nw) nw
          (toI
            (listFn
              (ints
                (reachL p (tgt p (tgt p a nw) nw) nw
                  (toI
                    (listFn
                      (ints
                        (reachL p (tgt p a nw) nw
                          (toI (listFn (ints (addL (tgt p a nw) nn (reachL p a nw (toI (listFn (ints l)) n))))) n))))
                    n))))
            n)))))
  (listFn
    (ints
      (partsL
        (tgt p'
          (tgt p'
            (tgt p' (tgt p' a' (IntKind.i64.wrap (IntKind.i64.wrap (k * nw) + b)))
              (IntKind.i64.wrap (IntKind.i64.wrap (k * nw) + b)))
            (IntKind.i64.wrap (IntKind.i64.wrap (k * nw) + b)))
          (IntKind.i64.wrap (IntKind.i64.wrap (k * nw) + b)))
        (reachL p'
          (tgt p'
            (tgt p' (tgt p' a' (IntKind.i64.wrap (IntKind.i64.wrap (k * nw) + b)))
              (IntKind.i64.wrap (IntKind.i64.wrap (k * nw) + b)))
            (IntKind.i64.wrap (IntKind.i64.wrap (k * nw) + b)))
          (IntKind.i64.wrap (IntKind.i64.wrap (k * nw) + b))
          (toI
            (listFn
              (ints
                (reachL p'
                  (tgt p' (tgt p' a' (IntKind.i64.wrap (IntKind.i64.wrap (k * nw) + b)))
                    (IntKind.i64.wrap (IntKind.i64.wrap (k * nw) + b)))
                  (IntKind.i64.wrap (IntKind.i64.wrap (k * nw) + b))
                  (toI
                    (listFn
                      (ints
                        (reachL p' (tgt p' a' (IntKind.i64.wrap (IntKind.i64.wrap (k * nw) + b)))
                          (IntKind.i64.wrap (IntKind.i64.wrap (k * nw) + b))
                          (toI
                            (listFn
                              (ints
                                (addL (tgt p' a' (IntKind.i64.wrap (IntKind.i64.wrap (k * nw) + b))) nn
                                  (reachL p' a' (IntKind.i64.wrap (IntKind.i64.wrap (k * nw) + b))
                                    (toI (listFn (ints l')) n)))))
                            n))))
                    n))))
            n)))))
  n n n n)
                  (splitB (!decide
    (toI
        (listFn
          (ints
            (partsL (tgt p (tgt p (tgt p (tgt p a nw) nw) nw) nw)
              (reachL p (tgt p (tgt p (tgt p a nw) nw) nw) nw
                (toI
                  (listFn
                    (ints
                      (reachL p (tgt p (tgt p a nw) nw) nw
                        (toI
                          (listFn
                            (ints
                              (reachL p (tgt p a nw) nw
                                (toI (listFn (ints (addL (tgt p a nw) nn (reachL p a nw (toI (listFn (ints l)) n)))))
                                  n))))
                          n))))
                  n)))))
        n =
      toI
        (listFn
          (ints
            (partsL
              (tgt p'
                (tgt p'
                  (tgt p' (tgt p' a' (IntKind.i64.wrap (IntKind.i64.wrap (k * nw) + b)))
                    (IntKind.i64.wrap (IntKind.i64.wrap (k * nw) + b)))
                  (IntKind.i64.wrap (IntKind.i64.wrap (k * nw) + b)))
                (IntKind.i64.wrap (IntKind.i64.wrap (k * nw) + b)))
              (reachL p'
                (tgt p'
                  (tgt p' (tgt p' a' (IntKind.i64.wrap (IntKind.i64.wrap (k * nw) + b)))
                    (IntKind.i64.wrap (IntKind.i64.wrap (k * nw) + b)))
                  (IntKind.i64.wrap (IntKind.i64.wrap (k * nw) + b)))
                (IntKind.i64.wrap (IntKind.i64.wrap (k * nw) + b))
                (toI
                  (listFn
                    (ints
                      (reachL p'
                        (tgt p' (tgt p' a' (IntKind.i64.wrap (IntKind.i64.wrap (k * nw) + b)))
                          (IntKind.i64.wrap (IntKind.i64.wrap (k * nw) + b)))
                        (IntKind.i64.wrap (IntKind.i64.wrap (k * nw) + b))
                        (toI
                          (listFn
                            (ints
                              (reachL p' (tgt p' a' (IntKind.i64.wrap (IntKind.i64.wrap (k * nw) + b)))
                                (IntKind.i64.wrap (IntKind.i64.wrap (k * nw) + b))
                                (toI
                                  (listFn
                                    (ints
                                      (addL (tgt p' a' (IntKind.i64.wrap (IntKind.i64.wrap (k * nw) + b))) nn
                                        (reachL p' a' (IntKind.i64.wrap (IntKind.i64.wrap (k * nw) + b))
                                          (toI (listFn (ints l')) n)))))
                                  n))))
                          n))))
                  n)))))
        n))
                    (KF (AV.bool false) ([]))
                    (And (WOk p (tgt p (tgt p (tgt p (tgt p a nw) nw) nw) nw) n n n
  (listFn
    (ints
      (reachL p (tgt p (tgt p (tgt p a nw) nw) nw) nw
        (toI
          (listFn
            (ints
              (reachL p (tgt p (tgt p a nw) nw) nw
                (toI
                  (listFn
                    (ints
                      (reachL p (tgt p a nw) nw
                        (toI (listFn (ints (addL (tgt p a nw) nn (reachL p a nw (toI (listFn (ints l)) n))))) n))))
                  n))))
          n)))))
                    (And (WOk p'
  (tgt p'
    (tgt p'
      (tgt p' (tgt p' a' (IntKind.i64.wrap (IntKind.i64.wrap (k * nw) + b)))
        (IntKind.i64.wrap (IntKind.i64.wrap (k * nw) + b)))
      (IntKind.i64.wrap (IntKind.i64.wrap (k * nw) + b)))
    (IntKind.i64.wrap (IntKind.i64.wrap (k * nw) + b)))
  n n n
  (listFn
    (ints
      (reachL p'
        (tgt p'
          (tgt p' (tgt p' a' (IntKind.i64.wrap (IntKind.i64.wrap (k * nw) + b)))
            (IntKind.i64.wrap (IntKind.i64.wrap (k * nw) + b)))
          (IntKind.i64.wrap (IntKind.i64.wrap (k * nw) + b)))
        (IntKind.i64.wrap (IntKind.i64.wrap (k * nw) + b))
        (toI
          (listFn
            (ints
              (reachL p'
                (tgt p' (tgt p' a' (IntKind.i64.wrap (IntKind.i64.wrap (k * nw) + b)))
                  (IntKind.i64.wrap (IntKind.i64.wrap (k * nw) + b)))
                (IntKind.i64.wrap (IntKind.i64.wrap (k * nw) + b))
                (toI
                  (listFn
                    (ints
                      (reachL p' (tgt p' a' (IntKind.i64.wrap (IntKind.i64.wrap (k * nw) + b)))
                        (IntKind.i64.wrap (IntKind.i64.wrap (k * nw) + b))
                        (toI
                          (listFn
                            (ints
                              (addL (tgt p' a' (IntKind.i64.wrap (IntKind.i64.wrap (k * nw) + b))) nn
                                (reachL p' a' (IntKind.i64.wrap (IntKind.i64.wrap (k * nw) + b))
                                  (toI (listFn (ints l')) n)))))
                          n))))
                  n))))
          n)))))
                    (splitB (!ieq
    (IntKind.i64.wrap
      (IntKind.i64.wrap
          (k * IntKind.i64.wrap (IntKind.i64.wrap (tgt p (tgt p (tgt p (tgt p (tgt p a nw) nw) nw) nw) nw + 1) * p)) +
        b))
    (IntKind.i64.wrap
      (IntKind.i64.wrap
          (tgt p'
              (tgt p'
                (tgt p'
                  (tgt p' (tgt p' a' (IntKind.i64.wrap (IntKind.i64.wrap (k * nw) + b)))
                    (IntKind.i64.wrap (IntKind.i64.wrap (k * nw) + b)))
                  (IntKind.i64.wrap (IntKind.i64.wrap (k * nw) + b)))
                (IntKind.i64.wrap (IntKind.i64.wrap (k * nw) + b)))
              (IntKind.i64.wrap (IntKind.i64.wrap (k * nw) + b)) +
            1) *
        p')))
                      (KF (AV.bool false) ([]))
                      (And (∀ (j : Nat), j < 32 → (listFn tabV j).closed = true)
                      (And (∀ (j : Nat), j < nd → (d j).closed = true)
                      (And (∀ (i : Nat),
  i < n →
    (listFn
          (ints
            (reachL p (tgt p (tgt p (tgt p (tgt p a nw) nw) nw) nw) nw
              (toI
                (listFn
                  (ints
                    (reachL p (tgt p (tgt p (tgt p a nw) nw) nw) nw
                      (toI
                        (listFn
                          (ints
                            (reachL p (tgt p (tgt p a nw) nw) nw
                              (toI
                                (listFn
                                  (ints
                                    (reachL p (tgt p a nw) nw
                                      (toI
                                        (listFn (ints (addL (tgt p a nw) nn (reachL p a nw (toI (listFn (ints l)) n)))))
                                        n))))
                                n))))
                        n))))
                n)))
          i).closed =
      true)
                      (And (∀ (i : Nat),
  i < n →
    (listFn
          (ints
            (reachL p'
              (tgt p'
                (tgt p'
                  (tgt p' (tgt p' a' (IntKind.i64.wrap (IntKind.i64.wrap (k * nw) + b)))
                    (IntKind.i64.wrap (IntKind.i64.wrap (k * nw) + b)))
                  (IntKind.i64.wrap (IntKind.i64.wrap (k * nw) + b)))
                (IntKind.i64.wrap (IntKind.i64.wrap (k * nw) + b)))
              (IntKind.i64.wrap (IntKind.i64.wrap (k * nw) + b))
              (toI
                (listFn
                  (ints
                    (reachL p'
                      (tgt p'
                        (tgt p' (tgt p' a' (IntKind.i64.wrap (IntKind.i64.wrap (k * nw) + b)))
                          (IntKind.i64.wrap (IntKind.i64.wrap (k * nw) + b)))
                        (IntKind.i64.wrap (IntKind.i64.wrap (k * nw) + b)))
                      (IntKind.i64.wrap (IntKind.i64.wrap (k * nw) + b))
                      (toI
                        (listFn
                          (ints
                            (reachL p'
                              (tgt p' (tgt p' a' (IntKind.i64.wrap (IntKind.i64.wrap (k * nw) + b)))
                                (IntKind.i64.wrap (IntKind.i64.wrap (k * nw) + b)))
                              (IntKind.i64.wrap (IntKind.i64.wrap (k * nw) + b))
                              (toI
                                (listFn
                                  (ints
                                    (reachL p' (tgt p' a' (IntKind.i64.wrap (IntKind.i64.wrap (k * nw) + b)))
                                      (IntKind.i64.wrap (IntKind.i64.wrap (k * nw) + b))
                                      (toI
                                        (listFn
                                          (ints
                                            (addL (tgt p' a' (IntKind.i64.wrap (IntKind.i64.wrap (k * nw) + b))) nn
                                              (reachL p' a' (IntKind.i64.wrap (IntKind.i64.wrap (k * nw) + b))
                                                (toI (listFn (ints l')) n)))))
                                        n))))
                                n))))
                        n))))
                n)))
          i).closed =
      true)
                      (KN ([AV.int IntKind.i64 k, AV.int IntKind.i64 b, AV.ptr 1 0, AV.ptr 2 0, AV.sl 3 0 len cap true, AV.int IntKind.i64 (len : Int),  AV.int IntKind.i64 (IntKind.i64.wrap (i + 1))]) ([ABlk.cells { sto := Sto.fn (listFn tabV), n := 32, elem := 0, esz := 32, ro := true },  obj 151 3   [AV.int IntKind.i64 p, AV.int IntKind.i64 (tgt p (tgt p (tgt p (tgt p (tgt p a nw) nw) nw) nw) nw),    AV.sl 4 0 n n true],  obj 151 3   [AV.int IntKind.i64 p',    AV.int IntKind.i64     (tgt p'      (tgt p'       (tgt p'        (tgt p' (tgt p' a' (IntKind.i64.wrap (IntKind.i64.wrap (k * nw) + b)))         (IntKind.i64.wrap (IntKind.i64.wrap (k * nw) + b)))        (IntKind.i64.wrap (IntKind.i64.wrap (k * nw) + b)))       (IntKind.i64.wrap (IntKind.i64.wrap (k * nw) + b)))      (IntKind.i64.wrap (IntKind.i64.wrap (k * nw) + b))),    AV.sl 5 0 n n true],  ABlk.cells { sto := Sto.fn d, n := nd, elem := 66, esz := 4, ro := true },  ABlk.cells   {    sto :=     Sto.fn      (listFn       (ints        (reachL p (tgt p (tgt p (tgt p (tgt p a nw) nw) nw) nw) nw         (toI          (listFn           (ints            (reachL p (tgt p (tgt p (tgt p a nw) nw) nw) nw             (toI              (listFn               (ints                (reachL p (tgt p (tgt p a nw) nw) nw                 (toI                  (listFn                   (ints                    (reachL p (tgt p a nw) nw                     (toI                      (listFn                       (ints (addL (tgt p a nw) nn (reachL p a nw (toI (listFn (ints l)) n)))))                      n))))                  n))))              n))))          n)))),    n := n, elem := 3, esz := 1, ro := false },  ABlk.cells   {    sto :=     Sto.fn      (listFn       (ints        (reachL p'         (tgt p'          (tgt p'           (tgt p' (tgt p' a' (IntKind.i64.wrap (IntKind.i64.wrap (k * nw) + b)))            (IntKind.i64.wrap (IntKind.i64.wrap (k * nw) + b)))           (IntKind.i64.wrap (IntKind.i64.wrap (k * nw) + b)))          (IntKind.i64.wrap (IntKind.i64.wrap (k * nw) + b)))         (IntKind.i64.wrap (IntKind.i64.wrap (k * nw) + b))         (toI          (listFn           (ints            (reachL p'             (tgt p'              (tgt p' (tgt p' a' (IntKind.i64.wrap (IntKind.i64.wrap (k * nw) + b)))               (IntKind.i64.wrap (IntKind.i64.wrap (k * nw) + b)))              (IntKind.i64.wrap (IntKind.i64.wrap (k * nw) + b)))             (IntKind.i64.wrap (IntKind.i64.wrap (k * nw) + b))             (toI              (listFn               (ints                (reachL p'                 (tgt p' (tgt p' a' (IntKind.i64.wrap (IntKind.i64.wrap (k * nw) + b)))                  (IntKind.i64.wrap (IntKind.i64.wrap (k * nw) + b)))                 (IntKind.i64.wrap (IntKind.i64.wrap (k * nw) + b))                 (toI                  (listFn                   (ints                    (reachL p' (tgt p' a' (IntKind.i64.wrap (IntKind.i64.wrap (k * nw) + b)))                     (IntKind.i64.wrap (IntKind.i64.wrap (k * nw) + b))                     (toI                      (listFn                       (ints                        (addL (tgt p' a' (IntKind.i64.wrap (IntKind.i64.wrap (k * nw) + b))) nn                         (reachL p' a' (IntKind.i64.wrap (IntKind.i64.wrap (k * nw) + b))                          (toI (listFn (ints l')) n)))))                      n))))                  n))))              n))))          n)))),    n := n, elem := 3, esz := 1, ro := false }]))
                      )
                      )
                      )
                      )
                    )
                    )
                    )
                  )
                  )
                  )
                  )
                )
                )
                )
              )
              )
              )
              )
              )
              (And (WOk p a n n n (listFn (ints l)))
              (And (WOk p' a' n n n (listFn (ints l')))
              (splitB (!allows p a nw nn mo (toI (listFn (ints l)) n) ==
    allows p' a' (IntKind.i64.wrap (IntKind.i64.wrap (k * nw) + b)) nn mo (toI (listFn (ints l')) n))
                (KF (AV.bool false) ([]))
                (And (WOk p (tgt p a nw) n n n
  (listFn
    (ints
      (bif allows p a nw nn mo (toI (listFn (ints l)) n) then
        addL (tgt p a nw) nn (reachL p a nw (toI (listFn (ints l)) n))
      else reachL p a nw (toI (listFn (ints l)) n)))))
                (And (WOk p' (tgt p' a' (IntKind.i64.wrap (IntKind.i64.wrap (k * nw) + b))) n n n
  (listFn
    (ints
      (bif allows p' a' (IntKind.i64.wrap (IntKind.i64.wrap (k * nw) + b)) nn mo (toI (listFn (ints l')) n) then
        addL (tgt p' a' (IntKind.i64.wrap (IntKind.i64.wrap (k * nw) + b))) nn
          (reachL p' a' (IntKind.i64.wrap (IntKind.i64.wrap (k * nw) + b)) (toI (listFn (ints l')) n))
      else reachL p' a' (IntKind.i64.wrap (IntKind.i64.wrap (k * nw) + b)) (toI (listFn (ints l')) n)))))
                (splitB (!ieq
    (sumL
      (partsL (tgt p (tgt p a nw) nw)
        (reachL p (tgt p a nw) nw
          (toI
            (listFn
              (ints
                (bif allows p a nw nn mo (toI (listFn (ints l)) n) then
                  addL (tgt p a nw) nn (reachL p a nw (toI (listFn (ints l)) n))
                else reachL p a nw (toI (listFn (ints l)) n))))
            n))))
    (sumL
      (partsL
        (tgt p' (tgt p' a' (IntKind.i64.wrap (IntKind.i64.wrap (k * nw) + b)))
          (IntKind.i64.wrap (IntKind.i64.wrap (k * nw) + b)))
        (reachL p' (tgt p' a' (IntKind.i64.wrap (IntKind.i64.wrap (k * nw) + b)))
          (IntKind.i64.wrap (IntKind.i64.wrap (k * nw) + b))
          (toI
            (listFn
              (ints
                (bif
                    allows p' a' (IntKind.i64.wrap (IntKind.i64.wrap (k * nw) + b)) nn mo
                      (toI (listFn (ints l')) n) then
                  addL (tgt p' a' (IntKind.i64.wrap (IntKind.i64.wrap (k * nw) + b))) nn
                    (reachL p' a' (IntKind.i64.wrap (IntKind.i64.wrap (k * nw) + b)) (toI (listFn (ints l')) n))
                else reachL p' a' (IntKind.i64.wrap (IntKind.i64.wrap (k * nw) + b)) (toI (listFn (ints l')) n))))
            n)))))
                  (KF (AV.bool false) ([]))
                  (And (WOk p (tgt p (tgt p a nw) nw) n n n
  (listFn
    (ints
      (reachL p (tgt p a nw) nw
        (toI
          (listFn
            (ints
              (bif allows p a nw nn mo (toI (listFn (ints l)) n) then
                addL (tgt p a nw) nn (reachL p a nw (toI (listFn (ints l)) n))
              else reachL p a nw (toI (listFn (ints l)) n))))
          n)))))
                  (And (WOk p'
  (tgt p' (tgt p' a' (IntKind.i64.wrap (IntKind.i64.wrap (k * nw) + b)))
    (IntKind.i64.wrap (IntKind.i64.wrap (k * nw) + b)))
  n n n
  (listFn
    (ints
      (reachL p' (tgt p' a' (IntKind.i64.wrap (IntKind.i64.wrap (k * nw) + b)))
        (IntKind.i64.wrap (IntKind.i64.wrap (k * nw) + b))
        (toI
          (listFn
            (ints
              (bif allows p' a' (IntKind.i64.wrap (IntKind.i64.wrap (k * nw) + b)) nn mo (toI (listFn (ints l')) n) then
                addL (tgt p' a' (IntKind.i64.wrap (IntKind.i64.wrap (k * nw) + b))) nn
                  (reachL p' a' (IntKind.i64.wrap (IntKind.i64.wrap (k * nw) + b)) (toI (listFn (ints l')) n))
              else reachL p' a' (IntKind.i64.wrap (IntKind.i64.wrap (k * nw) + b)) (toI (listFn (ints l')) n))))
          n)))))
                  (splitB (!ieq
    (greL
      (partsL (tgt p (tgt p (tgt p a nw) nw) nw)
        (reachL p (tgt p (tgt p a nw) nw) nw
          (toI
            (listFn
              (ints
                (reachL p (tgt p a nw) nw
                  (toI
                    (listFn
                      (ints
                        (bif allows p a nw nn mo (toI (listFn (ints l)) n) then
                          addL (tgt p a nw) nn (reachL p a nw (toI (listFn (ints l)) n))
                        else reachL p a nw (toI (listFn (ints l)) n))))
                    n))))
            n))))
    (greL
      (partsL
        (tgt p'
          (tgt p' (tgt p' a' (IntKind.i64.wrap (IntKind.i64.wrap (k * nw) + b)))
            (IntKind.i64.wrap (IntKind.i64.wrap (k * nw) + b)))
          (IntKind.i64.wrap (IntKind.i64.wrap (k * nw) + b)))
        (reachL p'
          (tgt p' (tgt p' a' (IntKind.i64.wrap (IntKind.i64.wrap (k * nw) + b)))
            (IntKind.i64.wrap (IntKind.i64.wrap (k * nw) + b)))
          (IntKind.i64.wrap (IntKind.i64.wrap (k * nw) + b))
          (toI
            (listFn
              (ints
                (reachL p' (tgt p' a' (IntKind.i64.wrap (IntKind.i64.wrap (k * nw) + b)))
                  (IntKind.i64.wrap (IntKind.i64.wrap (k * nw) + b))
                  (toI
                    (listFn
                      (ints
                        (bif
                            allows p' a' (IntKind.i64.wrap (IntKind.i64.wrap (k * nw) + b)) nn mo
                              (toI (listFn (ints l')) n) then
                          addL (tgt p' a' (IntKind.i64.wrap (IntKind.i64.wrap (k * nw) + b))) nn
                            (reachL p' a' (IntKind.i64.wrap (IntKind.i64.wrap (k * nw) + b)) (toI (listFn (ints l')) n))
                        else
                          reachL p' a' (IntKind.i64.wrap (IntKind.i64.wrap (k * nw) + b)) (toI (listFn (ints l')) n))))
                    n))))
            n)))))
                    (KF (AV.bool false) ([]))
                    (And (WOk p (tgt p (tgt p (tgt p a nw) nw) nw) n n n
  (listFn
    (ints
      (reachL p (tgt p (tgt p a nw) nw) nw
        (toI
          (listFn
            (ints
              (reachL p (tgt p a nw) nw
                (toI
                  (listFn
                    (ints
                      (bif allows p a nw nn mo (toI (listFn (ints l)) n) then
                        addL (tgt p a nw) nn (reachL p a nw (toI (listFn (ints l)) n))
                      else reachL p a nw (toI (listFn (ints l)) n))))
                  n))))
          n)))))
                    (And (WOk p'
  (tgt p'
    (tgt p' (tgt p' a' (IntKind.i64.wrap (IntKind.i64.wrap (k * nw) + b)))
      (IntKind.i64.wrap (IntKind.i64.wrap (k * nw) + b)))
    (IntKind.i64.wrap (IntKind.i64.wrap (k * nw) + b)))
  n n n
  (listFn
    (ints
      (reachL p'
        (tgt p' (tgt p' a' (IntKind.i64.wrap (IntKind.i64.wrap (k * nw) + b)))
          (IntKind.i64.wrap (IntKind.i64.wrap (k * nw) + b)))
        (IntKind.i64.wrap (IntKind.i64.wrap (k * nw) + b))
        (toI
          (listFn
            (ints
              (reachL p' (tgt p' a' (IntKind.i64.wrap (IntKind.i64.wrap (k * nw) + b)))
                (IntKind.i64.wrap (IntKind.i64.wrap (k * nw) + b))
                (toI
                  (listFn
                    (ints
                      (bif
                          allows p' a' (IntKind.i64.wrap (IntKind.i64.wrap (k * nw) + b)) nn mo
                            (toI (listFn (ints l')) n) then
                        addL (tgt p' a' (IntKind.i64.wrap (IntKind.i64.wrap (k * nw) + b))) nn
                          (reachL p' a' (IntKind.i64.wrap (IntKind.i64.wrap (k * nw) + b)) (toI (listFn (ints l')) n))
                      else reachL p' a' (IntKind.i64.wrap (IntKind.i64.wrap (k * nw) + b)) (toI (listFn (ints l')) n))))
                  n))))
          n)))))
                    (And (EOk
  (listFn
    (ints
      (partsL (tgt p (tgt p (tgt p (tgt p a nw) nw) nw) nw)
        (reachL p (tgt p (tgt p (tgt p a nw) nw) nw) nw
          (toI
            (listFn
              (ints
                (reachL p (tgt p (tgt p a nw) nw) nw
                  (toI
                    (listFn
                      (ints
                        (reachL p (tgt p a nw) nw
                          (toI
                            (listFn
                              (ints
                                (bif allows p a nw nn mo (toI (listFn (ints l)) n) then
                                  addL (tgt p a nw) nn (reachL p a nw (toI (listFn (ints l)) n))
                                else reachL p a nw (toI (listFn (ints l)) n))))
                            n))))
                    n))))
            n)))))
  (listFn
    (ints
      (partsL
        (tgt p'
          (tgt p'
            (tgt p' (tgt p' a' (IntKind.i64.wrap (IntKind.i64.wrap (k * nw) + b)))
              (IntKind.i64.wrap (IntKind.i64.wrap (k * nw) + b)))
            (IntKind.i64.wrap (IntKind.i64.wrap (k * nw) + b)))
          (IntKind.i64.wrap (IntKind.i64.wrap (k * nw) + b)))
        (reachL p'
          (tgt p'
            (tgt p' (tgt p' a' (IntKind.i64.wrap (IntKind.i64.wrap (k * nw) + b)))
              (IntKind.i64.wrap (IntKind.i64.wrap (k * nw) + b)))
            (IntKind.i64.wrap (IntKind.i64.wrap (k * nw) + b)))
          (IntKind.i64.wrap (IntKind.i64.wrap (k * nw) + b))
          (toI
            (listFn
              (ints
                (reachL p'
                  (tgt p' (tgt p' a' (IntKind.i64.wrap (IntKind.i64.wrap (k * nw) + b)))
                    (IntKind.i64.wrap (IntKind.i64.wrap (k * nw) + b)))
                  (IntKind.i64.wrap (IntKind.i64.wrap (k * nw) + b))
                  (toI
                    (listFn
                      (ints
                        (reachL p' (tgt p' a' (IntKind.i64.wrap (IntKind.i64.wrap (k * nw) + b)))
                          (IntKind.i64.wrap (IntKind.i64.wrap (k * nw) + b))
                          (toI
                            (listFn
                              (ints
                                (bif
                                    allows p' a' (IntKind.i64.wrap (IntKind.i64.wrap (k * nw) + b)) nn mo
                                      (toI (listFn (ints l')) n) then
                                  addL (tgt p' a' (IntKind.i64.wrap (IntKind.i64.wrap (k * nw) + b))) nn
                                    (reachL p' a' (IntKind.i64.wrap (IntKind.i64.wrap (k * nw) + b))
                                      (toI (listFn (ints l')) n))
                                else
                                  reachL p' a' (IntKind.i64.wrap (IntKind.i64.wrap (k * nw) + b))
                                    (toI (listFn (ints l')) n))))
                            n))))
                    n))))
            n)))))
  n n n n)
                    (splitB (!decide
    (toI
        (listFn
          (ints
            (partsL (tgt p (tgt p (tgt p (tgt p a nw) nw) nw) nw)
              (reachL p (tgt p (tgt p (tgt p a nw) nw) nw) nw
                (toI
                  (listFn
                    (ints
                      (reachL p (tgt p (tgt p a nw) nw) nw
                        (toI
                          (listFn
                            (ints
                              (reachL p (tgt p a nw) nw
                                (toI
                                  (listFn
                                    (ints
                                      (bif allows p a nw nn mo (toI (listFn (ints l)) n) then
                                        addL (tgt p a nw) nn (reachL p a nw (toI (listFn (ints l)) n))
                                      else reachL p a nw (toI (listFn (ints l)) n))))
                                  n))))
                          n))))
                  n)))))
        n =
      toI
        (listFn
          (ints
            (partsL
              (tgt p'
                (tgt p'
                  (tgt p' (tgt p' a' (IntKind.i64.wrap (IntKind.i64.wrap (k * nw) + b)))
                    (IntKind.i64.wrap (IntKind.i64.wrap (k * nw) + b)))
                  (IntKind.i64.wrap (IntKind.i64.wrap (k * nw) + b)))
                (IntKind.i64.wrap (IntKind.i64.wrap (k * nw) + b)))
              (reachL p'
                (tgt p'
                  (tgt p' (tgt p' a' (IntKind.i64.wrap (IntKind.i64.wrap (k * nw) + b)))
                    (IntKind.i64.wrap (IntKind.i64.wrap (k * nw) + b)))
                  (IntKind.i64.wrap (IntKind.i64.wrap (k * nw) + b)))
                (IntKind.i64.wrap (IntKind.i64.wrap (k * nw) + b))
                (toI
                  (listFn
                    (ints
                      (reachL p'
                        (tgt p' (tgt p' a' (IntKind.i64.wrap (IntKind.i64.wrap (k * nw) + b)))
                          (IntKind.i64.wrap (IntKind.i64.wrap (k * nw) + b)))
                        (IntKind.i64.wrap (IntKind.i64.wrap (k * nw) + b))
                        (toI
                          (listFn
                            (ints
                              (reachL p' (tgt p' a' (IntKind.i64.wrap (IntKind.i64.wrap (k * nw) + b)))
                                (IntKind.i64.wrap (IntKind.i64.wrap (k * nw) + b))
                                (toI
                                  (listFn
                                    (ints
                                      (bif
                                          allows p' a' (IntKind.i64.wrap (IntKind.i64.wrap (k * nw) + b)) nn mo
                                            (toI (listFn (ints l')) n) then
                                        addL (tgt p' a' (IntKind.i64.wrap (IntKind.i64.wrap (k * nw) + b))) nn
                                          (reachL p' a' (IntKind.i64.wrap (IntKind.i64.wrap (k * nw) + b))
                                            (toI (listFn (ints l')) n))
                                      else
                                        reachL p' a' (IntKind.i64.wrap (IntKind.i64.wrap (k * nw) + b))
                                          (toI (listFn (ints l')) n))))
                                  n))))
                          n))))
                  n)))))
        n))
                      (KF (AV.bool false) ([]))
                      (And (WOk p (tgt p (tgt p (tgt p (tgt p a nw) nw) nw) nw) n n n
  (listFn
    (ints
      (reachL p (tgt p (tgt p (tgt p a nw) nw) nw) nw
        (toI
          (listFn
            (ints
              (reachL p (tgt p (tgt p a nw) nw) nw
                (toI
                  (listFn
                    (ints
                      (reachL p (tgt p a nw) nw
                        (toI
                          (listFn
                            (ints
                              (bif allows p a nw nn mo (toI (listFn (ints l)) n) then
                                addL (tgt p a nw) nn (reachL p a nw (toI (listFn (ints l)) n))
                              else reachL p a nw (toI (listFn (ints l)) n))))
                          n))))
                  n))))
          n)))))
                      (And (WOk p'
  (tgt p'
    (tgt p'
      (tgt p' (tgt p' a' (IntKind.i64.wrap (IntKind.i64.wrap (k * nw) + b)))
        (IntKind.i64.wrap (IntKind.i64.wrap (k * nw) + b)))
      (IntKind.i64.wrap (IntKind.i64.wrap (k * nw) + b)))
    (IntKind.i64.wrap (IntKind.i64.wrap (k * nw) + b)))
  n n n
  (listFn
    (ints
      (reachL p'
        (tgt p'
          (tgt p' (tgt p' a' (IntKind.i64.wrap (IntKind.i64.wrap (k * nw) + b)))
            (IntKind.i64.wrap (IntKind.i64.wrap (k * nw) + b)))
          (IntKind.i64.wrap (IntKind.i64.wrap (k * nw) + b)))
        (IntKind.i64.wrap (IntKind.i64.wrap (k * nw) + b))
        (toI
          (listFn
            (ints
              (reachL p'
                (tgt p' (tgt p' a' (IntKind.i64.wrap (IntKind.i64.wrap (k * nw) + b)))
                  (IntKind.i64.wrap (IntKind.i64.wrap (k * nw) + b)))
                (IntKind.i64.wrap (IntKind.i64.wrap (k * nw) + b))
                (toI
                  (listFn
                    (ints
                      (reachL p' (tgt p' a' (IntKind.i64.wrap (IntKind.i64.wrap (k * nw) + b)))
                        (IntKind.i64.wrap (IntKind.i64.wrap (k * nw) + b))
                        (toI
                          (listFn
                            (ints
                              (bif
                                  allows p' a' (IntKind.i64.wrap (IntKind.i64.wrap (k * nw) + b)) nn mo
                                    (toI (listFn (ints l')) n) then
                                addL (tgt p' a' (IntKind.i64.wrap (IntKind.i64.wrap (k * nw) + b))) nn
                                  (reachL p' a' (IntKind.i64.wrap (IntKind.i64.wrap (k * nw) + b))
                                    (toI (listFn (ints l')) n))
                              else
                                reachL p' a' (IntKind.i64.wrap (IntKind.i64.wrap (k * nw) + b))
                                  (toI (listFn (ints l')) n))))
                          n))))
                  n))))
          n)))))
                      (splitB (!ieq
    (IntKind.i64.wrap
      (IntKind.i64.wrap
          (k * IntKind.i64.wrap (IntKind.i64.wrap (tgt p (tgt p (tgt p (tgt p (tgt p a nw) nw) nw) nw) nw + 1) * p)) +
        b))
    (IntKind.i64.wrap
      (IntKind.i64.wrap
          (tgt p'
              (tgt p'
                (tgt p'
                  (tgt p' (tgt p' a' (IntKind.i64.wrap (IntKind.i64.wrap (k * nw) + b)))
                    (IntKind.i64.wrap (IntKind.i64.wrap (k * nw) + b)))
                  (IntKind.i64.wrap (IntKind.i64.wrap (k * nw) + b)))
                (IntKind.i64.wrap (IntKind.i64.wrap (k * nw) + b)))
              (IntKind.i64.wrap (IntKind.i64.wrap (k * nw) + b)) +
            1) *
        p')))
                        (KF (AV.bool false) ([]))
                        (And (∀ (j : Nat), j < 32 → (listFn tabV j).closed = true)
                        (And (∀ (j : Nat), j < nd → (d j).closed = true)
                        (And (∀ (i : Nat),
  i < n →
    (listFn
          (ints
            (reachL p (tgt p (tgt p (tgt p (tgt p a nw) nw) nw) nw) nw
              (toI
                (listFn
                  (ints
                    (reachL p (tgt p (tgt p (tgt p a nw) nw) nw) nw
                      (toI
                        (listFn
                          (ints
                            (reachL p (tgt p (tgt p a nw) nw) nw
                              (toI
                                (listFn
                                  (ints
                                    (reachL p (tgt p a nw) nw
                                      (toI
                                        (listFn
                                          (ints
                                            (bif allows p a nw nn mo (toI (listFn (ints l)) n) then
                                              addL (tgt p a nw) nn (reachL p a nw (toI (listFn (ints l)) n))
                                            else reachL p a nw (toI (listFn (ints l)) n))))
                                        n))))
                                n))))
                        n))))
                n)))
          i).closed =
      true)
                        (And (∀ (i : Nat),
  i < n →
    (listFn
          (ints
            (reachL p'
              (tgt p'
                (tgt p'
                  (tgt p' (tgt p' a' (IntKind.i64.wrap (IntKind.i64.wrap (k * nw) + b)))
                    (IntKind.i64.wrap (IntKind.i64.wrap (k * nw) + b)))
                  (IntKind.i64.wrap (IntKind.i64.wrap (k * nw) + b)))
                (IntKind.i64.wrap (IntKind.i64.wrap (k * nw) + b)))
              (IntKind.i64.wrap (IntKind.i64.wrap (k * nw) + b))
              (toI
                (listFn
                  (ints
                    (reachL p'
                      (tgt p'
                        (tgt p' (tgt p' a' (IntKind.i64.wrap (IntKind.i64.wrap (k * nw) + b)))
                          (IntKind.i64.wrap (IntKind.i64.wrap (k * nw) + b)))
                        (IntKind.i64.wrap (IntKind.i64.wrap (k * nw) + b)))
                      (IntKind.i64.wrap (IntKind.i64.wrap (k * nw) + b))
                      (toI
                        (listFn
                          (ints
                            (reachL p'
                              (tgt p' (tgt p' a' (IntKind.i64.wrap (IntKind.i64.wrap (k * nw) + b)))
                                (IntKind.i64.wrap (IntKind.i64.wrap (k * nw) + b)))
                              (IntKind.i64.wrap (IntKind.i64.wrap (k * nw) + b))
                              (toI
                                (listFn
                                  (ints
                                    (reachL p' (tgt p' a' (IntKind.i64.wrap (IntKind.i64.wrap (k * nw) + b)))
                                      (IntKind.i64.wrap (IntKind.i64.wrap (k * nw) + b))
                                      (toI
                                        (listFn
                                          (ints
                                            (bif
                                                allows p' a' (IntKind.i64.wrap (IntKind.i64.wrap (k * nw) + b)) nn mo
                                                  (toI (listFn (ints l')) n) then
                                              addL (tgt p' a' (IntKind.i64.wrap (IntKind.i64.wrap (k * nw) + b))) nn
                                                (reachL p' a' (IntKind.i64.wrap (IntKind.i64.wrap (k * nw) + b))
                                                  (toI (listFn (ints l')) n))
                                            else
                                              reachL p' a' (IntKind.i64.wrap (IntKind.i64.wrap (k * nw) + b))
                                                (toI (listFn (ints l')) n))))
                                        n))))
                                n))))
                        n))))
                n)))
          i).closed =
      true)
                        (KN ([AV.int IntKind.i64 k, AV.int IntKind.i64 b, AV.ptr 1 0, AV.ptr 2 0, AV.sl 3 0 len cap true, AV.int IntKind.i64 (len : Int),  AV.int IntKind.i64 (IntKind.i64.wrap (i + 1))]) ([ABlk.cells { sto := Sto.fn (listFn tabV), n := 32, elem := 0, esz := 32, ro := true },  obj 151 3   [AV.int IntKind.i64 p, AV.int IntKind.i64 (tgt p (tgt p (tgt p (tgt p (tgt p a nw) nw) nw) nw) nw),    AV.sl 4 0 n n true],  obj 151 3   [AV.int IntKind.i64 p',    AV.int IntKind.i64     (tgt p'      (tgt p'       (tgt p'        (tgt p' (tgt p' a' (IntKind.i64.wrap (IntKind.i64.wrap (k * nw) + b)))         (IntKind.i64.wrap (IntKind.i64.wrap (k * nw) + b)))        (IntKind.i64.wrap (IntKind.i64.wrap (k * nw) + b)))       (IntKind.i64.wrap (IntKind.i64.wrap (k * nw) + b)))      (IntKind.i64.wrap (IntKind.i64.wrap (k * nw) + b))),    AV.sl 5 0 n n true],  ABlk.cells { sto := Sto.fn d, n := nd, elem := 66, esz := 4, ro := true },  ABlk.cells   {    sto :=     Sto.fn      (listFn       (ints        (reachL p (tgt p (tgt p (tgt p (tgt p a nw) nw) nw) nw) nw         (toI          (listFn           (ints            (reachL p (tgt p (tgt p (tgt p a nw) nw) nw) nw             (toI              (listFn               (ints                (reachL p (tgt p (tgt p a nw) nw) nw                 (toI                  (listFn                   (ints                    (reachL p (tgt p a nw) nw                     (toI                      (listFn                       (ints                        (bif allows p a nw nn mo (toI (listFn (ints l)) n) then                         addL (tgt p a nw) nn (reachL p a nw (toI (listFn (ints l)) n))                        else reachL p a nw (toI (listFn (ints l)) n))))                      n))))                  n))))              n))))          n)))),    n := n, elem := 3, esz := 1, ro := false },  ABlk.cells   {    sto :=     Sto.fn      (listFn       (ints        (reachL p'         (tgt p'          (tgt p'           (tgt p' (tgt p' a' (IntKind.i64.wrap (IntKind.i64.wrap (k * nw) + b)))            (IntKind.i64.wrap (IntKind.i64.wrap (k * nw) + b)))           (IntKind.i64.wrap (IntKind.i64.wrap (k * nw) + b)))          (IntKind.i64.wrap (IntKind.i64.wrap (k * nw) + b)))         (IntKind.i64.wrap (IntKind.i64.wrap (k * nw) + b))         (toI          (listFn           (ints            (reachL p'             (tgt p'              (tgt p' (tgt p' a' (IntKind.i64.wrap (IntKind.i64.wrap (k * nw) + b)))               (IntKind.i64.wrap (IntKind.i64.wrap (k * nw) + b)))              (IntKind.i64.wrap (IntKind.i64.wrap (k * nw) + b)))             (IntKind.i64.wrap (IntKind.i64.wrap (k * nw) + b))             (toI              (listFn               (ints                (reachL p'                 (tgt p' (tgt p' a' (IntKind.i64.wrap (IntKind.i64.wrap (k * nw) + b)))                  (IntKind.i64.wrap (IntKind.i64.wrap (k * nw) + b)))                 (IntKind.i64.wrap (IntKind.i64.wrap (k * nw) + b))                 (toI                  (listFn                   (ints                    (reachL p' (tgt p' a' (IntKind.i64.wrap (IntKind.i64.wrap (k * nw) + b)))                     (IntKind.i64.wrap (IntKind.i64.wrap (k * nw) + b))                     (toI                      (listFn                       (ints                        (bif                          allows p' a' (IntKind.i64.wrap (IntKind.i64.wrap (k * nw) + b)) nn mo                           (toI (listFn (ints l')) n) then                         addL (tgt p' a' (IntKind.i64.wrap (IntKind.i64.wrap (k * nw) + b))) nn                          (reachL p' a' (IntKind.i64.wrap (IntKind.i64.wrap (k * nw) + b))                           (toI (listFn (ints l')) n))                        else                         reachL p' a' (IntKind.i64.wrap (IntKind.i64.wrap (k * nw) + b))                          (toI (listFn (ints l')) n))))                      n))))                  n))))              n))))          n)))),    n := n, elem := 3, esz := 1, ro := false }]))
                        )
                        )
                        )
                        )
                      )
                      )
                      )
                    )
                    )
                    )
                    )
                  )
                  )
                  )
                )
                )
                )
              )
              )
              )
            )
          )
        )
        )
        False
      )
      False
    )
    (And (∀ (j : Nat), j < 32 → (listFn tabV j).closed = true)
    (And (∀ (j : Nat), j < nd → (d j).closed = true)
    (And (∀ (j : Nat), j < n → (listFn (ints l) j).closed = true)
    (And (∀ (j : Nat), j < n → (listFn (ints l') j).closed = true)
    (KE (0) ([AV.int IntKind.i64 k, AV.int IntKind.i64 b, AV.ptr 1 0, AV.ptr 2 0, AV.sl 3 0 len cap true, AV.int IntKind.i64 (len : Int),  AV.int IntKind.i64 i]) ([ABlk.cells { sto := Sto.fn (listFn tabV), n := 32, elem := 0, esz := 32, ro := true },  obj 151 3 [AV.int IntKind.i64 p, AV.int IntKind.i64 a, AV.sl 4 0 n n true],  obj 151 3 [AV.int IntKind.i64 p', AV.int IntKind.i64 a', AV.sl 5 0 n n true],  ABlk.cells { sto := Sto.fn d, n := nd, elem := 66, esz := 4, ro := true },  ABlk.cells { sto := Sto.fn (listFn (ints l)), n := n, elem := 3, esz := 1, ro := false },  ABlk.cells { sto := Sto.fn (listFn (ints l')), n := n, elem := 3, esz := 1, ro := false }]))
    )
    )
    )
    )
  ) := by kernel_rfl

theorem law_t2 (k b : Int) (len cap : Nat) (i : Int) (p p' a a' : Int) (l l' : List Int) (n : Nat) (d : Nat → AV) (nd : Nat) (KF : AV → List ABlk → Prop) :
  wexecL CL (XN esL) 60 law5Post (stOf 149 ts5 (vals5 k b len cap i) (blks5 p p' a a' l l' n d nd)) (EndsF oqI CL.P [.tmp 10] 0 KF) =
  (KF (AV.bool true) ([])) := by kernel_rfl

theorem law_tn (pc pt tm lt : Int) (KF : AV → List ABlk → Prop) :
  wexecL CL (XN esL) 60 (itemsAt 5) ⟨149, argsT [.int .u16 pc, .int .u8 pt, .sl0, .int .u8 tm, .int .u16 lt] 0 .lf, hOf [tabB], []⟩ (EndsF oqI CL.P [.tmp 10] 0 KF) =
  (And (wGood
  (IntKind.i64.wrap (IntKind.i64.wrap (1 + IntKind.i64.wrap (pt.tmod 64)) * IntKind.i64.wrap (1 + IntKind.i64.wrap pc)))
  (IntKind.i64.wrap (1 + IntKind.i64.wrap (pt.tmod 64))))
  (And (wGood
  (IntKind.i64.wrap
    (IntKind.i64.wrap
        (IntKind.i64.wrap (1 + IntKind.i64.wrap (tm.tmod 4)) * IntKind.i64.wrap (1 + IntKind.i64.wrap (pt.tmod 64))) *
      IntKind.i64.wrap (1 + IntKind.i64.wrap pc)))
  (IntKind.i64.wrap (1 + IntKind.i64.wrap (pt.tmod 64))))
  (KF (AV.bool true) ([]))
  )
  ) := by kernel_rfl

end Go.Abs
