/-
  The abstract semantics: regions, control, calls (no proofs). (Helper theorems; each says its own conditions.)
-/
import Derived.Test.YtghcfkgfccmaoaaGreatDoorAbs1

/-! The abstract semantics: regions, control, calls (no proofs). -/
namespace Go.Abs
open Go

def tmpsOf : List Operand → List Tmp
  | [] => []
  | .tmp t :: xs => t :: tmpsOf xs
  | _ :: xs => tmpsOf xs

/-- The temporaries that an operation looks at: its operands, its guard's. -/
def looks (ops : Array Oper) (o : Oper) : List Tmp :=
  tmpsOf o.op.operands.toList ++ match o.guard with
    | some (g, _) => ((ops[g]?).bind (·.dst)).toList
    | none => []

def edgeBits (bits : List Nat) : List Edge → Nat
  | [] => 0
  | e :: es => match Region.binds .any e with
    | true => (match nth bits e.on with
      | some b => b
      | none => 0) ||| (1 <<< e.on) ||| edgeBits bits es
    | false => edgeBits bits es

/-- For each operation, the bits of those that are ahead of it in every order. (The list grows at its end.) -/
def bitsOf : List Oper → List Nat → List Nat
  | [], acc => acc
  | o :: os, acc => bitsOf os (acc ++ [edgeBits acc o.after.toList])

structure It where
  i : Nat
  o : Oper
  c : Cls
  bits : Nat

def itemsOf : List Oper → List Nat → Nat → List It
  | o :: os, b :: bs, i => ⟨i, o, cls o.op, b⟩ :: itemsOf os bs (i + 1)
  | _, _, _ => []

def ordered (x y : It) : Bool := y.bits.testBit x.i || x.bits.testBit y.i

def memT (t : Tmp) : List Tmp → Bool
  | [] => false
  | u :: us => Nat.beq t u || memT t us

/-- x writes what y reads or writes: they must be ordered. -/
def tmpsApart (ops : Array Oper) (x y : It) : Bool := match x.o.dst with
  | none => true
  | some d => (!(memT d (looks ops y.o)) && (match y.o.dst with | some d' => !(Nat.beq d d') | none => true)) || ordered x y

/-- May these two, x ahead of y in the reference's order, stand so? -/
def pairOk (ops : Array Oper) (x y : It) : Bool :=
  tmpsApart ops x y && tmpsApart ops y x && !(x.bits.testBit y.i) && match x.c, y.c with
    | .eff, .eff | .eff, .alloc => y.bits.testBit x.i
    | .bad, _ | _, .bad => false
    | _, _ => true

def pairsOk (ops : Array Oper) : List It → Bool
  | [] => true
  | x :: xs => (x.c != .bad) && xs.all (pairOk ops x) && pairsOk ops xs

def hoist (x : It) : Bool := x.c == .alloc && Nat.beq x.bits 0 && x.o.guard.isNone && x.o.op.operands.isEmpty

def reOf : List It → List (Nat × Nat)
  | [] => []
  | x :: xs => (xs.filterMap fun y => match x.c, y.c with
      | .read, .eff => if ordered x y then none else some (x.i, y.i)
      | .eff, .read => if ordered x y then none else some (y.i, x.i)
      | .alloc, .eff => if ordered x y then none else some (x.i, y.i)
      | _, _ => none) ++ reOf xs

/-- All edges that bind lead back. -/
def backOk : List It → Bool
  | [] => true
  | x :: xs => (x.o.after.toList.all fun e => !(Region.binds .any e) || Nat.blt e.on x.i) && backOk xs

structure Reg where
  ord : List It
  re : List (Nat × Nat)

def regOf (ops : Array Oper) : Option Reg :=
  let its := itemsOf ops.toList (bitsOf ops.toList []) 0
  let ord := its.filter hoist ++ its.filter (fun x => !hoist x)
  match pairsOk ops ord, backOk its with
  | true, true => some ⟨ord, reOf ord⟩
  | _, _ => none

/-- The block that a reading operation reads. -/
def readAt (ρ : Env) (op : Op) : Log := match op with
  | .load _ a => match ρ a with
    | some (.ptr b _) => [b]
    | _ => []
  | .lookup _ m _ _ => match ρ m with
    | some (.mp b) => [b]
    | _ => []
  | .call c => match c.args.toList with
    | [x] => match ρ x with
      | some (.mp b) => [b]
      | _ => []
    | _ => []
  | _ => []

def apartL (xs ys : Log) : Bool := xs.all fun x => !(memT x ys)

def findRec (i : Nat) : List (Nat × Log) → Log
  | [] => []
  | (j, l) :: rs => match Nat.beq i j with
    | true => l
    | false => findRec i rs

def recsOk (re : List (Nat × Nat)) (rs : List (Nat × Log)) : Bool := re.all fun p => apartL (findRec p.1 rs) (findRec p.2 rs)

abbrev CallF := Nat → List AV → AH → Option R

structure Ctx where
  P : Program
  gs : Nat → Option Nat
  orc : CallF

/-- One operation that is wanted: its value, the heap; and the blocks that it read, made or wrote. -/
def opOutE (C : Ctx) (cf : CallF) (o : Oper) (env : Env) (h : AH) : Option (R × Log) := match cls o.op with
  | .pure => match pureA C.P env o.op with
    | some v => some (⟨v, h, []⟩, [])
    | none => none
  | .read => match readA C.P env h o.op with
    | some v => some (⟨v, h, []⟩, readAt env o.op)
    | none => none
  | .alloc => match allocA C.P env h.next o.op with
    | some (v, blk) => some (⟨v, h.push blk, []⟩, [h.next])
    | none => none
  | .eff => match effA C.P env h o.op with
    | some (.val r) => some (r, r.log)
    | some (.call f args) => match cf f args h with
      | some r => some (r, r.log)
      | none => none
    | none => none
  | .bad => none

def opOut (C : Ctx) (cf : CallF) (o : Oper) (s : St) : Option (R × Log) := opOutE C cf o (glob C.gs s.tmps) s.h

/-- One operation: the new state, and what it read, made or wrote. -/
def stepOp (C : Ctx) (cf : CallF) (ops : Array Oper) (o : Oper) (s : St) : Option (St × Log) :=
  match wantedA ops s.tmps.get o with
  | some false => match putTmp s o.dst (.tup []) with
    | some s' => some (s', [])
    | none => none
  | some true => match opOut C cf o s with
    | some (r, l) => match putTmp { s with h := r.h, log := r.log ++ s.log } o.dst r.v with
      | some s' => some (s', l)
      | none => none
    | none => none
  | none => none

def runOps (C : Ctx) (cf : CallF) (ops : Array Oper) : List Oper → St → Option St
  | [], s => some s
  | o :: os, s => match stepOp C cf ops o s with
    | some (s', _) => runOps C cf ops os s'
    | none => none

def runRec (C : Ctx) (cf : CallF) (ops : Array Oper) : List It → St → List (Nat × Log) → Option (St × List (Nat × Log))
  | [], s, rs => some (s, rs)
  | x :: xs, s, rs => match stepOp C cf ops x.o s with
    | some (s', l) => runRec C cf ops xs s' ((x.i, l) :: rs)
    | none => none

def runRegion (C : Ctx) (cf : CallF) (ops : Array Oper) (draw : Bool) (s : St) : Option St := match draw with
  | false => runOps C cf ops ops.toList s
  | true => match regOf ops with
    | some g => match runRec C cf ops g.ord s [] with
      | some (s', rs) => match recsOk g.re rs with
        | true => some s'
        | false => none
      | none => none
    | none => none

def argsT : List AV → Nat → Tr AV → Tr AV
  | [], _, t => t
  | v :: vs, i, t => argsT vs (i + 1) (t.set i v)

mutual
def aexec (C : Ctx) : Nat → Code → St → Option (AExit × St)
  | 0, _, _ => none
  | f + 1, c, s => match c with
    | .skip | .label _ => some (.normal, s)
    | .exit id => some (.exit id, s)
    | .goto l => some (.goto l, s)
    | .ret => some (.ret, s)
    | .region _ ops draw => match runRegion C (acall C f) ops draw s with
      | some s' => some (.normal, s')
      | none => none
    | .seq a b => match aexec C f a s with
      | some (.normal, s') => aexec C f b s'
      | r => r
    | .cond x a b => match glob C.gs s.tmps x with
      | some (.bool true) => aexec C f a s
      | some (.bool false) => aexec C f b s
      | _ => none
    | .block id a => match aexec C f a s with
      | some (.exit id', s') => match Nat.beq id' id with
        | true => some (.normal, s')
        | false => some (.exit id', s')
      | r => r
    | .loop a => match aexec C f a s with
      | some (.normal, s') => aexec C f (.loop a) s'
      | r => r
    | .scope a => ascope C f a a s
    | .rangeFunc .. | .refuse _ => none
def ascope (C : Ctx) : Nat → Code → Code → St → Option (AExit × St)
  | 0, _, _, _ => none
  | f + 1, b, c, s => match aexec C f c s with
    | some (.goto l, s') => match findLabel b l with
      | some rest => ascope C f b rest s'
      | none => some (.goto l, s')
    | r => r
def acall (C : Ctx) : Nat → Nat → List AV → AH → Option R
  | 0, _, _, _ => none
  | f + 1, g, args, h => match C.orc g args h with
    | some r => some r
    | none => match C.P.funcs[g]? with
      | none => none
      | some fn => match fn.body with
        | none => none
        | some c => match aexec C f c ⟨args.length + (fn.ntmps - args.length), argsT args 0 .lf, h, []⟩ with
          | some (.normal, s) | some (.ret, s) => match resultsA C.P s.h s.tmps fn.results.toList with
            | some vs => some ⟨oneOrTup vs, s.h, s.log⟩
            | none => none
          | _ => none
end

end Go.Abs
