/-
  WholeBurstsScaled: its pieces. (Helper theorems; each says its own conditions.)
-/
import Derived.Test.YtghcfkgfccmaoaaGreatDoorEvI
import Derived.Test.YtghcfkgfccmaoaaGreatDoorD1
/-! WholeBurstsScaled: its pieces. -/
namespace Go.Abs
open Go Go.Proofs

def es1 : List Entry := [⟨9, false, bCon 9⟩, ⟨10, false, bCon 10⟩, ⟨11, false, bCon 11⟩, ⟨12, false, bCon 12⟩, ⟨13, false, bCon 13⟩]
def ces1 : List CEntry := [⟨8, false, newCon⟩]
noncomputable def Cl : Ctx := ⟨Tryz.prog, gsOf 0, orElse (orcC noOpq ces1) (orElse (orcOf [(7, [], .bool true)]) (orcE noOpq es1))⟩

def bodyOf (P : Program) (g : Nat) : Code := match P.funcs[g]? with
  | some fn => match fn.body with
    | some c => c
    | none => .skip
  | none => .skip

noncomputable def items1 : List Code := flatC (bodyOf Tryz.prog 3) []

/-- The input's block. -/
def inB1 (d : Nat → AV) (n : Nat) : ABlk := .cells { sto := .fn d, n := n, elem := 28, esz := 2, ro := true }

def loopOf : List Code → Code
  | .block _ (.loop c) :: _ => c
  | _ => .skip
noncomputable def loop1 : Code := loopOf (items1.drop 8)

def rs1 : List ResultVar := [.tmp 10]
abbrev ts1 : List Nat := [11, 12, 13, 14, 67, 68, 69]
def XC : Rdr := ⟨fun _ _ _ => none, condE noOpq ces1⟩
/-- One element of the input is read. -/
def XL (kd nw : Int) : Rdr := ⟨fun b _ _ => match b with
  | 3 => some [.int .u8 kd, .int .i64 nw]
  | _ => none, condE noOpq ces1⟩

/-- The state of the loop. -/
abbrev vals1 (k b : Int) (len cap : Nat) (i : Int) : List AV := [.int .i64 k, .int .i64 b, .ptr 1 0, .ptr 2 0, .sl 3 0 len cap true, .int .i64 len, .int .i64 i]
abbrev blks1 (a b : List AV) (d : Nat → AV) (nd : Nat) : List ABlk := [tabB, obj 137 7 a, obj 137 7 b, inB1 d nd]

end Go.Abs
