/-
  Window: what its contracts speak of. (Helper theorems; each says its own conditions.)
-/
import Derived.Test.YtghcfkgfccmaoaaGreatDoorEvI
import Derived.Test.YtghcfkgfccmaoaaGreatDoorW26
/-! Window: what its contracts speak of. -/
namespace Go.Abs
open Go Go.Proofs

noncomputable def bodyAt (g : Nat) : Code := match Tryz.prog.funcs[g]? with
  | some fn => match fn.body with
    | some c => c
    | none => .skip
  | none => .skip
noncomputable def itemsAt (g : Nat) : List Code := flatC (bodyAt g) []
def loopIn : List Code → Code
  | .block _ (.loop c) :: _ => c
  | _ => .skip

/-- Blocks of numbers aren't looked into. -/
def oqI : Opq := fun e => Nat.beq e 3

/-- A reader that knows what numbers one block holds. -/
def XI (es : List CEntry) (blk : Nat) (F : Nat → Int) : Rdr := ⟨fun b off _ => match Nat.beq b blk with
  | true => some [.int .i64 (F off)]
  | false => none, condE oqI es⟩
def XN (es : List CEntry) : Rdr := ⟨fun _ _ _ => none, condE oqI es⟩

noncomputable def CI (es : List CEntry) : Ctx := ⟨Tryz.prog, gsOf 0, orcC oqI es⟩

abbrev win (piece at_ : Int) (n : Nat) : ABlk := obj 151 3 [.int .i64 piece, .int .i64 at_, .sl 2 0 n n true]
abbrev ring (l : List Int) (n : Nat) : ABlk := lstB 3 1 (ints l) n

noncomputable def reachPre : List Code := (itemsAt 76).take 2
noncomputable def reachLoop : Code := loopIn ((itemsAt 76).drop 2)
noncomputable def reachPost : List Code := (itemsAt 76).drop 3
noncomputable def partsPre : List Code := (itemsAt 30).take 6
noncomputable def partsLoop : Code := loopIn ((itemsAt 30).drop 6)
noncomputable def partsPost : List Code := (itemsAt 30).drop 7

end Go.Abs
