/-
  WholeGatesScaled: its pieces. (Helper theorems; each says its own conditions.)
-/
import Derived.Test.YtkikjebliennbaaGreatDoorG2
/-! WholeGatesScaled: its pieces. -/
namespace Go.Abs
open Go Go.Proofs
noncomputable def law3Pre : List Code := (itemsAt 3).take 8
noncomputable def law3Loop : Code := loopIn ((itemsAt 3).drop 8)
noncomputable def law3Post : List Code := (itemsAt 3).drop 9
def XL3 (kd nw nn : Int) : Rdr := ⟨fun b _ _ => match b with
  | 3 => some [.int .u8 kd, .int .i64 nw, .int .i64 nn]
  | _ => none, condE oqI esL⟩
abbrev inB3 (d : Nat → AV) (n : Nat) : ABlk := .cells { sto := .fn d, n := n, elem := 28, esz := 3, ro := true }
abbrev ts3 : List Nat := [11, 12, 13, 14, 57, 58, 59]
abbrev vals3 (k b : Int) (len cap : Nat) (i : Int) : List AV := [.int .i64 k, .int .i64 b, .ptr 1 0, .ptr 2 0, .sl 3 0 len cap true, .int .i64 len, .int .i64 i]
abbrev blks3 (g s t n g' s' t' n' : Int) (d : Nat → AV) (nd : Nat) : List ABlk := [tabB, gate g s t n, gate g' s' t' n', inB3 d nd]
end Go.Abs
