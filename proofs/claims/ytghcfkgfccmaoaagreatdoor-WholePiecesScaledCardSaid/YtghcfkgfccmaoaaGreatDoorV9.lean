/-
  WholePiecesScaled: its pieces. (Helper theorems; each says its own conditions.)
-/
import Derived.Test.YtghcfkgfccmaoaaGreatDoorV8
/-! WholePiecesScaled: its pieces. -/
namespace Go.Abs
open Go Go.Proofs

def allowCon : CCon := fun args bs => match args, bs with
  | [.ptr 1 0, .int .i64 now, .int .i64 x, .int .i64 most], [.dead, .obj 151 3 3 [.int .i64 piece, .int .i64 a, .sl 2 0 n m true] false, .fnc d 3 1 k false] =>
    some (WOk piece a n m k d, .bool (allows piece a now x most (toI d n)),
      [.dead, win piece (tgt piece a now) n, ring (bif allows piece a now x most (toI d n) then addL (tgt piece a now) x (reachL piece a now (toI d n)) else reachL piece a now (toI d n)) n])
  | _, _ => none
theorem allowCon_ok : (⟨27, false, allowCon⟩ : CEntry).ok (CI esW3) := by
  intro args bs c v l h hc
  simp only [allowCon] at h
  split at h
  · injection h with h; injection h with h1 h2; injection h2 with h2 h3; subst h1 h2 h3
    obtain ⟨_, _, h1, h2, h3, h4, _⟩ := id hc
    exact WOk.fits hc (allow_small _ _ _ _ _ _ _ (toI_length _ _).symm h1 h2 h3 h4)
  · cases h

def wnewCon : CCon := fun args bs => match args, bs with
  | [.int .i64 width, .int .i64 parts], [.dead] => some (wGood width parts, .ptr 1 0, [.dead, win (width / parts) 0 parts.toNat, ring (List.replicate parts.toNat 0) parts.toNat])
  | _, _ => none
theorem wnewCon_ok : (⟨25, false, wnewCon⟩ : CEntry).ok (CI []) := by
  intro args bs c v l h hc
  simp only [wnewCon] at h
  split at h
  · injection h with h; injection h with h1 h2; injection h2 with h2 h3; subst h1 h2 h3
    exact .same ⟨trivial, trivial⟩ (wnew_small _ _ hc)
  · cases h

/-- Two rows of numbers. -/
def EOk (d d' : Nat → AV) (n n' k k' : Nat) : Prop := k = n ∧ k' = n' ∧ n ≤ 1000000 ∧ isInts d n ∧ isInts d' n'
def eqCon : CCon := fun args bs => match args, bs with
  | [.sl 1 0 n _ _, .sl 2 0 n' _ _], [.dead, .fnc d 3 1 k false, .fnc d' 3 1 k' false] =>
    some (EOk d d' n n' k k', .bool (decide (toI d n = toI d' n')), [.dead, ring (toI d n) n, ring (toI d' n') n'])
  | _, _ => none
theorem eqCon_ok : (⟨22, false, eqCon⟩ : CEntry).ok (CI []) := by
  intro args bs c v l h hc
  simp only [eqCon] at h
  split at h
  · rename_i n cp e n' cp' e' d k d' k'
    injection h with h; injection h with h1 h2; injection h2 with h2 h3; subst h1 h2 h3
    obtain ⟨rfl, rfl, hsz, hd, hd'⟩ := hc
    exact ⟨⟨trivial, isInts_closed hd, isInts_closed hd', trivial⟩, [.dead, ring (toI d k) k, ring (toI d' k') k'], ⟨rfl, ⟨_, rfl, ints_toI hd⟩, ⟨_, rfl, ints_toI hd'⟩, trivial⟩,
      eq_small _ _ _ _ _ _ _ _ (toI_length _ _).symm (toI_length _ _).symm hsz⟩
  · cases h

def esL : List CEntry := [⟨22, false, eqCon⟩, ⟨25, false, wnewCon⟩, ⟨26, false, addCon⟩, ⟨27, false, allowCon⟩, ⟨28, false, sumCon⟩, ⟨29, false, greCon⟩, ⟨30, false, partsCon⟩, ⟨31, false, fullCon⟩]
theorem esL_ok : ∀ e ∈ esL, e.ok (CI esL) := by
  intro e he
  simp only [esL, List.mem_cons, List.not_mem_nil, or_false] at he
  rcases he with rfl | rfl | rfl | rfl | rfl | rfl | rfl | rfl
  · exact ctxI eqCon_ok
  · exact ctxI wnewCon_ok
  · exact ctxI addCon_ok
  · exact ctxI allowCon_ok
  · exact ctxI sumCon_ok
  · exact ctxI greCon_ok
  · exact ctxI partsCon_ok
  · exact ctxI fullCon_ok

/-- The law's context: wakes26 is known, besides. -/
noncomputable def CL : Ctx := ⟨Tryz.prog, gsOf 0, orElse (orcC oqI esL) (orcOf [(7, [], .bool true)])⟩

noncomputable def law5Pre : List Code := (itemsAt 5).take 9
noncomputable def law5Loop : Code := loopIn ((itemsAt 5).drop 9)
noncomputable def law5Post : List Code := (itemsAt 5).drop 10

def XL5 (kd nw nn mo : Int) : Rdr := ⟨fun b _ _ => match b with
  | 3 => some [.int .u8 kd, .int .i64 nw, .int .i64 nn, .int .i64 mo]
  | _ => none, condE oqI esL⟩

abbrev inB5 (d : Nat → AV) (n : Nat) : ABlk := .cells { sto := .fn d, n := n, elem := 66, esz := 4, ro := true }
abbrev winAt (b : Nat) (piece at_ : Int) (n : Nat) : ABlk := obj 151 3 [.int .i64 piece, .int .i64 at_, .sl b 0 n n true]
abbrev ts5 : List Nat := [13, 14, 15, 16, 54, 55, 56]
abbrev vals5 (k b : Int) (len cap : Nat) (i : Int) : List AV := [.int .i64 k, .int .i64 b, .ptr 1 0, .ptr 2 0, .sl 3 0 len cap true, .int .i64 len, .int .i64 i]
abbrev blks5 (p p' a a' : Int) (l l' : List Int) (n : Nat) (d : Nat → AV) (nd : Nat) : List ABlk := [tabB, winAt 4 p a n, winAt 5 p' a' n, inB5 d nd, ring l n, ring l' n]
end Go.Abs
