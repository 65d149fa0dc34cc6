/-
  Window: contracts as oracles, still more. (Helper theorems; each says its own conditions.)
-/
import Derived.Test.YtghcfkgfccmaoaaGreatDoorV6
/-! Window: contracts as oracles, still more. -/
namespace Go.Abs
open Go Go.Proofs

def addCon : CCon := fun args bs => match args, bs with
  | [.ptr 1 0, .int .i64 now, .int .i64 x], [.dead, .obj 151 3 3 [.int .i64 piece, .int .i64 a, .sl 2 0 n m true] false, .fnc d 3 1 k false] =>
    some (WOk piece a n m k d, .tup [], [.dead, win piece (tgt piece a now) n, ring (addL (tgt piece a now) x (reachL piece a now (toI d n))) n])
  | _, _ => none
theorem addCon_ok : (⟨26, false, addCon⟩ : CEntry).ok (CI esW1) := by
  intro args bs c v l h hc
  simp only [addCon] at h
  split at h
  · injection h with h; injection h with h1 h2; injection h2 with h2 h3; subst h1 h2 h3
    obtain ⟨_, _, h1, h2, h3, h4, _⟩ := id hc
    exact WOk.fits hc (add_small _ _ _ _ _ _ (toI_length _ _).symm h1 h2 h3 h4)
  · cases h

def fullCon : CCon := fun args bs => match args, bs with
  | [.ptr 1 0, .int .i64 now], [.dead, .obj 151 3 3 [.int .i64 piece, .int .i64 a, .sl 2 0 n m true] false, .fnc d 3 1 k false] =>
    some (WOk piece a n m k d, .int .i64 (IntKind.i64.wrap (IntKind.i64.wrap (tgt piece a now + 1) * piece)), [.dead, win piece (tgt piece a now) n, ring (reachL piece a now (toI d n)) n])
  | _, _ => none
theorem fullCon_ok : (⟨31, false, fullCon⟩ : CEntry).ok (CI esW1) := by
  intro args bs c v l h hc
  simp only [fullCon] at h
  split at h
  · injection h with h; injection h with h1 h2; injection h2 with h2 h3; subst h1 h2 h3
    obtain ⟨_, _, h1, h2, h3, h4, _⟩ := id hc
    exact WOk.fits hc (full_small _ _ _ _ _ (toI_length _ _).symm h1 h2 h3 h4)
  · cases h

def sumCon : CCon := fun args bs => match args, bs with
  | [.ptr 1 0, .int .i64 now], [.dead, .obj 151 3 3 [.int .i64 piece, .int .i64 a, .sl 2 0 n m true] false, .fnc d 3 1 k false] =>
    some (WOk piece a n m k d, .int .i64 (sumL (partsL (tgt piece a now) (reachL piece a now (toI d n)))), [.dead, win piece (tgt piece a now) n, ring (reachL piece a now (toI d n)) n])
  | _, _ => none
theorem sumCon_ok : (⟨28, false, sumCon⟩ : CEntry).ok (CI esW2) := by
  intro args bs c v l h hc
  simp only [sumCon] at h
  split at h
  · injection h with h; injection h with h1 h2; injection h2 with h2 h3; subst h1 h2 h3
    obtain ⟨_, _, h1, h2, h3, h4, _⟩ := id hc
    exact WOk.fits hc (sum_small _ _ _ _ _ (toI_length _ _).symm h1 h2 h3 h4)
  · cases h

def greCon : CCon := fun args bs => match args, bs with
  | [.ptr 1 0, .int .i64 now], [.dead, .obj 151 3 3 [.int .i64 piece, .int .i64 a, .sl 2 0 n m true] false, .fnc d 3 1 k false] =>
    some (WOk piece a n m k d, .int .i64 (greL (partsL (tgt piece a now) (reachL piece a now (toI d n)))), [.dead, win piece (tgt piece a now) n, ring (reachL piece a now (toI d n)) n])
  | _, _ => none
theorem greCon_ok : (⟨29, false, greCon⟩ : CEntry).ok (CI esW2) := by
  intro args bs c v l h hc
  simp only [greCon] at h
  split at h
  · injection h with h; injection h with h1 h2; injection h2 with h2 h3; subst h1 h2 h3
    obtain ⟨_, _, h1, h2, h3, h4, _⟩ := id hc
    exact WOk.fits hc (gre_small _ _ _ _ _ (toI_length _ _).symm h1 h2 h3 h4)
  · cases h

def esW3 : List CEntry := [⟨77, false, comeCon⟩, ⟨28, false, sumCon⟩, ⟨26, false, addCon⟩]
theorem esW3_ok : CallOK (CI esW3) (CI esW3).orc := orcI_ok (fun e he => by
  simp only [esW3, List.mem_cons, List.not_mem_nil, or_false] at he
  rcases he with rfl | rfl | rfl
  · exact ctxI comeCon_ok
  · exact ctxI sumCon_ok
  · exact ctxI addCon_ok)
/-- Two blocks of numbers that are read. -/
def XI2 (es : List CEntry) (F G : Nat → Int) : Rdr := ⟨fun b off _ => match b with
  | 1 => some [.int .i64 (F off)]
  | 2 => some [.int .i64 (G off)]
  | _ => none, condE oqI es⟩

noncomputable def eqPre : List Code := (itemsAt 22).take 4
noncomputable def eqLoop : Code := loopIn ((itemsAt 22).drop 4)
noncomputable def eqPost : List Code := (itemsAt 22).drop 5
end Go.Abs
