/-
  Window: contracts as oracles, more. (Helper theorems; each says its own conditions.)
-/
import Derived.Test.YtghcfkgfccmaoaaGreatDoorV4
/-! Window: contracts as oracles, more. -/
namespace Go.Abs
open Go Go.Proofs

def partsCon : CCon := fun args bs => match args, bs with
  | [.ptr 1 0, .int .i64 now], [.dead, .obj 151 3 3 [.int .i64 piece, .int .i64 a, .sl 2 0 n m true] false, .fnc d 3 1 k false] =>
    some (WOk piece a n m k d, .sl 3 0 n n false, [.dead, win piece (tgt piece a now) n, ring (reachL piece a now (toI d n)) n, ring (partsL (tgt piece a now) (reachL piece a now (toI d n))) n])
  | _, _ => none

theorem small_es {es es' : List CEntry} {g : Nat} {args : List AV} {h0 : AH} {v : AV} {h1 : AH} (h : Small (CI es) g args h0 v h1) : Small (CI es') g args h0 v h1 :=
  small_ctx' (C := CI es) (C' := CI es') rfl rfl h

theorem partsCon_ok : (⟨30, false, partsCon⟩ : CEntry).ok (CI esW1) := by
  intro args bs c v l h hc
  simp only [partsCon] at h
  split at h
  · injection h with h; injection h with h1 h2; injection h2 with h2 h3; subst h1 h2 h3
    obtain ⟨_, _, h1, h2, h3, h4, _⟩ := id hc
    exact WOk.fits hc (parts_small _ _ _ _ _ (toI_length _ _).symm h1 h2 h3 h4)
  · cases h

def esW2 : List CEntry := [⟨76, false, reachCon⟩, ⟨77, false, comeCon⟩, ⟨30, false, partsCon⟩]
theorem esW2_ok : CallOK (CI esW2) (CI esW2).orc := orcI_ok (fun e he => by
  simp only [esW2, List.mem_cons, List.not_mem_nil, or_false] at he
  rcases he with rfl | rfl | rfl
  · exact ctxI reachCon_ok
  · exact ctxI comeCon_ok
  · exact ctxI partsCon_ok)

noncomputable def sumPre : List Code := (itemsAt 28).take 3
noncomputable def sumLoop : Code := loopIn ((itemsAt 28).drop 3)
noncomputable def sumPost : List Code := (itemsAt 28).drop 4
noncomputable def grePre : List Code := (itemsAt 29).take 3
noncomputable def greLoop : Code := loopIn ((itemsAt 29).drop 3)
noncomputable def grePost : List Code := (itemsAt 29).drop 4
end Go.Abs
