/-
  Gates: times that stop at the greatest. (Helper theorems; each says its own conditions.)
-/
import Derived.Test.YtkikjebliennbaaGreatDoorK
/-! Gates: times that stop at the greatest. -/
namespace Go.Abs
open Go Go.Proofs
abbrev gate (g s t n : Int) : ABlk := obj 150 4 [.int .i64 g, .int .i64 s, .int .i64 t, .int .i64 n]

/-- The time that a number counts as. -/
def clampK (t : Int) : Int := min (max t (-4611686018427387903)) 4611686018427387903
def addK (a b : Int) : Int := if 4611686018427387903 ≤ a then 4611686018427387903 else clampK (clampK a + clampK b)
def subK (a b : Int) : Int := if 4611686018427387903 ≤ a then 4611686018427387903 else clampK (clampK a - clampK b)

theorem clampK_eq (t : Int) : imin (imax t (-4611686018427387903)) 4611686018427387903 = clampK t := by rw [imin_eq, imax_eq]; rfl
theorem clampK_bd (t : Int) : -4611686018427387903 ≤ clampK t ∧ clampK t ≤ 4611686018427387903 := by unfold clampK; omega

theorem kadd_small (a b : Int) : Small (CI []) 78 [.int .i64 a, .int .i64 b] (hOf [.dead]) (.int .i64 (addK a b)) (hOf [.dead]) := by
  refine Small.of_run (C := CI []) (oq := oqI) (n := 1) (X := XN []) (f := 60) fit orcI0 (condI_ok rfl) rfl rfl rfl ⟨trivial, trivial⟩ ?_
  have tree : ∀ K : AV → List ABlk → Prop, wcall (CI []) (XN []) 60 78 [.int .i64 a, .int .i64 b] (hOf [.dead]) (fun r => fin oqI 1 r.v r.h K) =
      (splitB (ile 4611686018427387903 a) (K (.int .i64 4611686018427387903) [.dead])
        (K (.int .i64 (imin (imax (IntKind.i64.wrap (imin (imax a (-4611686018427387903)) 4611686018427387903 + imin (imax b (-4611686018427387903)) 4611686018427387903)) (-4611686018427387903)) 4611686018427387903)) [.dead])) := by
    intro K
    kernel_rfl
  refine Holds.tree (tree _) ?_
  have h1 := clampK_bd a
  have h2 := clampK_bd b
  rw [clampK_eq a, clampK_eq b, wrap_id (by omega) (by omega), clampK_eq]
  refine splitB_intro (fun h => ?_) (fun h => ?_)
  · refine ⟨?_, likeL_refl _⟩
    unfold addK; rw [if_pos (ile_iff.1 h)]
  · refine ⟨?_, likeL_refl _⟩
    unfold addK; rw [if_neg (fun h3 => by rw [ile_iff.2 h3] at h; cases h)]

theorem ksub_small (a b : Int) : Small (CI []) 95 [.int .i64 a, .int .i64 b] (hOf [.dead]) (.int .i64 (subK a b)) (hOf [.dead]) := by
  refine Small.of_run (C := CI []) (oq := oqI) (n := 1) (X := XN []) (f := 60) fit orcI0 (condI_ok rfl) rfl rfl rfl ⟨trivial, trivial⟩ ?_
  have tree : ∀ K : AV → List ABlk → Prop, wcall (CI []) (XN []) 60 95 [.int .i64 a, .int .i64 b] (hOf [.dead]) (fun r => fin oqI 1 r.v r.h K) =
      (splitB (ile 4611686018427387903 a) (K (.int .i64 4611686018427387903) [.dead])
        (K (.int .i64 (imin (imax (IntKind.i64.wrap (imin (imax a (-4611686018427387903)) 4611686018427387903 - imin (imax b (-4611686018427387903)) 4611686018427387903)) (-4611686018427387903)) 4611686018427387903)) [.dead])) := by
    intro K
    kernel_rfl
  refine Holds.tree (tree _) ?_
  have h1 := clampK_bd a
  have h2 := clampK_bd b
  rw [clampK_eq a, clampK_eq b, wrap_id (by omega) (by omega), clampK_eq]
  refine splitB_intro (fun h => ?_) (fun h => ?_)
  · refine ⟨?_, likeL_refl _⟩
    unfold subK; rw [if_pos (ile_iff.1 h)]
  · refine ⟨?_, likeL_refl _⟩
    unfold subK; rw [if_neg (fun h3 => by rw [ile_iff.2 h3] at h; cases h)]

def kaddCon : CCon := fun args bs => match args, bs with
  | [.int .i64 a, .int .i64 b], [.dead] => some (True, .int .i64 (addK a b), [.dead])
  | _, _ => none
def ksubCon : CCon := fun args bs => match args, bs with
  | [.int .i64 a, .int .i64 b], [.dead] => some (True, .int .i64 (subK a b), [.dead])
  | _, _ => none
theorem kaddCon_ok : (⟨78, false, kaddCon⟩ : CEntry).ok (CI []) := by
  intro args bs c v l h hc
  simp only [kaddCon] at h
  split at h
  · injection h with h; injection h with h1 h2; injection h2 with h2 h3; subst h1 h2 h3
    exact .same ⟨trivial, trivial⟩ (kadd_small _ _)
  · cases h
theorem ksubCon_ok : (⟨95, false, ksubCon⟩ : CEntry).ok (CI []) := by
  intro args bs c v l h hc
  simp only [ksubCon] at h
  split at h
  · injection h with h; injection h with h1 h2; injection h2 with h2 h3; subst h1 h2 h3
    exact .same ⟨trivial, trivial⟩ (ksub_small _ _)
  · cases h

def esK : List CEntry := [⟨78, false, kaddCon⟩, ⟨95, false, ksubCon⟩]
theorem esK_ok : CallOK (CI esK) (CI esK).orc := orcI_ok (fun e he => by
  simp only [esK, List.mem_cons, List.not_mem_nil, or_false] at he
  rcases he with rfl | rfl
  · exact ctxI kaddCon_ok
  · exact ctxI ksubCon_ok)

noncomputable def manyPre : List Code := (itemsAt 10).take 3
noncomputable def manyLoop : Code := loopIn ((itemsAt 10).drop 3)
noncomputable def manyPost : List Code := (itemsAt 10).drop 4
end Go.Abs
