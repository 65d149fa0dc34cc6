/-
  Gates: contracts of single events. (Helper theorems; each says its own conditions.)
-/
import Derived.Test.YtkikjebliennbaaGreatDoorG1
/-! Gates: contracts of single events. -/
namespace Go.Abs
open Go Go.Proofs

def gNow (n x : Int) : Int := max n (clampK x)
def gEarly (s t n : Int) : Int := max (subK (subK t s) n) 0
/-- May one pass? -/
def gPass (s t n x : Int) : Bool := ile (gEarly s t (gNow n x)) 0
def gTurn (g s t n x : Int) : Int := bif gPass s t n x then addK (max t (gNow n x)) g else t

theorem pass_small (g s t n x : Int) : Small (CI esK) 9 [.ptr 1 0, .int .i64 x] (hOf [.dead, gate g s t n]) (.bool (gPass s t n x)) (hOf [.dead, gate g s (gTurn g s t n x) (gNow n x)]) := by
  refine Small.of_run (C := CI esK) (oq := oqI) (n := 2) (X := XN esK) (f := 60) fit esK_ok (condI_ok rfl) rfl rfl rfl ⟨trivial, trivial, trivial⟩ ?_
  have tree : ∀ K : AV → List ABlk → Prop, wcall (CI esK) (XN esK) 60 9 [.ptr 1 0, .int .i64 x] (hOf [.dead, gate g s t n]) (fun r => fin oqI 2 r.v r.h K) =
      (And True (And True
        (splitB (!ile (imax (subK (subK t s) (imax n (imin (imax x (-4611686018427387903)) 4611686018427387903))) 0) 0)
          (K (.bool false) [.dead, gate g s t (imax n (imin (imax x (-4611686018427387903)) 4611686018427387903))])
          (And True (K (.bool true) [.dead, gate g s (addK (imax t (imax n (imin (imax x (-4611686018427387903)) 4611686018427387903))) g) (imax n (imin (imax x (-4611686018427387903)) 4611686018427387903))]))))) := by
    intro K
    kernel_rfl
  refine Holds.tree (tree _) ?_
  rw [clampK_eq, imax_eq, imax_eq, imax_eq]
  refine ⟨trivial, trivial, splitB_intro (fun h => ?_) (fun h => ⟨trivial, ?_⟩)⟩
  · have e : gPass s t n x = false := by unfold gPass gEarly gNow; simpa using h
    unfold gTurn
    rw [e]; exact ⟨rfl, likeL_refl _⟩
  · have e : gPass s t n x = true := by unfold gPass gEarly gNow; simpa using h
    unfold gTurn
    rw [e]; exact ⟨rfl, likeL_refl _⟩

theorem wait_small (g s t n x : Int) : Small (CI esK) 12 [.ptr 1 0, .int .i64 x] (hOf [.dead, gate g s t n]) (.int .i64 (gEarly s t (gNow n x))) (hOf [.dead, gate g s t (gNow n x)]) := by
  refine Small.of_run (C := CI esK) (oq := oqI) (n := 2) (X := XN esK) (f := 60) fit esK_ok (condI_ok rfl) rfl rfl rfl ⟨trivial, trivial, trivial⟩ ?_
  have tree : ∀ K : AV → List ABlk → Prop, wcall (CI esK) (XN esK) 60 12 [.ptr 1 0, .int .i64 x] (hOf [.dead, gate g s t n]) (fun r => fin oqI 2 r.v r.h K) =
      (And True (And True (K (.int .i64 (imax (subK (subK t s) (imax n (imin (imax x (-4611686018427387903)) 4611686018427387903))) 0)) [.dead, gate g s t (imax n (imin (imax x (-4611686018427387903)) 4611686018427387903))]))) := by
    intro K
    kernel_rfl
  refine Holds.tree (tree _) ?_
  rw [clampK_eq, imax_eq, imax_eq]
  exact ⟨trivial, trivial, rfl, likeL_refl _⟩

theorem reset_small (g s t n : Int) : Small (CI esK) 11 [.ptr 1 0] (hOf [.dead, gate g s t n]) (.tup []) (hOf [.dead, gate g s 0 (-4611686018427387903)]) := by
  refine Small.of_run (C := CI esK) (oq := oqI) (n := 2) (X := XN esK) (f := 60) fit esK_ok (condI_ok rfl) rfl rfl rfl ⟨trivial, trivial, trivial⟩ ?_
  have tree : ∀ K : AV → List ABlk → Prop, wcall (CI esK) (XN esK) 60 11 [.ptr 1 0] (hOf [.dead, gate g s t n]) (fun r => fin oqI 2 r.v r.h K) = K (.tup []) [.dead, gate g s 0 (-4611686018427387903)] := by
    intro K
    kernel_rfl
  exact Holds.tree (tree _) ⟨rfl, likeL_refl _⟩

theorem turn_small (g s t n : Int) : Small (CI esK) 13 [.ptr 1 0] (hOf [.dead, gate g s t n]) (.int .i64 t) (hOf [.dead, gate g s t n]) := by
  refine Small.of_run (C := CI esK) (oq := oqI) (n := 2) (X := XN esK) (f := 60) fit esK_ok (condI_ok rfl) rfl rfl rfl ⟨trivial, trivial, trivial⟩ ?_
  have tree : ∀ K : AV → List ABlk → Prop, wcall (CI esK) (XN esK) 60 13 [.ptr 1 0] (hOf [.dead, gate g s t n]) (fun r => fin oqI 2 r.v r.h K) = K (.int .i64 t) [.dead, gate g s t n] := by
    intro K
    kernel_rfl
  exact Holds.tree (tree _) ⟨rfl, likeL_refl _⟩

theorem burst_small (g s t n : Int) (hg : g ≠ 0) : Small (CI esK) 14 [.ptr 1 0] (hOf [.dead, gate g s t n]) (.int .i64 (IntKind.i64.wrap (IntKind.i64.wrap (s.tdiv g) + 1))) (hOf [.dead, gate g s t n]) := by
  refine Small.of_run (C := CI esK) (oq := oqI) (n := 2) (X := XN esK) (f := 60) fit esK_ok (condI_ok rfl) rfl rfl rfl ⟨trivial, trivial, trivial⟩ ?_
  have tree : ∀ K : AV → List ABlk → Prop, wcall (CI esK) (XN esK) 60 14 [.ptr 1 0] (hOf [.dead, gate g s t n]) (fun r => fin oqI 2 r.v r.h K) =
      splitB (ieq g 0) False (K (.int .i64 (IntKind.i64.wrap (IntKind.i64.wrap (s.tdiv g) + 1))) [.dead, gate g s t n]) := by
    intro K
    kernel_rfl
  refine Holds.tree (tree _) ?_
  rw [ieq_ne hg, splitB_f]
  exact ⟨rfl, likeL_refl _⟩

def gGood (g s : Int) : Prop := 1 ≤ g ∧ g ≤ 1099511627776 ∧ 0 ≤ s ∧ s ≤ 1125899906842624

theorem gnew_small (g s : Int) (h : gGood g s) : Small (CI []) 8 [.int .i64 g, .int .i64 s] (hOf [.dead]) (.ptr 1 0) (hOf [.dead, gate g s 0 (-4611686018427387903)]) := by
  refine Small.of_run (C := CI []) (oq := oqI) (n := 1) (X := XN []) (f := 60) fit orcI0 (condI_ok rfl) rfl rfl rfl ⟨trivial, trivial, trivial⟩ ?_
  have tree : ∀ K : AV → List ABlk → Prop, wcall (CI []) (XN []) 60 8 [.int .i64 g, .int .i64 s] (hOf [.dead]) (fun r => fin oqI 1 r.v r.h K) =
      (splitB (!ile 1 g) (K .nilp [.dead]) (splitB (!ile g 1099511627776) (K .nilp [.dead]) (splitB (!ile 0 s) (K .nilp [.dead]) (splitB (!ile s 1125899906842624) (K .nilp [.dead])
        (K (.ptr 1 0) [.dead, gate g s 0 (-4611686018427387903)]))))) := by
    intro K
    kernel_rfl
  refine Holds.tree (tree _) ?_
  obtain ⟨h1, h2, h3, h4⟩ := h
  simp only [ile_of h1, ile_of h2, ile_of h3, ile_of h4, Bool.not_true, splitB_f]
  exact ⟨trivial, likeL_refl _⟩

/-- The contracts as they are asked for. -/
def gCon (f : Nat) : CCon := fun args bs => match args, bs with
  | [.ptr 1 0, .int .i64 x], [.dead, .obj 150 4 4 [.int .i64 g, .int .i64 s, .int .i64 t, .int .i64 n] false] => match f with
    | 9 => some (True, .bool (gPass s t n x), [.dead, gate g s (gTurn g s t n x) (gNow n x)])
    | 12 => some (True, .int .i64 (gEarly s t (gNow n x)), [.dead, gate g s t (gNow n x)])
    | _ => none
  | [.ptr 1 0], [.dead, .obj 150 4 4 [.int .i64 g, .int .i64 s, .int .i64 t, .int .i64 n] false] => match f with
    | 11 => some (True, .tup [], [.dead, gate g s 0 (-4611686018427387903)])
    | 13 => some (True, .int .i64 t, [.dead, gate g s t n])
    | 14 => some (g ≠ 0, .int .i64 (IntKind.i64.wrap (IntKind.i64.wrap (s.tdiv g) + 1)), [.dead, gate g s t n])
    | _ => none
  | [.int .i64 g, .int .i64 s], [.dead] => match f with
    | 8 => some (gGood g s, .ptr 1 0, [.dead, gate g s 0 (-4611686018427387903)])
    | _ => none
  | _, _ => none

theorem gCon_ok (f : Nat) : (⟨f, false, gCon f⟩ : CEntry).ok (CI esK) := by
  intro args bs c v l h hc
  simp only [gCon] at h
  split at h
  · split at h
    · injection h with h; injection h with h1 h2; injection h2 with h2 h3; subst h1 h2 h3; exact .same ⟨trivial, trivial, trivial⟩ (pass_small ..)
    · injection h with h; injection h with h1 h2; injection h2 with h2 h3; subst h1 h2 h3; exact .same ⟨trivial, trivial, trivial⟩ (wait_small ..)
    · cases h
  · split at h
    · injection h with h; injection h with h1 h2; injection h2 with h2 h3; subst h1 h2 h3; exact .same ⟨trivial, trivial, trivial⟩ (reset_small ..)
    · injection h with h; injection h with h1 h2; injection h2 with h2 h3; subst h1 h2 h3; exact .same ⟨trivial, trivial, trivial⟩ (turn_small ..)
    · injection h with h; injection h with h1 h2; injection h2 with h2 h3; subst h1 h2 h3; exact .same ⟨trivial, trivial, trivial⟩ (burst_small _ _ _ _ hc)
    · cases h
  · split at h
    · injection h with h; injection h with h1 h2; injection h2 with h2 h3; subst h1 h2 h3
      exact .same ⟨trivial, trivial⟩ (small_ctx (C := CI []) (C' := CI esK) rfl rfl (gnew_small _ _ hc))
    · cases h
  · cases h

def esG : List CEntry := [⟨9, false, gCon 9⟩]
theorem esG_ok : CallOK (CI esG) (CI esG).orc := orcI_ok (fun e he => by
  simp only [esG, List.mem_cons, List.not_mem_nil, or_false] at he
  rcases he with rfl
  exact ctxI (gCon_ok 9))
end Go.Abs
