/-
  Gates: many events at once. (Helper theorems; each says its own conditions.)
-/
import Derived.Test.YtkikjebliennbaaGreatDoorG2t
/-! Gates: many events at once. -/
namespace Go.Abs
open Go Go.Proofs

/-- As many as may pass, up to so many: how many; the turn, the time. -/
def manyF (g s x : Int) : Nat → Int → Int → Int × Int × Int
  | 0, t, n => (0, t, n)
  | c + 1, t, n => bif gPass s t n x then
      let r := manyF g s x c (gTurn g s t n x) (gNow n x)
      (r.1 + 1, r.2.1, r.2.2)
    else (0, gTurn g s t n x, gNow n x)

theorem manyF_le (g s x : Int) : ∀ (c : Nat) (t n : Int), 0 ≤ (manyF g s x c t n).1 ∧ (manyF g s x c t n).1 ≤ c
  | 0, t, n => by simp [manyF]
  | c + 1, t, n => by
    simp only [manyF]
    cases gPass s t n x with
    | true =>
      have := manyF_le g s x c (gTurn g s t n x) (gNow n x)
      simp only [cond_true]
      omega
    | false => simp only [cond_false]; omega

theorem many_body : Tryz.f10.body = some (bodyAt 10) := by kernel_rfl
theorem many_tmps : 3 + (Tryz.f10.ntmps - 3) = 21 := by kernel_rfl
theorem many_res : Tryz.f10.results.toList = [.tmp 6] := by kernel_rfl
theorem many_items : flatC (bodyAt 10) [] = manyPre ++ .block 0 (.loop manyLoop) :: manyPost := by kernel_rfl
theorem many_post : manyPost.isEmpty = false := by kernel_rfl

structure SM where
  (i t n : Int)

def manyC (c : Int) : Nat := (min (max c 0) 4096).toNat

set_option maxRecDepth 100000 in
theorem many_small (g s t n x c : Int) : Small (CI esG) 10 [.ptr 1 0, .int .i64 x, .int .i64 c] (hOf [.dead, gate g s t n]) (.int .i64 (manyF g s x (manyC c) t n).1)
    (hOf [.dead, gate g s (manyF g s x (manyC c) t n).2.1 (manyF g s x (manyC c) t n).2.2]) := by
  refine Walk.small (C := CI esG) (oq := oqI) (n := 2) fit Tryz.func10 many_body many_tmps many_items many_res rfl rfl rfl ⟨trivial, trivial, trivial⟩ ?_
  refine Walk.piece (X := XN esG) (N := 21) (f := 60) (ts := [0, 1, 7, 10, 11]) fit esG_ok (condI_ok rfl) (gsI esG 1) ?_
  refine Holds.tree (many_t0 g s t n x c _ _ _) ?_
  have hlim : imin (imax c 0) 4096 = (manyC c : Int) := by rw [imin_eq, imax_eq]; unfold manyC; omega
  have hc : manyC c ≤ 4096 := by unfold manyC; omega
  rw [hlim]
  generalize manyC c = lim at *
  refine ⟨[.dead, gate g s t n], likeL_refl _, ?_⟩
  -- the rest of the rounds, with those that passed
  refine Walk.loop (f := 60) fit esG_ok (fun _ : SM => XN esG) (fun _ => condI_ok rfl) (gsI esG 1) (fun p => [.ptr 1 0, .int .i64 x, .int .i64 p.i, .int .i64 lim, .int .i64 p.i])
    (fun p => [.dead, gate g s p.t p.n]) (fun p => (0 ≤ p.i ∧ p.i ≤ lim) ∧ manyF g s x lim t n = ((manyF g s x (lim - p.i.toNat) p.t p.n).1 + p.i, (manyF g s x (lim - p.i.toNat) p.t p.n).2.1, (manyF g s x (lim - p.i.toNat) p.t p.n).2.2))
    (fun p => lim - p.i.toNat) many_post ?_ ⟨0, t, n⟩ ⟨by simp only; omega, by simp⟩
  rintro ⟨i, t1, n1⟩ ⟨hi, hF⟩
  simp only at hi hF ⊢
  refine Holds.tree (many_t1 g s t1 n1 x i (lim : Int) i _ _ _) ?_
  by_cases hlt : i < lim
  · have c1 : ile (lim : Int) i = false := ile_not hlt
    have c4 : IntKind.i64.wrap (i + 1) = i + 1 := wrap_id (by omega) (by omega)
    have hs : lim - i.toNat = (lim - (i + 1).toNat) + 1 := by omega
    rw [hs] at hF
    simp only [manyF] at hF
    simp only [c1, Bool.not_false, splitB_t, c4, true_and]
    cases hp : gPass s t1 n1 x with
    | true =>
      rw [hp] at hF
      simp only [cond_true] at hF
      simp only [Bool.not_true, splitB_f]
      refine ⟨⟨i + 1, gTurn g s t1 n1 x, gNow n1 x⟩, rfl, likeL_refl _, ⟨by simp only; omega, ?_⟩, by simp only; omega⟩
      simp only
      rw [hF]
      simp only [Prod.mk.injEq, and_self, and_true]
      omega
    | false =>
      rw [hp] at hF
      simp only [cond_false] at hF
      simp only [Bool.not_false, splitB_t]
      refine ⟨[.dead, gate g s (gTurn g s t1 n1 x) (gNow n1 x)], likeL_refl _, ?_⟩
      refine Walk.last (X := XN esG) (f := 60) fit esG_ok (condI_ok rfl) ?_
      refine Holds.tree (many_t2 g s _ _ x i (lim : Int) i _) ?_
      rw [hF]
      exact ⟨by simp, likeL_refl _⟩
  · have c1 : ile (lim : Int) i = true := ile_of (by omega)
    have hs : lim - i.toNat = 0 := by omega
    rw [hs] at hF
    simp only [manyF] at hF
    simp only [c1, Bool.not_true, splitB_f]
    refine ⟨trivial, [.dead, gate g s t1 n1], likeL_refl _, ?_⟩
    refine Walk.last (X := XN esG) (f := 60) fit esG_ok (condI_ok rfl) ?_
    refine Holds.tree (many_t2 g s t1 n1 x i (lim : Int) i _) ?_
    rw [hF]
    exact ⟨by simp, likeL_refl _⟩

def manyCon : CCon := fun args bs => match args, bs with
  | [.ptr 1 0, .int .i64 x, .int .i64 c], [.dead, .obj 150 4 4 [.int .i64 g, .int .i64 s, .int .i64 t, .int .i64 n] false] =>
    some (True, .int .i64 (manyF g s x (manyC c) t n).1, [.dead, gate g s (manyF g s x (manyC c) t n).2.1 (manyF g s x (manyC c) t n).2.2])
  | _, _ => none
theorem manyCon_ok : (⟨10, false, manyCon⟩ : CEntry).ok (CI esG) := by
  intro args bs c v l h hc
  simp only [manyCon] at h
  split at h
  · injection h with h; injection h with h1 h2; injection h2 with h2 h3; subst h1 h2 h3
    exact .same ⟨trivial, trivial, trivial⟩ (many_small ..)
  · cases h

def esL : List CEntry := [⟨8, false, gCon 8⟩, ⟨9, false, gCon 9⟩, ⟨10, false, manyCon⟩, ⟨11, false, gCon 11⟩, ⟨12, false, gCon 12⟩, ⟨13, false, gCon 13⟩, ⟨14, false, gCon 14⟩]
theorem esL_ok : ∀ e ∈ esL, e.ok (CL esL) := by
  intro e he
  simp only [esL, List.mem_cons, List.not_mem_nil, or_false] at he
  rcases he with rfl | rfl | rfl | rfl | rfl | rfl | rfl
  · exact centry_ctx (C := CI esK) (C' := CL esL) rfl rfl (gCon_ok 8)
  · exact centry_ctx (C := CI esK) (C' := CL esL) rfl rfl (gCon_ok 9)
  · exact centry_ctx (C := CI esG) (C' := CL esL) rfl rfl manyCon_ok
  · exact centry_ctx (C := CI esK) (C' := CL esL) rfl rfl (gCon_ok 11)
  · exact centry_ctx (C := CI esK) (C' := CL esL) rfl rfl (gCon_ok 12)
  · exact centry_ctx (C := CI esK) (C' := CL esL) rfl rfl (gCon_ok 13)
  · exact centry_ctx (C := CI esK) (C' := CL esL) rfl rfl (gCon_ok 14)

end Go.Abs
