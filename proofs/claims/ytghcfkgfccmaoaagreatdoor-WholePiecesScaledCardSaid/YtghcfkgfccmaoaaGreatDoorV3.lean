/-
  Window: contracts as oracles. (Helper theorems; each says its own conditions.)
-/
import Derived.Test.YtghcfkgfccmaoaaGreatDoorV2
/-! Window: contracts as oracles. -/
namespace Go.Abs
open Go Go.Proofs

def intOf : AV → Int
  | .int _ n => n
  | _ => 0

def toI (d : Nat → AV) (n : Nat) : List Int := (readL (.fn d) 0 n).map intOf

theorem toI_length (d : Nat → AV) (n : Nat) : (toI d n).length = n := by simp [toI, readL_length]

theorem toI_ints {l : List Int} {n : Nat} (h : n = l.length) : toI (listFn (ints l)) n = l := by
  unfold toI
  rw [readL_all (by rw [ints_length]; exact h)]
  simp only [ints, List.map_map]
  have : (intOf ∘ AV.int IntKind.i64) = id := by funext x; rfl
  rw [this]; simp

theorem ints_toI {d : Nat → AV} {n : Nat} (h : ∀ i, i < n → d i = .int .i64 (intOf (d i))) : ∀ i, i < n → listFn (ints (toI d n)) i = d i := by
  intro i hi
  have hl : i < (readL (.fn d) 0 n).length := by rw [readL_length]; exact hi
  rw [listFn_ints (by rw [toI_length]; exact hi)]
  have h1 := readL_get (.fn d) n 0 i hi
  rw [h i hi]
  congr 1
  simp only [toI, List.getD_eq_getElem?_getD, List.getElem?_map, h1, Option.map_some, Option.getD_some, Nat.zero_add, Sto.get]

def isInts (d : Nat → AV) (n : Nat) : Prop := ∀ i, i < n → d i = .int .i64 (intOf (d i))

theorem isInts_ints {l : List Int} {n : Nat} (h : n = l.length) : isInts (listFn (ints l)) n := by
  intro i hi
  rw [listFn_ints (by omega)]; rfl

theorem isInts_closed {d : Nat → AV} {n : Nat} (h : isInts d n) : ∀ i, i < n → (d i).closed = true := by
  intro i hi; rw [h i hi]; rfl

/-- What a window must be. -/
def WOk (piece a : Int) (n m k : Nat) (d : Nat → AV) : Prop := m = n ∧ k = n ∧ 1 ≤ n ∧ n ≤ 64 ∧ 1 ≤ piece ∧ (0 ≤ a ∧ a ≤ 1152921504606846976) ∧ isInts d n

theorem WOk.mk {piece a : Int} {n : Nat} {l : List Int} (hn : n = l.length) (h1 : 1 ≤ n ∧ n ≤ 64) (hp : 1 ≤ piece) (ha : 0 ≤ a ∧ a ≤ 1152921504606846976) : WOk piece a n n n (listFn (ints l)) :=
  ⟨rfl, rfl, h1.1, h1.2, hp, ha, isInts_ints hn⟩

theorem WOk.fits {C : Ctx} {g : Nat} {args : List AV} {piece a : Int} {n m k : Nat} {d : Nat → AV} {v : AV} {L : List ABlk} (h : WOk piece a n m k d)
    (hs : Small C g args (hOf [.dead, win piece a n, ring (toI d n) n]) v (hOf L)) : Fits C g args [.dead, .obj 151 3 3 [.int .i64 piece, .int .i64 a, .sl 2 0 n m true] false, .fnc d 3 1 k false] v L := by
  obtain ⟨rfl, rfl, _, _, _, _, hd⟩ := h
  exact ⟨⟨trivial, trivial, isInts_closed hd, trivial⟩, [.dead, win piece a k, ring (toI d k) k], ⟨rfl, rfl, ⟨_, rfl, ints_toI hd⟩, trivial⟩, hs⟩

def reachCon : CCon := fun args bs => match args, bs with
  | [.ptr 1 0, .int .i64 now], [.dead, .obj 151 3 3 [.int .i64 piece, .int .i64 a, .sl 2 0 n m true] false, .fnc d 3 1 k false] =>
    some (WOk piece a n m k d, .tup [], [.dead, win piece (tgt piece a now) n, ring (reachL piece a now (toI d n)) n])
  | _, _ => none

theorem reachCon_ok : (⟨76, false, reachCon⟩ : CEntry).ok (CI []) := by
  intro args bs c v l h hc
  simp only [reachCon] at h
  split at h
  · injection h with h; injection h with h1 h2; injection h2 with h2 h3; subst h1 h2 h3
    obtain ⟨_, _, h1, h2, h3, h4, _⟩ := id hc
    exact WOk.fits hc (reach_small _ _ _ _ _ (toI_length _ _).symm h1 h2 h3 h4)
  · cases h

/-- What comes, within its bounds. -/
def come (n : Int) : Int := min (max n 0) 1099511627776

theorem come_small (n : Int) : Small (CI []) 77 [.int .i64 n] (hOf [.dead]) (.int .i64 (come n)) (hOf [.dead]) := by
  refine Small.of_wcall (C := CI []) (oq := oqI) (X := XN []) (f := 60) fit orcI0 (condI_ok rfl) ?_
  have tree : ∀ K : AV → List ABlk → Prop, wcall (CI []) (XN []) 60 77 [.int .i64 n] (hOf [.dead]) (fun r => fin oqI 1 r.v r.h K) = K (.int .i64 (imin (imax n 0) 1099511627776)) [.dead] := by
    intro K
    kernel_rfl
  rw [show [ABlk.dead].length = 1 from rfl, tree, imin_eq, imax_eq]
  exact ⟨rfl, rfl⟩

def comeCon : CCon := fun args bs => match args, bs with
  | [.int .i64 n], [.dead] => some (True, .int .i64 (come n), [.dead])
  | _, _ => none

theorem comeCon_ok : (⟨77, false, comeCon⟩ : CEntry).ok (CI []) := by
  intro args bs c v l h hc
  simp only [comeCon] at h
  split at h
  · injection h with h; injection h with h1 h2; injection h2 with h2 h3; subst h1 h2 h3
    exact .same ⟨trivial, trivial⟩ (come_small _)
  · cases h

def esW1 : List CEntry := [⟨76, false, reachCon⟩, ⟨77, false, comeCon⟩]

theorem small_ctx' {C C' : Ctx} (hP : C.P = C'.P) (hg : C.gs = C'.gs) {g : Nat} {args : List AV} {h0 : AH} {v : AV} {h1 : AH} (h : Small C g args h0 v h1) : Small C' g args h0 v h1 := by
  obtain ⟨P, gs, o⟩ := C
  obtain ⟨P', gs', o'⟩ := C'
  simp only at hP hg
  subst hP; subst hg
  exact ⟨h.enter, h.calls, h.next, h.news, h.plain⟩

theorem ctxI {es es' : List CEntry} {e : CEntry} (h : e.ok (CI es)) : e.ok (CI es') := by
  intro args bs c v l hr hc
  obtain ⟨h1, bs0, h2, h3⟩ := h args bs c v l hr hc
  exact ⟨h1, bs0, h2, small_ctx' (C := CI es) (C' := CI es') rfl rfl h3⟩

theorem esW1_ok : CallOK (CI esW1) (CI esW1).orc := orcI_ok (fun e he => by
  simp only [esW1, List.mem_cons, List.not_mem_nil, or_false] at he
  rcases he with rfl | rfl
  · exact ctxI reachCon_ok
  · exact ctxI comeCon_ok)

end Go.Abs
