/-
  Debounce: contracts. (Helper theorems; each says its own conditions.)
-/
import Derived.Test.YtghcfkgfccmaoaaGreatDoorEvH
import Derived.Test.YtghcfkgfccmaoaaGreatDoorW26
/-! Debounce: contracts. -/
set_option linter.unusedSimpArgs false
namespace Go.Abs
open Go Go.Proofs

noncomputable def C0 : Ctx := ⟨Tryz.prog, gsOf 0, fun _ _ _ => none⟩
abbrev X0 : Rdr := Rdr.none

def bNow (now x : Int) : Int := imax now (imin x 1152921504606846976)
def bEnd (q m fr to : Int) : Int := bif !ile m 0 then imin (IntKind.i64.wrap (to + q)) (IntKind.i64.wrap (fr + m)) else IntKind.i64.wrap (to + q)
def bFires (q m now fr to pk x : Int) : Bool := !(ieq pk 0) && ile (bEnd q m fr to) (bNow now x)

abbrev flt (q m now fr to pk at_ : Int) : List AV := [.int .i64 q, .int .i64 m, .int .i64 now, .int .i64 fr, .int .i64 to, .int .i64 pk, .int .i64 at_]
abbrev Flt (q m now fr to pk at_ : Int) : ABlk := obj 137 7 (flt q m now fr to pk at_)

abbrev burstV (fr to pk at_ : Int) (ok : Bool) : AV := .tup [.agg [.int .i64 fr, .int .i64 to, .int .i64 pk, .int .i64 at_], .bool ok]

theorem none_ok : CallOK C0 C0.orc := fun g args h r hr => by cases hr

theorem pass_small (q m now fr to pk at_ x : Int) : Small C0 10 [.ptr 1 0, .int .i64 x] (hOf [.dead, Flt q m now fr to pk at_])
    (burstV (bif bFires q m now fr to pk x then fr else 0) (bif bFires q m now fr to pk x then to else 0) (bif bFires q m now fr to pk x then pk else 0) (bif bFires q m now fr to pk x then bEnd q m fr to else 0) (bFires q m now fr to pk x))
    (hOf [.dead, Flt q m (bNow now x) (bif bFires q m now fr to pk x then 0 else fr) (bif bFires q m now fr to pk x then 0 else to) (bif bFires q m now fr to pk x then 0 else pk) (bif bFires q m now fr to pk x then 0 else at_)]) := by
  refine Small.of_wcall (oq := noOpq) (X := X0) (f := 60) fit none_ok (Rdr.none_ok _) ?_
  have tree : ∀ K : AV → List ABlk → Prop, wcall C0 X0 60 10 [.ptr 1 0, .int .i64 x] (hOf [.dead, Flt q m now fr to pk at_]) (fun r => fin noOpq 2 r.v r.h K) =
      (splitB (ieq pk 0)
        (K (burstV 0 0 0 0 false) [.dead, Flt q m (bNow now x) fr to pk at_])
        (splitB (!ile m 0)
          (splitB (ile (imin (IntKind.i64.wrap (to + q)) (IntKind.i64.wrap (fr + m))) (bNow now x))
            (K (burstV fr to pk (imin (IntKind.i64.wrap (to + q)) (IntKind.i64.wrap (fr + m))) true) [.dead, Flt q m (bNow now x) 0 0 0 0])
            (K (burstV 0 0 0 0 false) [.dead, Flt q m (bNow now x) fr to pk at_]))
          (splitB (ile (IntKind.i64.wrap (to + q)) (bNow now x))
            (K (burstV fr to pk (IntKind.i64.wrap (to + q)) true) [.dead, Flt q m (bNow now x) 0 0 0 0])
            (K (burstV 0 0 0 0 false) [.dead, Flt q m (bNow now x) fr to pk at_])))) := by
    intro K
    kernel_rfl
  rw [show [ABlk.dead, Flt q m now fr to pk at_].length = 2 from rfl, tree]
  refine splitB_intro (fun h1 => ?_) (fun h1 => splitB_intro (fun h2 => splitB_intro (fun h3 => ?_) (fun h3 => ?_)) (fun h2 => splitB_intro (fun h3 => ?_) (fun h3 => ?_)))
  · simp only [bFires, h1, Bool.not_true, Bool.false_and, cond_false, and_self]
  all_goals simp only [bFires, bEnd, h1, h2, h3, Bool.not_false, Bool.true_and, cond_true, cond_false, and_self]

theorem poke_small (q m now fr to pk at_ x : Int) : Small C0 9 [.ptr 1 0, .int .i64 x] (hOf [.dead, Flt q m now fr to pk at_])
    (burstV (bif bFires q m now fr to pk x then fr else 0) (bif bFires q m now fr to pk x then to else 0) (bif bFires q m now fr to pk x then pk else 0) (bif bFires q m now fr to pk x then bEnd q m fr to else 0) (bFires q m now fr to pk x))
    (hOf [.dead, Flt q m (bNow now x) (bif bFires q m now fr to pk x || ieq pk 0 then bNow now x else fr) (bNow now x) (IntKind.i64.wrap ((bif bFires q m now fr to pk x then 0 else pk) + 1)) (bif bFires q m now fr to pk x then 0 else at_)]) := by
  refine Small.of_wcall (oq := noOpq) (X := X0) (f := 60) fit none_ok (Rdr.none_ok _) ?_
  have tree : ∀ K : AV → List ABlk → Prop, wcall C0 X0 60 9 [.ptr 1 0, .int .i64 x] (hOf [.dead, Flt q m now fr to pk at_]) (fun r => fin noOpq 2 r.v r.h K) =
      (splitB (ieq pk 0)
        (splitB (ieq pk 0)
          (K (burstV 0 0 0 0 false) [.dead, Flt q m (bNow now x) (bNow now x) (bNow now x) (IntKind.i64.wrap (pk + 1)) at_])
          (K (burstV 0 0 0 0 false) [.dead, Flt q m (bNow now x) fr (bNow now x) (IntKind.i64.wrap (pk + 1)) at_]))
        (splitB (!ile m 0)
          (splitB (ile (imin (IntKind.i64.wrap (to + q)) (IntKind.i64.wrap (fr + m))) (bNow now x))
            (K (burstV fr to pk (imin (IntKind.i64.wrap (to + q)) (IntKind.i64.wrap (fr + m))) true) [.dead, Flt q m (bNow now x) (bNow now x) (bNow now x) (IntKind.i64.wrap (0 + 1)) 0])
            (splitB (ieq pk 0)
              (K (burstV 0 0 0 0 false) [.dead, Flt q m (bNow now x) (bNow now x) (bNow now x) (IntKind.i64.wrap (pk + 1)) at_])
              (K (burstV 0 0 0 0 false) [.dead, Flt q m (bNow now x) fr (bNow now x) (IntKind.i64.wrap (pk + 1)) at_])))
          (splitB (ile (IntKind.i64.wrap (to + q)) (bNow now x))
            (K (burstV fr to pk (IntKind.i64.wrap (to + q)) true) [.dead, Flt q m (bNow now x) (bNow now x) (bNow now x) (IntKind.i64.wrap (0 + 1)) 0])
            (splitB (ieq pk 0)
              (K (burstV 0 0 0 0 false) [.dead, Flt q m (bNow now x) (bNow now x) (bNow now x) (IntKind.i64.wrap (pk + 1)) at_])
              (K (burstV 0 0 0 0 false) [.dead, Flt q m (bNow now x) fr (bNow now x) (IntKind.i64.wrap (pk + 1)) at_]))))) := by
    intro K
    kernel_rfl
  rw [show [ABlk.dead, Flt q m now fr to pk at_].length = 2 from rfl, tree]
  refine splitB_intro (fun h1 => splitB_intro (fun h4 => ?_) (fun h4 => ?_)) (fun h1 => splitB_intro (fun h2 => splitB_intro (fun h3 => ?_) (fun h3 => splitB_intro (fun h4 => ?_) (fun h4 => ?_))) (fun h2 => splitB_intro (fun h3 => ?_) (fun h3 => splitB_intro (fun h4 => ?_) (fun h4 => ?_))))
  all_goals first
    | (rw [h1] at h4; cases h4; done)
    | simp only [bFires, bEnd, h1, h2, h3, h4, Bool.not_false, Bool.not_true, Bool.true_and, Bool.false_and, Bool.or_false, Bool.false_or, Bool.true_or, Bool.or_true, cond_true, cond_false, and_self]
    | simp only [bFires, bEnd, h1, h2, h3, Bool.not_false, Bool.not_true, Bool.true_and, Bool.false_and, Bool.or_false, Bool.false_or, Bool.true_or, Bool.or_true, cond_true, cond_false, and_self]
    | simp only [bFires, bEnd, h1, Bool.not_false, Bool.not_true, Bool.true_and, Bool.false_and, Bool.or_false, Bool.false_or, Bool.true_or, Bool.or_true, cond_true, cond_false, and_self]

theorem next_small (q m now fr to pk at_ : Int) : Small C0 12 [.ptr 1 0] (hOf [.dead, Flt q m now fr to pk at_])
    (.tup [.int .i64 (bif ieq pk 0 then 0 else bEnd q m fr to), .bool (!ieq pk 0)]) (hOf [.dead, Flt q m now fr to pk at_]) := by
  refine Small.of_wcall (oq := noOpq) (X := X0) (f := 60) fit none_ok (Rdr.none_ok _) ?_
  have tree : ∀ K : AV → List ABlk → Prop, wcall C0 X0 60 12 [.ptr 1 0] (hOf [.dead, Flt q m now fr to pk at_]) (fun r => fin noOpq 2 r.v r.h K) =
      (splitB (ieq pk 0)
        (K (.tup [.int .i64 0, .bool false]) [.dead, Flt q m now fr to pk at_])
        (splitB (!ile m 0)
          (K (.tup [.int .i64 (imin (IntKind.i64.wrap (to + q)) (IntKind.i64.wrap (fr + m))), .bool true]) [.dead, Flt q m now fr to pk at_])
          (K (.tup [.int .i64 (IntKind.i64.wrap (to + q)), .bool true]) [.dead, Flt q m now fr to pk at_]))) := by
    intro K
    kernel_rfl
  rw [show [ABlk.dead, Flt q m now fr to pk at_].length = 2 from rfl, tree]
  refine splitB_intro (fun h1 => ?_) (fun h1 => splitB_intro (fun h2 => ?_) (fun h2 => ?_))
  · simp only [h1, Bool.not_true, cond_true, and_self]
  all_goals simp only [bEnd, h1, h2, Bool.not_false, cond_true, cond_false, and_self]

theorem count_small (q m now fr to pk at_ : Int) : Small C0 13 [.ptr 1 0] (hOf [.dead, Flt q m now fr to pk at_])
    (.int .i64 pk) (hOf [.dead, Flt q m now fr to pk at_]) := by
  refine Small.of_wcall (oq := noOpq) (X := X0) (f := 60) fit none_ok (Rdr.none_ok _) ?_
  have tree : ∀ K : AV → List ABlk → Prop, wcall C0 X0 60 13 [.ptr 1 0] (hOf [.dead, Flt q m now fr to pk at_]) (fun r => fin noOpq 2 r.v r.h K) =
      K (.int .i64 pk) [.dead, Flt q m now fr to pk at_] := by
    intro K
    kernel_rfl
  rw [show [ABlk.dead, Flt q m now fr to pk at_].length = 2 from rfl, tree]
  exact ⟨rfl, rfl⟩

theorem flush_small (q m now fr to pk at_ : Int) : Small C0 11 [.ptr 1 0] (hOf [.dead, Flt q m now fr to pk at_])
    (burstV (bif ieq pk 0 then 0 else fr) (bif ieq pk 0 then 0 else to) (bif ieq pk 0 then 0 else pk) (bif ieq pk 0 then 0 else now) (!ieq pk 0))
    (hOf [.dead, Flt q m now (bif ieq pk 0 then fr else 0) (bif ieq pk 0 then to else 0) (bif ieq pk 0 then pk else 0) (bif ieq pk 0 then at_ else 0)]) := by
  refine Small.of_wcall (oq := noOpq) (X := X0) (f := 60) fit none_ok (Rdr.none_ok _) ?_
  have tree : ∀ K : AV → List ABlk → Prop, wcall C0 X0 60 11 [.ptr 1 0] (hOf [.dead, Flt q m now fr to pk at_]) (fun r => fin noOpq 2 r.v r.h K) =
      (splitB (ieq pk 0)
        (K (burstV 0 0 0 0 false) [.dead, Flt q m now fr to pk at_])
        (K (burstV fr to pk now true) [.dead, Flt q m now 0 0 0 0])) := by
    intro K
    kernel_rfl
  rw [show [ABlk.dead, Flt q m now fr to pk at_].length = 2 from rfl, tree]
  refine splitB_intro (fun h1 => ?_) (fun h1 => ?_)
  all_goals simp only [h1, Bool.not_true, Bool.not_false, cond_true, cond_false, and_self]

/-- The contracts as the law's evaluation asks for them. -/
def bCon (g : Nat) : Con := fun args bs => match args, bs with
  | [.ptr 1 0, .int .i64 x], [.dead, .obj 137 7 7 [.int .i64 q, .int .i64 m, .int .i64 now, .int .i64 fr, .int .i64 to, .int .i64 pk, .int .i64 at_] false] => match g with
    | 9 => some (burstV (bif bFires q m now fr to pk x then fr else 0) (bif bFires q m now fr to pk x then to else 0) (bif bFires q m now fr to pk x then pk else 0) (bif bFires q m now fr to pk x then bEnd q m fr to else 0) (bFires q m now fr to pk x),
      [.dead, Flt q m (bNow now x) (bif bFires q m now fr to pk x || ieq pk 0 then bNow now x else fr) (bNow now x) (IntKind.i64.wrap ((bif bFires q m now fr to pk x then 0 else pk) + 1)) (bif bFires q m now fr to pk x then 0 else at_)])
    | 10 => some (burstV (bif bFires q m now fr to pk x then fr else 0) (bif bFires q m now fr to pk x then to else 0) (bif bFires q m now fr to pk x then pk else 0) (bif bFires q m now fr to pk x then bEnd q m fr to else 0) (bFires q m now fr to pk x),
      [.dead, Flt q m (bNow now x) (bif bFires q m now fr to pk x then 0 else fr) (bif bFires q m now fr to pk x then 0 else to) (bif bFires q m now fr to pk x then 0 else pk) (bif bFires q m now fr to pk x then 0 else at_)])
    | _ => none
  | [.ptr 1 0], [.dead, .obj 137 7 7 [.int .i64 q, .int .i64 m, .int .i64 now, .int .i64 fr, .int .i64 to, .int .i64 pk, .int .i64 at_] false] => match g with
    | 12 => some (.tup [.int .i64 (bif ieq pk 0 then 0 else bEnd q m fr to), .bool (!ieq pk 0)], [.dead, Flt q m now fr to pk at_])
    | 13 => some (.int .i64 pk, [.dead, Flt q m now fr to pk at_])
    | 11 => some (burstV (bif ieq pk 0 then 0 else fr) (bif ieq pk 0 then 0 else to) (bif ieq pk 0 then 0 else pk) (bif ieq pk 0 then 0 else now) (!ieq pk 0),
      [.dead, Flt q m now (bif ieq pk 0 then fr else 0) (bif ieq pk 0 then to else 0) (bif ieq pk 0 then pk else 0) (bif ieq pk 0 then at_ else 0)])
    | _ => none
  | _, _ => none

theorem bCon_ok (g : Nat) : (⟨g, false, bCon g⟩ : Entry).ok C0 := by
  intro args bs v l h
  simp only [bCon] at h
  split at h
  · split at h
    · injection h with h; injection h with h1 h2; subst h1 h2; exact .same ⟨trivial, trivial, trivial⟩ (poke_small ..)
    · injection h with h; injection h with h1 h2; subst h1 h2; exact .same ⟨trivial, trivial, trivial⟩ (pass_small ..)
    · cases h
  · split at h
    · injection h with h; injection h with h1 h2; subst h1 h2; exact .same ⟨trivial, trivial, trivial⟩ (next_small ..)
    · injection h with h; injection h with h1 h2; subst h1 h2; exact .same ⟨trivial, trivial, trivial⟩ (count_small ..)
    · injection h with h; injection h with h1 h2; subst h1 h2; exact .same ⟨trivial, trivial, trivial⟩ (flush_small ..)
    · cases h
  · cases h

def bGood (q m : Int) : Prop := 1 ≤ q ∧ q ≤ 1099511627776 ∧ (m = 0 ∨ q ≤ m ∧ m ≤ 1125899906842624)

theorem new_small (q m : Int) (h : bGood q m) : Small C0 8 [.int .i64 q, .int .i64 m] (hOf [.dead]) (.ptr 1 0) (hOf [.dead, Flt q m 0 0 0 0 0]) := by
  refine Small.of_wcall (oq := noOpq) (X := X0) (f := 60) fit none_ok (Rdr.none_ok _) ?_
  have tree : ∀ K : AV → List ABlk → Prop, wcall C0 X0 60 8 [.int .i64 q, .int .i64 m] (hOf [.dead]) (fun r => fin noOpq 1 r.v r.h K) =
      (splitB (!ile 1 q)
        (K .nilp [.dead])
        (splitB (!ile q 1099511627776)
          (K .nilp [.dead])
          (splitB (!ieq m 0)
            (splitB (!ile q m)
              (K .nilp [.dead])
              (splitB (!ile m 1125899906842624)
                (K .nilp [.dead])
                (K (.ptr 1 0) [.dead, Flt q m 0 0 0 0 0])))
            (K (.ptr 1 0) [.dead, Flt q m 0 0 0 0 0])))) := by
    intro K
    kernel_rfl
  rw [show [ABlk.dead].length = 1 from rfl, tree]
  obtain ⟨h1, h2, h3⟩ := h
  have e1 : ile 1 q = true := ile_iff.2 h1
  have e2 : ile q 1099511627776 = true := ile_iff.2 h2
  refine splitB_intro (fun h => by rw [e1] at h; cases h) (fun _ => splitB_intro (fun h => by rw [e2] at h; cases h) (fun _ => splitB_intro (fun h4 => ?_) (fun _ => ⟨rfl, rfl⟩)))
  have hm : m ≠ 0 := by
    intro hm
    rw [hm] at h4
    exact absurd h4 (by decide)
  rcases h3 with h3 | ⟨h3, h5⟩
  · exact absurd h3 hm
  · have e3 : ile q m = true := ile_iff.2 h3
    have e4 : ile m 1125899906842624 = true := ile_iff.2 h5
    exact splitB_intro (fun h => by rw [e3] at h; cases h) (fun _ => splitB_intro (fun h => by rw [e4] at h; cases h) (fun _ => ⟨rfl, rfl⟩))

def newCon : CCon := fun args bs => match args, bs with
  | [.int .i64 q, .int .i64 m], [.dead] => some (bGood q m, .ptr 1 0, [.dead, Flt q m 0 0 0 0 0])
  | _, _ => none

theorem newCon_ok : (⟨8, false, newCon⟩ : CEntry).ok C0 := by
  intro args bs c v l h hc
  simp only [newCon] at h
  split at h
  · injection h with h; injection h with h1 h2; injection h2 with h2 h3; subst h1 h2 h3
    exact .same ⟨trivial, trivial⟩ (new_small _ _ hc)
  · cases h

end Go.Abs
