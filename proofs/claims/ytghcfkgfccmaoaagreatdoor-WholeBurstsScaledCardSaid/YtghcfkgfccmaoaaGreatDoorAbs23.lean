/-
  Loops of a law: canonical states, runs up to a loop, from round to round. (Helper theorems; each says its own conditions.)
-/
import Derived.Test.YtghcfkgfccmaoaaGreatDoorAbs22

/-! Loops of a law: canonical states, runs up to a loop, from round to round. -/
namespace Go.Abs
open Go

def getTs (T : Tr AV) : List Nat → Option (List AV)
  | [] => some []
  | t :: ts => match T.get t with
    | some v => match getTs T ts with
      | some vs => some (v :: vs)
      | none => none
    | none => none

def setTs : List Nat → List AV → Tr AV
  | t :: ts, v :: vs => (setTs ts vs).set t v
  | _, _ => .lf

theorem setTs_get {T : Tr AV} {inv sel : Nat → Option Nat} (hi : ∀ b j, inv b = some j → sel j = some b) : ∀ {ts : List Nat} {vs : List AV}, getTs T ts = some vs →
    ∀ i v, (setTs ts (renJs inv vs)).get i = some v → ∃ u, T.get i = some u ∧ CV sel v u
  | [], vs, h, i, v, hv => by
    simp only [getTs] at h; injection h with h; subst h
    simp [setTs, Tr.get_lf] at hv
  | t :: ts, vs, h, i, v, hv => by
    simp only [getTs] at h
    split at h
    · rename_i x hx
      split at h
      · rename_i xs hxs
        injection h with h; subst h
        simp only [renJs, setTs, Tr.get_set] at hv
        split at hv
        · rename_i hit
          injection hv with hv; subst hv hit
          exact ⟨x, hx, renJ_cv hi x⟩
        · exact setTs_get hi hxs i v hv
      · cases h
    · cases h

/-- A canonical state. -/
def stOf (N : Nat) (ts : List Nat) (vs : List AV) (bs : List ABlk) : St := ⟨N, setTs ts vs, hOf bs, []⟩

/-- What a state comes to where only some temporaries count. -/
def finS (oq : Opq) (N n : Nat) (ts : List Nat) (s : St) (K : List AV → List ABlk → Prop) : Prop := match Nat.beq s.n N, getTs s.tmps ts with
  | true, some vs =>
    let ids := reach oq s.h 100 0 (idsVs vs (upTo n 0))
    match distinct ids && sameB 0 (ids.take n) && Nat.ble n ids.length with
    | true => needAll oq s.h ids (K (renJs (posOf ids) vs) (snapL oq (posOf ids) s.h ids))
    | false => False
  | _, _ => False

theorem finS_spec {C : Ctx} {oq : Opq} {N n : Nat} (hg : ∀ g b, C.gs g = some b → b < n) {ts : List Nat} {s : St} {K : List AV → List ABlk → Prop} (h : finS oq N n ts s K) :
    ∃ V L, K V L ∧ Cov C n s (stOf N ts V L) := by
  unfold finS at h
  split at h
  · rename_i vs hN hvs
    have hN := Nat.eq_of_beq_eq_true hN
    simp only at h
    split at h
    · rename_i hb
      simp only [Bool.and_eq_true] at hb
      obtain ⟨⟨h1, h2⟩, h3⟩ := hb
      generalize reach oq s.h 100 0 (idsVs vs (upTo n 0)) = ids at *
      have hlen := Nat.le_of_ble_eq_true h3
      have hi : ∀ b j, posOf ids b = some j → nth ids j = some b := fun b j => posOf_nth
      obtain ⟨h4, h5⟩ := needAll_iff h
      have hsame : ∀ b, b < n → nth ids b = some b := fun b hb => by
        have := sameB_spec h2 b (by rw [List.length_take]; omega)
        rw [nth_take _ _ _ hb, Nat.zero_add] at this; exact this
      refine ⟨_, _, h5, ⟨nth ids, ⟨hsame, fun b b' c hb hb' => distinct_spec h1 b b' c hb hb', fun b hb => ?_, fun b c hb => ?_, hOf_wf _, ?_⟩, fun g b hgb => hsame b (hg g b hgb), hN.symm, setTs_get hi hvs⟩⟩
      · simp only [stOf] at hb
        rw [hOf_next, snapL_length] at hb
        exact nth_none hb
      · simp only [stOf]
        rw [hOf_get, snapL_nth, hb]
        exact asFn_cb (snapC_cb hi (h4 b c hb))
      · simp only [stOf]
        rw [hOf_next, snapL_length]; exact hlen
    · exact h.elim
  · exact h.elim

/-- Where a piece of a function comes to: on with it, out of a block, back with a result. -/
def leaf (oq : Opq) (P : Program) (rs : List ResultVar) (N n : Nat) (ts : List Nat) (KN : List AV → List ABlk → Prop) (KE : Nat → List AV → List ABlk → Prop) (KV : AV → Prop) : AExit → St → Prop := fun x s => match x with
  | .normal => finS oq N n ts s KN
  | .exit id => finS oq N n ts s (KE id)
  | .ret => match resultsA P s.h s.tmps rs with
    | some vs => KV (oneOrTup vs)
    | none => False
  | .goto _ => False

/-- What counts at the end of a function: the result. -/
def Ends (P : Program) (rs : List ResultVar) (V : AV → Prop) : AExit → St → Prop := fun x s => (x = .normal ∨ x = .ret) ∧ ∃ vs, resultsA P s.h s.tmps rs = some vs ∧ V (oneOrTup vs)

end Go.Abs
