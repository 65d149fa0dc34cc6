/-
  Soundness: one operation; regions in the order of the text. (Helper theorems; each says its own conditions.)
-/
import Derived.Test.YtghcfkgfccmaoaaGreatDoorAbs11

/-! Soundness: one operation; regions in the order of the text. -/
namespace Go.Abs
open Go

def GlobR (gs : Nat → Option Nat) (ρ : Ren) : Prop := ∀ g b, gs g = some b → ρ b = some ⟨g, 0, 0⟩

theorem GlobR.ext {gs : Nat → Option Nat} {ρ ρ' : Ren} (h : GlobR gs ρ) (hx : Ext ρ ρ') : GlobR gs ρ' := fun g b e => hx _ _ (h g b e)

structure TmpR (ρ : Ren) (T : Nat → Option AV) (n : Nat) (a : Act) : Prop where
  val : ∀ i v, T i = some v → ∃ u, a.tmps[i]? = some u ∧ VR ρ v u
  size : a.tmps.size = n
  dfr : a.defers = []

def updT (T : Nat → Option AV) (d : Option Tmp) (v : AV) : Nat → Option AV := match d with
  | none => T
  | some i => fun j => if j = i then some v else T j

theorem TmpR.ext {ρ ρ' : Ren} {T : Nat → Option AV} {n : Nat} {a : Act} (h : TmpR ρ T n a) (hx : Ext ρ ρ') : TmpR ρ' T n a :=
  ⟨fun i v hv => let ⟨u, hu, hr⟩ := h.val i v hv; ⟨u, hu, hr.mono hx⟩, h.size, h.dfr⟩

theorem TmpR.put {ρ : Ren} {T : Nat → Option AV} {n : Nat} {a : Act} (h : TmpR ρ T n a) {d : Option Tmp} (hd : ∀ i, d = some i → i < n) {v : AV} {u : Value} (hv : VR ρ v u) :
    TmpR ρ (updT T d v) n (a.put d u) := by
  cases d with
  | none => exact h
  | some i =>
    have hi := hd i rfl
    refine ⟨fun j x hx => ?_, by simp [Act.put, h.size], h.dfr⟩
    simp only [updT] at hx
    simp only [Act.put]
    split at hx
    · rename_i e; subst e
      injection hx with hx; subst hx
      exact ⟨u, by simp [h.size, hi], hv⟩
    · rename_i e
      rw [Array.getElem?_setIfInBounds_ne (Ne.symm e)]
      exact h.val j x hx

theorem envR {gs : Nat → Option Nat} {ρ : Ren} {T : Nat → Option AV} {n : Nat} {a : Act} (hg : GlobR gs ρ) (ht : TmpR ρ T n a) : EnvR ρ (globF gs T) a.eval := by
  intro x v hx
  cases x with
  | tmp t =>
    obtain ⟨u, hu, hr⟩ := ht.val t v hx
    simp only [Act.eval]
    rw [Array.getD_eq_getD_getElem?, hu]
    exact hr
  | const c => exact ofVA_sound hx ρ
  | global g =>
    simp only [globF] at hx
    split at hx
    · rename_i b hb
      injection hx with hx; subst hx
      exact ⟨_, hg g b hb, rfl⟩
    · cases hx
  | func f =>
    simp only [globF] at hx
    injection hx with hx; subst hx
    exact ⟨[], [], rfl, rfl, rfl⟩

structure Rel (C : Ctx) (ρ : Ren) (s : St) (a : Act) (w : World) : Prop where
  tmp : TmpR ρ s.tmps.get s.n a
  hr : HR ρ s.h w
  gl : GlobR C.gs ρ

/-- Beyond the next number nothing lies. -/
def WF (h : AH) : Prop := ∀ b, h.next ≤ b → h.get b = .dead

/-- From one abstract heap to a later one: what is not told stays. -/
structure Mild (h h' : AH) (l : Log) : Prop where
  next : h.next ≤ h'.next
  wf : WF h → WF h'
  keep : ∀ b, b ∉ l → b < h.next → h'.get b = h.get b

/-- What a call's evaluation vouches for. -/
def CallOK (C : Ctx) (cf : CallF) : Prop := ∀ f args h r, cf f args h = some r →
  (∀ (xs : Array Value) (w : World), (callFunc f xs).run C.P w = .ok (.enter f xs) w) ∧
  Mild h r.h r.log ∧
  ∀ ρ w vs, WF h → GlobR C.gs ρ → HR ρ h w → VRs ρ args vs →
    Calls C.P f vs.toArray w fun e w' => ∃ v ρ', e = .returned v ∧ VR ρ' r.v v ∧ HR ρ' r.h w' ∧ Fr h.next ρ h w ρ' r.h w'

theorem wanted_sound {ops : Array Oper} {T : Nat → Option AV} {o : Oper} {b : Bool} (h : wantedA ops T o = some b) {ρ : Ren} {n : Nat} {a : Act} (ht : TmpR ρ T n a) :
    Region.wanted o (yielded ops a.tmps) = b := by
  unfold wantedA at h
  unfold Region.wanted
  split at h
  · rename_i hg; rw [hg]; injection h
  · rename_i j want hg
    rw [hg]
    simp only
    unfold yielded
    split at h
    · rename_i d hd
      rw [hd]
      simp only [Option.bind_some]
      split at h
      · rename_i c hc
        injection h with h; subst h
        obtain ⟨u, hu, hr⟩ := ht.val d _ hc
        simp only [VR] at hr; subst hr
        rw [hu]; rfl
      · cases h
      · rename_i v hv1 hv2 hv
        injection h with h; subst h
        obtain ⟨u, hu, hr⟩ := ht.val d _ hv
        rw [hu]
        cases v <;> simp only [VR] at hr
        case bool c => exact absurd rfl (hv1 c)
        case junk => exact absurd rfl hv2
        all_goals first
          | (subst hr; rfl)
          | (obtain ⟨_, _, rfl⟩ := hr; rfl)
          | (obtain ⟨_, _, rfl, _⟩ := hr; rfl)
          | (obtain ⟨_, rfl, _⟩ := hr; rfl)
      · cases h
    · rename_i hd
      rw [hd]
      exact Option.some.inj h

end Go.Abs
