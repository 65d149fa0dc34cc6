/-
  Functions with loops: contracts from pieces. (Helper theorems; each says its own conditions.)
-/
import Derived.Test.YtghcfkgfccmaoaaGreatDoorAbs24

/-! Functions with loops: contracts from pieces. -/
namespace Go.Abs
open Go

/-- The end of a function: the value, and the blocks that are reached. -/
def EndsF (oq : Opq) (P : Program) (rs : List ResultVar) (m : Nat) (K : AV → List ABlk → Prop) : AExit → St → Prop := fun x s => match x with
  | .normal | .ret => match resultsA P s.h s.tmps rs with
    | some vs => fin oq m (oneOrTup vs) s.h K
    | none => False
  | _ => False

/-- Where a piece of a function comes to: on with it, out of a block, back with a result. -/
def leafF (oq : Opq) (P : Program) (rs : List ResultVar) (N n m : Nat) (ts : List Nat) (KN : List AV → List ABlk → Prop) (KE : Nat → List AV → List ABlk → Prop) (KF : AV → List ABlk → Prop) : AExit → St → Prop := fun x s => match x with
  | .normal => finS oq N n ts s KN
  | .exit id => finS oq N n ts s (KE id)
  | .ret => match resultsA P s.h s.tmps rs with
    | some vs => fin oq m (oneOrTup vs) s.h KF
    | none => False
  | .goto _ => False

theorem fin_mono {oq : Opq} {n : Nat} {v : AV} {h : AH} {K K' : AV → List ABlk → Prop} (hf : fin oq n v h K) (hk : ∀ V L, K V L → K' V L) : fin oq n v h K' := by
  have key : ∀ (l : List Nat) (p q : Prop), (p → q) → needAll oq h l p → needAll oq h l q := by
    intro l
    induction l with
    | nil => exact fun p q hpq hp => hpq hp
    | cons b bs ih =>
      intro p q hpq hp
      have : ∀ (B : ABlk) (p q : Prop), (p → q) → needs B p → needs B q := by
        intro B p q hpq hp
        cases B with
        | dead => exact hpq hp
        | map es => exact hpq hp
        | cells c =>
          unfold needs at *
          simp only at *
          cases hs : c.sto with
          | tr t d => rw [hs] at hp; exact hpq hp
          | fn d => rw [hs] at hp; exact ⟨hp.1, hpq hp.2⟩
      exact this _ _ _ (ih p q hpq) hp
  unfold fin at *
  simp only at *
  split at hf
  · rename_i hb
    exact key _ _ _ (hk _ _) hf
  · exact hf.elim

section
variable {C : Ctx} {n : Nat}

theorem enter_of (hfit : Fit C.P) {g : Nat} {fn : Func} {c : Code} (hf : C.P.funcs[g]? = some fn) (hb : fn.body = some c) (xs : Array Value) (w : World) : (callFunc g xs).run C.P w = .ok (.enter g xs) w := by
  have hn := hfit.named g fn hf (by rw [hb]; simp)
  simp only [callFunc, Sem.run_bind, run_program, Result.andThen_ok, hf, hn, hb, Option.isNone_some, Bool.false_eq_true, if_false, Sem.run_pure]

def plains : List ABlk → Prop
  | [] => True
  | B :: Bs => plainB B ∧ plains Bs

theorem plains_nth : ∀ {l : List ABlk}, plains l → ∀ j b, nth l j = some b → plainB b
  | [], _, j, b, h => by simp [nth] at h
  | x :: xs, hp, j, b, h => by
    cases j with
    | zero =>
      have : x = b := by simpa [nth] using h
      rw [← this]; exact hp.1
    | succ j => exact plains_nth hp.2 j b (by simpa [nth] using h)

/-- A contract from the pieces of a body. -/
theorem Small.of_flat (hfit : Fit C.P) {oq : Opq} {g : Nat} {fn : Func} {c : Code} (hf : C.P.funcs[g]? = some fn) (hb : fn.body = some c) {args : List AV} {bs : List ABlk} {V : AV} {L : List ABlk}
    (hle : Nat.ble bs.length L.length = true) (hrw : allRw (L.drop bs.length) = true) (hpl : plains L) (h : AWL C bs.length (flatC c []) ⟨args.length + (fn.ntmps - args.length), argsT args 0 .lf, hOf bs, []⟩ (EndsF oq C.P fn.results.toList bs.length fun v l => v = V ∧ l = L)) : Small C g args (hOf bs) V (hOf L) := by
  have haw := AW.of_flat h
  -- what the end shows
  have ends : ∀ x s, EndsF oq C.P fn.results.toList bs.length (fun v l => v = V ∧ l = L) x s → (x = .normal ∨ x = .ret) ∧ ∃ vs, resultsA C.P s.h s.tmps fn.results.toList = some vs ∧ fin oq bs.length (oneOrTup vs) s.h fun v l => v = V ∧ l = L := by
    intro x s hx
    unfold EndsF at hx
    cases x with
    | normal =>
      simp only at hx
      split at hx
      · rename_i vs hvs; exact ⟨.inl rfl, vs, hvs, hx⟩
      · exact hx.elim
    | ret =>
      simp only at hx
      split at hx
      · rename_i vs hvs; exact ⟨.inr rfl, vs, hvs, hx⟩
      · exact hx.elim
    | exit id => exact hx.elim
    | goto l => exact hx.elim
  refine ⟨enter_of hfit hf hb, fun ρ w vs hg hr hvs => ?_, ?_, fun j hj hlt => ?_, plain_hOf (plains_nth hpl)⟩
  · refine calls_of_wp hf hb ?_
    have hlen := hvs.length
    have hsz : vs.toArray.size = args.length := by simp [hlen]
    rw [hsz]
    refine haw ρ _ w _ (by rw [hOf_next]; exact Nat.le_refl _) (hOf_wf bs) ⟨args_rel hvs _, hr, hg⟩ fun x s' ρ' a' w' hK hn' hwf' hrel' hf' => ?_
    have hK' : EndsF oq C.P fn.results.toList bs.length (fun v l => v = V ∧ l = L) x s' := by
      cases x <;> exact hK
    obtain ⟨hx, rs, hrs, hfin⟩ := ends x s' hK'
    obtain ⟨v, l, ⟨rfl, rfl⟩, hpl', sel, hc, hcv, hnew⟩ := fin_spec hfin
    obtain ⟨u, hu1, hu2⟩ := results_sound (P := C.P) hrel'.hr hrel'.tmp.val hrs
    have hgood : ∃ u' ρ', Ending.returned u = .returned u' ∧ VR ρ' v u' ∧ HR ρ' (hOf l) w' ∧ Fk (hOf bs).next ρ (hOf bs) w ρ' (hOf l) w' := by
      refine ⟨u, under sel ρ', rfl, CV.vr _ _ _ hcv hu2, hc.hr hrel'.hr, ?_⟩
      rw [hOf_next]
      exact hc.fk' hf'
    rcases hx with rfl | rfl
    · exact ⟨hrel'.tmp.dfr, u, hu1, hgood⟩
    · exact ⟨hrel'.tmp.dfr, u, hu1, hgood⟩
  · rw [hOf_next, hOf_next]; exact Nat.le_of_ble_eq_true hle
  · rw [hOf_next] at hj hlt
    rw [hOf_get]
    obtain ⟨x, hx⟩ := nth_some (l := L) (j := j) hlt
    rw [hx]
    refine allRw_spec hrw (j - bs.length) _ ?_
    rw [nth_drop, show bs.length + (j - bs.length) = j by omega, hx]

/-- A piece, up to a canonical state. -/
theorem AWL.piece (hfit : Fit C.P) (horc : CallOK C C.orc) {X : Rdr} (hX : X.ok C) (hg : ∀ g b, C.gs g = some b → b < n) {oq : Opq} {N m f : Nat} {rs : List ResultVar} {ts : List Nat} (k : Nat) {cs : List Code} {s : St}
    {K : AV → List ABlk → Prop} (hne : cs.drop k ≠ [])
    (h : wexecL C X f (cs.take k) s (leafF oq C.P rs N n m ts (fun V L => AWL C n (cs.drop k) (stOf N ts V L) (EndsF oq C.P rs m K)) (fun _ _ _ => False) K)) : AWL C n cs s (EndsF oq C.P rs m K) := by
  refine AWL.split k (AWL.mono (AWL.exec hfit horc hX h) fun x s1 hx => ?_)
  cases x with
  | normal =>
    obtain ⟨V, L, hk, hcov⟩ := finS_spec hg (K := fun V L => AWL C n (cs.drop k) (stOf N ts V L) (EndsF oq C.P rs m K)) hx
    exact AWL.cov hne hcov hk
  | exit id =>
    obtain ⟨V, L, hk, _⟩ := finS_spec hg (K := fun _ _ => False) hx
    exact hk.elim
  | goto l => exact hx.elim
  | ret => exact hx

/-- The last piece. -/
theorem AWL.last (hfit : Fit C.P) (horc : CallOK C C.orc) {X : Rdr} (hX : X.ok C) {oq : Opq} {m f : Nat} {rs : List ResultVar} {cs : List Code} {s : St}
    {K : AV → List ABlk → Prop} (h : wexecL C X f cs s (EndsF oq C.P rs m K)) : AWL C n cs s (EndsF oq C.P rs m K) := AWL.exec hfit horc hX h

/-- A loop in its block: from a canonical state, by an invariant and a measure. -/
theorem AWL.loop (hfit : Fit C.P) (horc : CallOK C C.orc) {α : Type} (X : α → Rdr) (hX : ∀ p, (X p).ok C) (hg : ∀ g b, C.gs g = some b → b < n) {oq : Opq} {N m f : Nat} {rs : List ResultVar} {ts : List Nat} {id : Nat} {c : Code} {rest : List Code}
    {K : AV → List ABlk → Prop} (vals : α → List AV) (blks : α → List ABlk) (I : α → Prop) (μ : α → Nat) (hne : rest ≠ [])
    (round : ∀ p, I p → wexec C (X p) f c (stOf N ts (vals p) (blks p)) (leafF oq C.P rs N n m ts (fun V L => ∃ q, V = vals q ∧ L = blks q ∧ I q ∧ μ q < μ p)
      (fun i V L => i = id ∧ AWL C n rest (stOf N ts V L) (EndsF oq C.P rs m K)) K))
    (p : α) (hp : I p) : AWL C n (.block id (.loop c) :: rest) (stOf N ts (vals p) (blks p)) (EndsF oq C.P rs m K) := by
  refine AW.block (AW.mono (AW.loop (fun p => stOf N ts (vals p) (blks p)) I μ (K := fun x s1 => match x with
    | .normal => False
    | .exit i => i = id ∧ AWL C n rest s1 (EndsF oq C.P rs m K)
    | .ret => EndsF oq C.P rs m K .ret s1
    | .goto _ => False) (fun p hp => ?_) p hp) fun x s1 hx => ?_)
  · refine AW.mono (AW.exec hfit horc (hX p) (round p hp)) fun x s1 hx => ?_
    cases x with
    | normal =>
      obtain ⟨V, L, ⟨q, rfl, rfl, hq, hlt⟩, hcov⟩ := finS_spec hg (K := fun V L => ∃ q, V = vals q ∧ L = blks q ∧ I q ∧ μ q < μ p) hx
      exact ⟨q, hq, hcov, hlt⟩
    | exit i =>
      obtain ⟨V, L, ⟨rfl, hk⟩, hcov⟩ := finS_spec hg (K := fun V L => i = id ∧ AWL C n rest (stOf N ts V L) (EndsF oq C.P rs m K)) hx
      exact ⟨rfl, AWL.cov hne hcov hk⟩
    | goto l => exact hx.elim
    | ret => exact hx
  · cases x with
    | normal => exact hx.elim
    | exit i =>
      obtain ⟨rfl, hk⟩ := hx
      have : Nat.beq i i = true := Nat.beq_refl i
      simp only [this]
      exact hk
    | goto l => exact hx.elim
    | ret => exact hx

end
end Go.Abs
