/-
  Soundness: all pure operations; all that read. (Helper theorems; each says its own conditions.)
-/
import Derived.Test.YtghcfkgfccmaoaaGreatDoorAbs6

/-! Soundness: all pure operations; all that read. -/
namespace Go.Abs
open Go

def EnvR (ρ : Ren) (env : Env) (ev : Operand → Value) : Prop := ∀ x v, env x = some v → VR ρ v (ev x)

section
variable {P : Program}

theorem pureA_sound {ρ : Ren} {env : Env} {ev : Operand → Value} (he : EnvR ρ env ev) {o : Oper} (hc : cls o.op = .pure) {r : AV} (h : pureA P env o.op = some r) :
    ∃ u, VR ρ r u ∧ ∀ w, (execOp ev o).run P w = .ok (.value u) w := by
  obtain ⟨dst, op, type, pos, after, guard⟩ := o
  simp only at hc h ⊢
  cases op <;> simp only [cls] at hc <;> first | (cases hc; done) | skip
  case move x => exact ⟨ev x, he x _ h, fun w => by simp [execOp]⟩
  case assign x => exact ⟨ev x, he x _ h, fun w => by simp [execOp]⟩
  case pick c a b =>
    simp only [pureA] at h
    split at h
    · rename_i hcv
      have := he c _ hcv
      simp only [VR] at this
      exact ⟨ev a, he a _ h, fun w => by simp [execOp, this, asBool]⟩
    · rename_i hcv
      have := he c _ hcv
      simp only [VR] at this
      exact ⟨ev b, he b _ h, fun w => by simp [execOp, this, asBool]⟩
    · cases h
  case build t ps =>
    simp only [pureA] at h
    split at h
    · rename_i vs hvs
      have hp := evp_sound he hvs
      obtain ⟨z, hz, hr⟩ := build_sound (P := P) (vparts := ps.map fun (p : Nat × Operand) => (p.1, ev p.2)) h (by simpa using hp)
      exact ⟨z, hz, fun w => by simp only [execOp, Sem.run_bind, hr, Result.andThen_ok, Sem.run_pure]⟩
    · cases h
  case unOp op t x =>
    simp only [pureA, on1] at h
    split at h
    · rename_i v hv
      obtain ⟨z, hz, hr⟩ := un_sound (P := P) h (he x v hv)
      exact ⟨z, hz, fun w => by simp only [execOp, Sem.run_bind, hr, Result.andThen_ok, Sem.run_pure]⟩
    · cases h
  case binOp op t x y yt =>
    simp only [pureA, on2] at h
    split at h
    · rename_i v hv
      split at h
      · rename_i u hu
        obtain ⟨z, hz, hr⟩ := bin_sound (P := P) h (he x v hv) (he y u hu) x y
        exact ⟨z, hz, fun w => by
          have := hr w
          simp only [Sem.run_bind] at this
          simp only [execOp, Sem.run_bind, this, Result.andThen_ok, Sem.run_pure]⟩
      · cases h
    · cases h
  case convert s d x =>
    simp only [pureA, on1] at h
    split at h
    · rename_i v hv
      obtain ⟨z, hz, hr⟩ := conv_sound (P := P) h (he x v hv)
      exact ⟨z, hz, fun w => by simp only [execOp, Sem.run_bind, hr, Result.andThen_ok, Sem.run_pure]⟩
    · cases h
  case nilCheck x =>
    simp only [pureA] at h
    split at h
    · rename_i b o hv
      injection h with h; subst h
      obtain ⟨g, hg, hx⟩ := he x _ hv
      exact ⟨_, ⟨g, hg, rfl⟩, fun w => by simp [execOp, hx]⟩
    · rename_i f xs ys hv
      injection h with h; subst h
      obtain ⟨as, bs, hx, h1, h2⟩ := he x _ hv
      exact ⟨_, ⟨as, bs, rfl, h1, h2⟩, fun w => by simp [execOp, hx]⟩
    · cases h
  case makeFunc fn first cap =>
    simp only [pureA] at h
    split at h
    · rename_i f xs ys h1 h2
      injection h with h; subst h
      have e1 := evs_sound he h1
      have e2 := evs_sound he h2
      refine ⟨.func (.func f) (first.map ev) (cap.map ev), ⟨first.toList.map ev, cap.toList.map ev, ?_, e1, e2⟩, fun w => by simp [execOp, Instr.makeFunc]⟩
      congr 1 <;> (apply Array.ext'; simp)
    · cases h
  case slice t x lo hi mx =>
    simp only [pureA, on1] at h
    split at h
    · rename_i v hv
      split at h
      · rename_i l h' m e1 e2 e3
        obtain ⟨z, hz, hr⟩ := slice_sound (P := P) h (he x v hv) (evo_sound he e1) (evo_sound he e2) (evo_sound he e3)
        exact ⟨z, hz, fun w => by simp only [execOp, Sem.run_bind, hr, Result.andThen_ok, Sem.run_pure]⟩
      · cases h
    · cases h
  case fieldAddr t x f =>
    simp only [pureA, on1] at h
    split at h
    · rename_i v hv
      obtain ⟨z, hz, hr⟩ := fieldAddr_sound (P := P) h (he x v hv)
      exact ⟨z, hz, fun w => by simp only [execOp, Sem.run_bind, hr, Result.andThen_ok, Sem.run_pure]⟩
    · cases h
  case field t x f =>
    simp only [pureA, on1] at h
    split at h
    · rename_i v hv
      obtain ⟨z, hz, hr⟩ := field_sound (P := P) h (he x v hv)
      exact ⟨z, hz, fun w => by simp only [execOp, Sem.run_bind, hr, Result.andThen_ok, Sem.run_pure]⟩
    · cases h
  case indexAddr t x i =>
    simp only [pureA, on2] at h
    split at h
    · rename_i v hv
      split at h
      · rename_i u hu
        obtain ⟨z, hz, hr⟩ := indexAddr_sound (P := P) h (he x v hv) (he i u hu)
        exact ⟨z, hz, fun w => by simp only [execOp, Sem.run_bind, hr, Result.andThen_ok, Sem.run_pure]⟩
      · cases h
    · cases h
  case index t x i =>
    simp only [pureA, on2] at h
    split at h
    · rename_i v hv
      split at h
      · rename_i u hu
        obtain ⟨z, hz, hr⟩ := index_sound (P := P) h (he x v hv) (he i u hu)
        exact ⟨z, hz, fun w => by simp only [execOp, Sem.run_bind, hr, Result.andThen_ok, Sem.run_pure]⟩
      · cases h
    · cases h
  case extract t i =>
    simp only [pureA] at h
    split at h
    · rename_i vs hv
      obtain ⟨us, hx, hus⟩ := he t _ hv
      rw [nth_eq] at h
      obtain ⟨u, hu, hr⟩ := hus.get i r h
      exact ⟨u, hr, fun w => by simp [execOp, hx, Instr.extract, hu]⟩
    · cases h
  case call c =>
    obtain ⟨callee, args, argTypes⟩ := c
    simp only at hc h ⊢
    simp only [pureA] at h
    split at h
    · rename_i o0 t ts x e1 e2
      have hx := evs_sound he e2
      obtain ⟨u, us, hus, hu, hnil⟩ := hx
      simp only [VRs] at hnil; subst hnil
      obtain ⟨z, hz, hr⟩ := cap_sound (P := P) (ts := ts) (ty := type) h hu
      refine ⟨z, hz, fun w => ?_⟩
      have ha : args.map ev = #[u] := by apply Array.ext'; simpa using hus
      have ht : argTypes = (t :: ts).toArray := by apply Array.ext'; simpa using e1
      simp only [execOp, resolve, Sem.run_bind, Sem.run_pure, Result.andThen_ok, invoke, builtin, ha, ht, hr]
    · rename_i o0 x xs e2
      obtain ⟨u, us, hus, hu, hrest⟩ := evs_sound he e2
      obtain ⟨z, hz, hr⟩ := fold_sound (P := P) (fun _ _ _ _ _ a b c => min2_sound a b c) h hu hrest
      refine ⟨z, hz, fun w => ?_⟩
      have ha : (args.map ev).toList = u :: us := by simpa using hus
      simp only [execOp, resolve, Sem.run_bind, Sem.run_pure, Result.andThen_ok, invoke, builtin, Builtin.min_, ha, hr]
    · rename_i o0 x xs e2
      obtain ⟨u, us, hus, hu, hrest⟩ := evs_sound he e2
      obtain ⟨z, hz, hr⟩ := fold_sound (P := P) (fun _ _ _ _ _ a b c => max2_sound a b c) h hu hrest
      refine ⟨z, hz, fun w => ?_⟩
      have ha : (args.map ev).toList = u :: us := by simpa using hus
      simp only [execOp, resolve, Sem.run_bind, Sem.run_pure, Result.andThen_ok, invoke, builtin, Builtin.max_, ha, hr]
    · cases h

/-! ## Reading -/
theorem cellAt_sound {ρ : Ren} {h : AH} {w : World} (hr : HR ρ h w) {b off : Nat} {a : AV} (hc : cellAt h b off = some a) {g : Pl} (hg : ρ b = some g) :
    ∃ v, w.cell? ⟨g.blk, g.off + off, none⟩ = some v ∧ VR ρ a v := by
  unfold cellAt at hc
  have hb := hr.blk b g hg
  split at hc
  · rename_i c hget
    rw [hget] at hb
    cases hlt : Nat.blt off c.n with
    | false => rw [hlt] at hc; simp at hc
    | true =>
      rw [hlt] at hc; simp at hc; subst hc
      have hlt' : off < c.n := by simpa [Nat.blt_eq] using hlt
      unfold BR at hb
      simp only at hb
      cases hro : c.ro <;> simp only [hro] at hb
      · obtain ⟨cur, h1, h2, h3⟩ := hb
        obtain ⟨v, hv, hvr⟩ := h3 off hlt'
        exact ⟨v, by rw [cell_of_row w _ _ cur _ _ h1]; exact hv, hvr⟩
      · exact hb off hlt'
  · cases hc

theorem readL_sound {ρ : Ren} {w : World} {g : Pl} {s : Sto} : ∀ (n off : Nat), (∀ i, off ≤ i → i < off + n → ∃ v, w.cell? ⟨g.blk, g.off + i, none⟩ = some v ∧ VR ρ (s.get i) v) →
    ∃ vs : List Value, vs.length = n ∧ VRs ρ (readL s off n) vs ∧ ∀ (j : Nat) (v : Value), vs[j]? = some v → w.cell? ((⟨g.blk, g.off + off, none⟩ : Addr).add j) = some v
  | 0, off, _ => ⟨[], rfl, rfl, fun j v h => by simp at h⟩
  | n + 1, off, hc => by
    obtain ⟨v, hv, hvr⟩ := hc off (Nat.le_refl _) (by omega)
    obtain ⟨vs, hl, hvs, hget⟩ := readL_sound n (off + 1) (fun i h1 h2 => hc i (by omega) (by omega))
    refine ⟨v :: vs, by simp [hl], ⟨v, vs, rfl, hvr, hvs⟩, fun j u hj => ?_⟩
    cases j with
    | zero => simp at hj; subst hj; simpa [add_none] using hv
    | succ j =>
      have := hget j u (by simpa using hj)
      rw [add_none] at this ⊢
      rw [show g.off + off + (j + 1) = g.off + (off + 1) + j by omega]
      exact this

theorem cellsAt_sound {ρ : Ren} {h : AH} {w : World} (hr : HR ρ h w) {b off n : Nat} {cs : List AV} (hc : cellsAt h b off n = some cs) {g : Pl} (hg : ρ b = some g) :
    ∃ vs : List Value, vs.length = n ∧ VRs ρ cs vs ∧ ∀ (j : Nat) (v : Value), vs[j]? = some v → w.cell? ((⟨g.blk, g.off + off, none⟩ : Addr).add j) = some v := by
  unfold cellsAt at hc
  have hb := hr.blk b g hg
  split at hc
  · rename_i c hget
    rw [hget] at hb
    cases hlt : Nat.ble (off + n) c.n with
    | false => rw [hlt] at hc; simp at hc
    | true =>
      rw [hlt] at hc; simp at hc; subst hc
      have hlt' : off + n ≤ c.n := by simpa [Nat.ble_eq] using hlt
      refine readL_sound n off fun i h1 h2 => ?_
      unfold BR at hb
      simp only at hb
      cases hro : c.ro <;> simp only [hro] at hb
      · obtain ⟨cur, h1', h2', h3⟩ := hb
        obtain ⟨v, hv, hvr⟩ := h3 i (by omega)
        exact ⟨v, by rw [cell_of_row w _ _ cur _ _ h1']; exact hv, hvr⟩
      · exact hb i (by omega)
  · cases hc

theorem load_sound {ρ : Ren} {h : AH} {w : World} (hr : HR ρ h w) {t : TypeId} {a r : AV} {u : Value} (hl : loadA P h t a = some r) (hu : VR ρ a u) :
    ∃ z, VR ρ r z ∧ (Instr.loadAt t u).run P w = .ok z w := by
  unfold loadA at hl
  split at hl
  · rename_i b off
    obtain ⟨g, hg, rfl⟩ := hu
    split at hl
    · rename_i ti hti
      obtain ⟨i, d, z, hty⟩ := tiOf_spec hti
      split at hl
      · rename_i hag
        split at hl
        · rename_i cs hcs
          injection hl with hl; subst hl
          obtain ⟨vs, hlen, hvs, hcell⟩ := cellsAt_sound hr hcs hg
          refine ⟨.agg vs.toArray, ⟨vs, rfl, hvs⟩, ?_⟩
          have hrun := run_loadCells_list (P := P) w ⟨g.blk, g.off + off, none⟩ vs hcell
          rw [hlen] at hrun
          simp only [Instr.loadAt, Instr.sureAddr, loadVar, Sem.run_bind, Sem.run_pure, Result.andThen_ok, hty.run_agg, hag, if_true, hty.run_size, hrun]
        · cases hl
      · rename_i hag
        obtain ⟨v, hv, hvr⟩ := cellAt_sound hr hl hg
        refine ⟨v, hvr, ?_⟩
        simp only [Instr.loadAt, Instr.sureAddr, loadVar, Sem.run_bind, Sem.run_pure, Result.andThen_ok, hty.run_agg, hag, Bool.false_eq_true, if_false, run_load, hv]
    · cases hl
  · cases hl

/-! ## Maps -/
theorem checkKey_scalar (w : World) (em : Bool) (n : Nat) {t : TypeId} {a : AV} {ρ : Ren} {v : Value} (hf : scalEq (P.underlying t) a a ≠ none) (hv : VR ρ a v) : (Instr.checkKey em (n + 1) t v).run P w = .ok () w := by
  unfold scalEq at hf
  split at hf
  · rename_i hk _
    simp only [VR] at hv; subst hv
    simp [Instr.checkKey, run_underlying hk]
  · rename_i hk _
    simp only [VR] at hv; subst hv
    simp [Instr.checkKey, run_underlying hk]
  · exact absurd rfl hf

theorem checkFields (w : World) (em : Bool) (dd : Nat) {ρ : Ren} (xs : List Value) : ∀ (fs : List Field) (n : Nat) (as : List AV), eqFieldsA P fs n as as ≠ none → VRs ρ as (xs.drop n) →
    (forIn fs () fun (f : Field) (_ : Unit) => (do
      if f.name ≠ "_" then do
        Instr.checkKey em (dd + 1) f.type (← part f.type xs.toArray f.offset)
        pure (ForInStep.yield ())
      else pure (ForInStep.yield ()) : Sem (ForInStep Unit))).run P w = .ok () w := by
  intro fs
  induction fs with
  | nil => intro n as _ _; simp
  | cons f fs ih =>
    intro n as h hx
    cases as with
    | nil => exact absurd (by simp [eqFieldsA]) h
    | cons a as =>
    simp only [eqFieldsA] at h
    split at h
    · rename_i p q ho hnm hs hr
      obtain ⟨x, xs', hxs, hax, hxr⟩ := hx
      have ho' : f.offset = n := Nat.eq_of_beq_eq_true ho
      have hx1 : xs[n]? = some x := by
        have : (xs.drop n)[0]? = some x := by rw [hxs]; rfl
        rw [List.getElem?_drop] at this
        simpa using this
      have hxd : xs.drop (n + 1) = xs' := by rw [← List.drop_drop, hxs]; rfl
      have hag := (scalEq_sound (P := P) w 0 hs hax hax).2.1
      have hpx : (part f.type xs.toArray n).run P w = .ok x w := by simp [part, hag, hx1]
      have hck := checkKey_scalar (P := P) w em dd (t := f.type) (a := a) (by rw [hs]; simp) hax
      have hnm' : f.name ≠ "_" := by simpa using hnm
      have ih' := ih (n + 1) as (by rw [hr]; simp) (hxd ▸ hxr)
      simp only [List.forIn_cons, ne_eq, hnm', not_false_eq_true, if_true, Sem.run_bind, ho', hpx, Result.andThen_ok, hck, Sem.run_pure]
      exact ih'
    · exact absurd rfl h

end
end Go.Abs
