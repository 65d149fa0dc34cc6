/-
  Soundness: all pure operations; all that read. (Helper theorems; each says its own conditions.)
-/
import Derived.Test.YtkikjebliennbaaGreatDoorEvB
import Derived.Laws.MakeOwn
/-! Soundness: all pure operations; all that read. -/
namespace Go.Abs
open Go

def EnvR (ρ : Ren) (env : Env) (ev : Operand → Value) : Prop := ∀ x v, env x = some v → VR ρ v (ev x)

section
variable {P : Program}

theorem pureA_sound {ρ : Ren} {env : Env} {ev : Operand → Value} (he : EnvR ρ env ev) {o : Oper} (hc : cls o.op = .pure) {r : AV} (h : pureA P env o.op = some r) :
    ∃ u, VR ρ r u ∧ ∀ w, (execOp ev o).run P w = .ok (.value u) w := by
  obtain ⟨dst, op, type, pos, after, guard⟩ := o
  simp only at hc h ⊢
  cases op <;> simp only [cls] at hc <;> first | (cases hc; done) | skip
  case move x => exact ⟨ev x, he x _ h, fun w => by simp [execOp]⟩
  case assign x => exact ⟨ev x, he x _ h, fun w => by simp [execOp]⟩
  case pick c a b =>
    simp only [pureA] at h
    split at h
    · rename_i hcv
      have := he c _ hcv
      simp only [VR] at this
      exact ⟨ev a, he a _ h, fun w => by simp [execOp, this, asBool]⟩
    · rename_i hcv
      have := he c _ hcv
      simp only [VR] at this
      exact ⟨ev b, he b _ h, fun w => by simp [execOp, this, asBool]⟩
    · cases h
  case build t ps =>
    simp only [pureA] at h
    split at h
    · rename_i vs hvs
      have hp := evp_sound he hvs
      obtain ⟨z, hz, hr⟩ := build_sound (P := P) (vparts := ps.map fun (p : Nat × Operand) => (p.1, ev p.2)) h (by simpa using hp)
      exact ⟨z, hz, fun w => by simp only [execOp, Sem.run_bind, hr, Result.andThen_ok, Sem.run_pure]⟩
    · cases h
  case unOp op t x =>
    simp only [pureA, on1] at h
    split at h
    · rename_i v hv
      obtain ⟨z, hz, hr⟩ := un_sound (P := P) h (he x v hv)
      exact ⟨z, hz, fun w => by simp only [execOp, Sem.run_bind, hr, Result.andThen_ok, Sem.run_pure]⟩
    · cases h
  case binOp op t x y yt =>
    simp only [pureA, on2] at h
    split at h
    · rename_i v hv
      split at h
      · rename_i u hu
        obtain ⟨z, hz, hr⟩ := bin_sound (P := P) h (he x v hv) (he y u hu) x y
        exact ⟨z, hz, fun w => by
          have := hr w
          simp only [Sem.run_bind] at this
          simp only [execOp, Sem.run_bind, this, Result.andThen_ok, Sem.run_pure]⟩
      · cases h
    · cases h
  case convert s d x =>
    simp only [pureA, on1] at h
    split at h
    · rename_i v hv
      obtain ⟨z, hz, hr⟩ := conv_sound (P := P) h (he x v hv)
      exact ⟨z, hz, fun w => by simp only [execOp, Sem.run_bind, hr, Result.andThen_ok, Sem.run_pure]⟩
    · cases h
  case nilCheck x =>
    simp only [pureA] at h
    split at h
    · rename_i b o hv
      injection h with h; subst h
      obtain ⟨g, hg, hx⟩ := he x _ hv
      exact ⟨_, ⟨g, hg, rfl⟩, fun w => by simp [execOp, hx]⟩
    · rename_i f xs ys hv
      injection h with h; subst h
      obtain ⟨as, bs, hx, h1, h2⟩ := he x _ hv
      exact ⟨_, ⟨as, bs, rfl, h1, h2⟩, fun w => by simp [execOp, hx]⟩
    · cases h
  case makeFunc fn first cap =>
    simp only [pureA] at h
    split at h
    · rename_i f xs ys h1 h2
      injection h with h; subst h
      have e1 := evs_sound he h1
      have e2 := evs_sound he h2
      refine ⟨.func (.func f) (first.map ev) (cap.map ev), ⟨first.toList.map ev, cap.toList.map ev, ?_, e1, e2⟩, fun w => by simp [execOp, Instr.makeFunc]⟩
      congr 1 <;> (apply Array.ext'; simp)
    · cases h
  case slice t x lo hi mx =>
    simp only [pureA, on1] at h
    split at h
    · rename_i v hv
      split at h
      · rename_i l h' m e1 e2 e3
        obtain ⟨z, hz, hr⟩ := slice_sound (P := P) h (he x v hv) (evo_sound he e1) (evo_sound he e2) (evo_sound he e3)
        exact ⟨z, hz, fun w => by simp only [execOp, Sem.run_bind, hr, Result.andThen_ok, Sem.run_pure]⟩
      · cases h
    · cases h
  case fieldAddr t x f =>
    simp only [pureA, on1] at h
    split at h
    · rename_i v hv
      obtain ⟨z, hz, hr⟩ := fieldAddr_sound (P := P) h (he x v hv)
      exact ⟨z, hz, fun w => by simp only [execOp, Sem.run_bind, hr, Result.andThen_ok, Sem.run_pure]⟩
    · cases h
  case field t x f =>
    simp only [pureA, on1] at h
    split at h
    · rename_i v hv
      obtain ⟨z, hz, hr⟩ := field_sound (P := P) h (he x v hv)
      exact ⟨z, hz, fun w => by simp only [execOp, Sem.run_bind, hr, Result.andThen_ok, Sem.run_pure]⟩
    · cases h
  case indexAddr t x i =>
    simp only [pureA, on2] at h
    split at h
    · rename_i v hv
      split at h
      · rename_i u hu
        obtain ⟨z, hz, hr⟩ := indexAddr_sound (P := P) h (he x v hv) (he i u hu)
        exact ⟨z, hz, fun w => by simp only [execOp, Sem.run_bind, hr, Result.andThen_ok, Sem.run_pure]⟩
      · cases h
    · cases h
  case index t x i =>
    simp only [pureA, on2] at h
    split at h
    · rename_i v hv
      split at h
      · rename_i u hu
        obtain ⟨z, hz, hr⟩ := index_sound (P := P) h (he x v hv) (he i u hu)
        exact ⟨z, hz, fun w => by simp only [execOp, Sem.run_bind, hr, Result.andThen_ok, Sem.run_pure]⟩
      · cases h
    · cases h
  case extract t i =>
    simp only [pureA] at h
    split at h
    · rename_i vs hv
      obtain ⟨us, hx, hus⟩ := he t _ hv
      rw [nth_eq] at h
      obtain ⟨u, hu, hr⟩ := hus.get i r h
      exact ⟨u, hr, fun w => by simp [execOp, hx, Instr.extract, hu]⟩
    · cases h
  case call c =>
    obtain ⟨callee, args, argTypes⟩ := c
    simp only at hc h ⊢
    simp only [pureA] at h
    split at h
    · rename_i o0 t ts x e1 e2
      have hx := evs_sound he e2
      obtain ⟨u, us, hus, hu, hnil⟩ := hx
      simp only [VRs] at hnil; subst hnil
      obtain ⟨z, hz, hr⟩ := cap_sound (P := P) (ts := ts) (ty := type) h hu
      refine ⟨z, hz, fun w => ?_⟩
      have ha : args.map ev = #[u] := by apply Array.ext'; simpa using hus
      have ht : argTypes = (t :: ts).toArray := by apply Array.ext'; simpa using e1
      simp only [execOp, resolve, Sem.run_bind, Sem.run_pure, Result.andThen_ok, invoke, builtin, ha, ht, hr]
    · rename_i o0 x xs e2
      obtain ⟨u, us, hus, hu, hrest⟩ := evs_sound he e2
      obtain ⟨z, hz, hr⟩ := fold_sound (P := P) (fun _ _ _ _ _ a b c => min2_sound a b c) h hu hrest
      refine ⟨z, hz, fun w => ?_⟩
      have ha : (args.map ev).toList = u :: us := by simpa using hus
      simp only [execOp, resolve, Sem.run_bind, Sem.run_pure, Result.andThen_ok, invoke, builtin, Builtin.min_, ha, hr]
    · rename_i o0 x xs e2
      obtain ⟨u, us, hus, hu, hrest⟩ := evs_sound he e2
      obtain ⟨z, hz, hr⟩ := fold_sound (P := P) (fun _ _ _ _ _ a b c => max2_sound a b c) h hu hrest
      refine ⟨z, hz, fun w => ?_⟩
      have ha : (args.map ev).toList = u :: us := by simpa using hus
      simp only [execOp, resolve, Sem.run_bind, Sem.run_pure, Result.andThen_ok, invoke, builtin, Builtin.max_, ha, hr]
    · cases h

/-! ## Reading -/
theorem cellAt_sound {ρ : Ren} {h : AH} {w : World} (hr : HR ρ h w) {b off : Nat} {a : AV} (hc : cellAt h b off = some a) {g : Pl} (hg : ρ b = some g) :
    ∃ v, w.cell? ⟨g.blk, g.off + off, none⟩ = some v ∧ VR ρ a v := by
  unfold cellAt at hc
  have hb := hr.blk b g hg
  split at hc
  · rename_i c hget
    rw [hget] at hb
    cases hlt : Nat.blt off c.n with
    | false => rw [hlt] at hc; simp at hc
    | true =>
      rw [hlt] at hc; simp at hc; subst hc
      have hlt' : off < c.n := by simpa [Nat.blt_eq] using hlt
      unfold BR at hb
      simp only at hb
      cases hro : c.ro <;> simp only [hro] at hb
      · obtain ⟨cur, h1, h2, h3⟩ := hb
        obtain ⟨v, hv, hvr⟩ := h3 off hlt'
        exact ⟨v, by rw [cell_of_row w _ _ cur _ _ h1]; exact hv, hvr⟩
      · exact hb off hlt'
  · cases hc

theorem readL_sound {ρ : Ren} {w : World} {g : Pl} {s : Sto} : ∀ (n off : Nat), (∀ i, off ≤ i → i < off + n → ∃ v, w.cell? ⟨g.blk, g.off + i, none⟩ = some v ∧ VR ρ (s.get i) v) →
    ∃ vs : List Value, vs.length = n ∧ VRs ρ (readL s off n) vs ∧ ∀ (j : Nat) (v : Value), vs[j]? = some v → w.cell? ((⟨g.blk, g.off + off, none⟩ : Addr).add j) = some v
  | 0, off, _ => ⟨[], rfl, rfl, fun j v h => by simp at h⟩
  | n + 1, off, hc => by
    obtain ⟨v, hv, hvr⟩ := hc off (Nat.le_refl _) (by omega)
    obtain ⟨vs, hl, hvs, hget⟩ := readL_sound n (off + 1) (fun i h1 h2 => hc i (by omega) (by omega))
    refine ⟨v :: vs, by simp [hl], ⟨v, vs, rfl, hvr, hvs⟩, fun j u hj => ?_⟩
    cases j with
    | zero => simp at hj; subst hj; simpa [add_none] using hv
    | succ j =>
      have := hget j u (by simpa using hj)
      rw [add_none] at this ⊢
      rw [show g.off + off + (j + 1) = g.off + (off + 1) + j by omega]
      exact this

theorem cellsAt_sound {ρ : Ren} {h : AH} {w : World} (hr : HR ρ h w) {b off n : Nat} {cs : List AV} (hc : cellsAt h b off n = some cs) {g : Pl} (hg : ρ b = some g) :
    ∃ vs : List Value, vs.length = n ∧ VRs ρ cs vs ∧ ∀ (j : Nat) (v : Value), vs[j]? = some v → w.cell? ((⟨g.blk, g.off + off, none⟩ : Addr).add j) = some v := by
  unfold cellsAt at hc
  have hb := hr.blk b g hg
  split at hc
  · rename_i c hget
    rw [hget] at hb
    cases hlt : Nat.ble (off + n) c.n with
    | false => rw [hlt] at hc; simp at hc
    | true =>
      rw [hlt] at hc; simp at hc; subst hc
      have hlt' : off + n ≤ c.n := by simpa [Nat.ble_eq] using hlt
      refine readL_sound n off fun i h1 h2 => ?_
      unfold BR at hb
      simp only at hb
      cases hro : c.ro <;> simp only [hro] at hb
      · obtain ⟨cur, h1', h2', h3⟩ := hb
        obtain ⟨v, hv, hvr⟩ := h3 i (by omega)
        exact ⟨v, by rw [cell_of_row w _ _ cur _ _ h1']; exact hv, hvr⟩
      · exact hb i (by omega)
  · cases hc

theorem load_sound {ρ : Ren} {h : AH} {w : World} (hr : HR ρ h w) {t : TypeId} {a r : AV} {u : Value} (hl : loadA P h t a = some r) (hu : VR ρ a u) :
    ∃ z, VR ρ r z ∧ (Instr.loadAt t u).run P w = .ok z w := by
  unfold loadA at hl
  split at hl
  · rename_i b off
    obtain ⟨g, hg, rfl⟩ := hu
    split at hl
    · rename_i ti hti
      obtain ⟨i, d, z, hty⟩ := tiOf_spec hti
      split at hl
      · rename_i hag
        split at hl
        · rename_i cs hcs
          injection hl with hl; subst hl
          obtain ⟨vs, hlen, hvs, hcell⟩ := cellsAt_sound hr hcs hg
          refine ⟨.agg vs.toArray, ⟨vs, rfl, hvs⟩, ?_⟩
          have hrun := run_loadCells_list (P := P) w ⟨g.blk, g.off + off, none⟩ vs hcell
          rw [hlen] at hrun
          simp only [Instr.loadAt, Instr.sureAddr, loadVar, Sem.run_bind, Sem.run_pure, Result.andThen_ok, hty.run_agg, hag, if_true, hty.run_size, hrun]
        · cases hl
      · rename_i hag
        obtain ⟨v, hv, hvr⟩ := cellAt_sound hr hl hg
        refine ⟨v, hvr, ?_⟩
        simp only [Instr.loadAt, Instr.sureAddr, loadVar, Sem.run_bind, Sem.run_pure, Result.andThen_ok, hty.run_agg, hag, Bool.false_eq_true, if_false, run_load, hv]
    · cases hl
  · cases hl

/-! ## Maps -/
theorem checkKey_scalar (w : World) (em : Bool) (n : Nat) {t : TypeId} {a : AV} {ρ : Ren} {v : Value} (hf : scalEq (P.underlying t) a a ≠ none) (hv : VR ρ a v) : (Instr.checkKey em (n + 1) t v).run P w = .ok () w := by
  unfold scalEq at hf
  split at hf
  · rename_i hk _
    simp only [VR] at hv; subst hv
    simp [Instr.checkKey, run_underlying hk]
  · rename_i hk _
    simp only [VR] at hv; subst hv
    simp [Instr.checkKey, run_underlying hk]
  · exact absurd rfl hf

theorem checkFields (w : World) (em : Bool) (dd : Nat) {ρ : Ren} (xs : List Value) : ∀ (fs : List Field) (n : Nat) (as : List AV), eqFieldsA P fs n as as ≠ none → VRs ρ as (xs.drop n) →
    (forIn fs () fun (f : Field) (_ : Unit) => (do
      if f.name ≠ "_" then do
        Instr.checkKey em (dd + 1) f.type (← part f.type xs.toArray f.offset)
        pure (ForInStep.yield ())
      else pure (ForInStep.yield ()) : Sem (ForInStep Unit))).run P w = .ok () w := by
  intro fs
  induction fs with
  | nil => intro n as _ _; simp
  | cons f fs ih =>
    intro n as h hx
    cases as with
    | nil => exact absurd (by simp [eqFieldsA]) h
    | cons a as =>
    simp only [eqFieldsA] at h
    split at h
    · rename_i p q ho hnm hs hr
      obtain ⟨x, xs', hxs, hax, hxr⟩ := hx
      have ho' : f.offset = n := Nat.eq_of_beq_eq_true ho
      have hx1 : xs[n]? = some x := by
        have : (xs.drop n)[0]? = some x := by rw [hxs]; rfl
        rw [List.getElem?_drop] at this
        simpa using this
      have hxd : xs.drop (n + 1) = xs' := by rw [← List.drop_drop, hxs]; rfl
      have hag := (scalEq_sound (P := P) w 0 hs hax hax).2.1
      have hpx : (part f.type xs.toArray n).run P w = .ok x w := by simp [part, hag, hx1]
      have hck := checkKey_scalar (P := P) w em dd (t := f.type) (a := a) (by rw [hs]; simp) hax
      have hnm' : f.name ≠ "_" := by simpa using hnm
      have ih' := ih (n + 1) as (by rw [hr]; simp) (hxd ▸ hxr)
      simp only [List.forIn_cons, ne_eq, hnm', not_false_eq_true, if_true, Sem.run_bind, ho', hpx, Result.andThen_ok, hck, Sem.run_pure]
      exact ih'
    · exact absurd rfl h

end
end Go.Abs

/-! Soundness: maps; all that read. -/
namespace Go.Abs
open Go

theorem MR.get {ρ : Ren} : ∀ {es : List (AV × AV)} {ces : List MapEntry}, MR ρ es ces → ∀ (j : Nat) (k v : AV), es[j]? = some (k, v) → ∃ e, ces[j]? = some e ∧ VR ρ k e.key ∧ VR ρ v e.val
  | [], _, _, j, k, v, h => by simp at h
  | (a, b) :: es, _, ⟨e, es', he, h1, h2, h3⟩, j, k, v, h => by
    subst he
    cases j with
    | zero => simp at h; obtain ⟨rfl, rfl⟩ := h; exact ⟨e, rfl, h1, h2⟩
    | succ j => simp at h; obtain ⟨e', he', hh⟩ := MR.get h3 j k v h; exact ⟨e', by simpa using he', hh⟩

theorem MR.set {ρ : Ren} {k v : AV} {f : MapEntry → MapEntry} (hf : ∀ e, VR ρ k (f e).key ∧ VR ρ v (f e).val) : ∀ {es : List (AV × AV)} {ces : List MapEntry}, MR ρ es ces → ∀ (j : Nat), MR ρ (es.set j (k, v)) (ces.modify j f)
  | [], _, h, j => by simp only [MR] at h; subst h; simp [MR]
  | (a, b) :: es, _, ⟨e, es', he, h1, h2, h3⟩, j => by
    subst he
    cases j with
    | zero => simpa using ⟨f e, es', rfl, (hf e).1, (hf e).2, h3⟩
    | succ j => simpa using ⟨e, _, rfl, h1, h2, MR.set hf h3 j⟩

theorem MR.push {ρ : Ren} {k v : AV} {e : MapEntry} (h1 : VR ρ k e.key) (h2 : VR ρ v e.val) : ∀ {es : List (AV × AV)} {ces : List MapEntry}, MR ρ es ces → MR ρ (es ++ [(k, v)]) (ces ++ [e])
  | [], _, h => by simp only [MR] at h; subst h; exact ⟨e, [], rfl, h1, h2, rfl⟩
  | (a, b) :: es, _, ⟨e', es', he, a1, a2, a3⟩ => by subst he; exact ⟨e', _, rfl, a1, a2, MR.push h1 h2 a3⟩

theorem MR.erase {ρ : Ren} : ∀ {es : List (AV × AV)} {ces : List MapEntry}, MR ρ es ces → ∀ (j : Nat), MR ρ (es.eraseIdx j) (ces.eraseIdx j)
  | [], _, h, j => by simp only [MR] at h; subst h; simp [MR]
  | (a, b) :: es, _, ⟨e, es', he, h1, h2, h3⟩, j => by
    subst he
    cases j with
    | zero => simpa using h3
    | succ j => simpa using ⟨e, _, rfl, h1, h2, MR.erase h3 j⟩

theorem scalEq_true {d : Option TypeDesc} {a b : AV} (h : scalEq d a b = some true) : a = b ∧ ((∃ k n, a = .int k n) ∨ ∃ c, a = .bool c) := by
  unfold scalEq at h
  split at h
  · split at h
    · rename_i hk
      injection h with h
      rw [ieq_eq] at h
      have := kindEq_eq hk
      subst this
      have := eq_of_beq h
      subst this
      exact ⟨rfl, .inl ⟨_, _, rfl⟩⟩
    · cases h
  · injection h with h
    have := eq_of_beq h
    subst this
    exact ⟨rfl, .inr ⟨_, rfl⟩⟩
  · cases h

theorem same_scal {a : AV} (ha : (∃ k n, a = .int k n) ∨ ∃ c, a = .bool c) {ρ : Ren} {x y : Value} (hx : VR ρ a x) (hy : VR ρ a y) (n : Nat) : Instr.sameBits n x y = true ∧ x = y := by
  rcases ha with ⟨k, m, rfl⟩ | ⟨c, rfl⟩ <;> simp only [VR] at hx hy <;> subst hx hy
  · exact ⟨by cases n <;> simp [Instr.sameBits], rfl⟩
  · exact ⟨by cases n <;> simp [Instr.sameBits], rfl⟩

section
variable {P : Program}

theorem eqFieldsA_true : ∀ {fs : List Field} {n : Nat} {as bs : List AV}, eqFieldsA P fs n as bs = some true → as = bs ∧ ∀ a ∈ as, (∃ k n, a = .int k n) ∨ ∃ c, a = .bool c
  | [], n, as, bs, h => by
    cases as <;> cases bs <;> simp only [eqFieldsA] at h <;> first | cases h | skip
    exact ⟨rfl, fun a ha => by cases ha⟩
  | f :: fs, n, as, bs, h => by
    cases as with
    | nil => simp [eqFieldsA] at h
    | cons a as =>
    cases bs with
    | nil => simp [eqFieldsA] at h
    | cons b bs =>
    simp only [eqFieldsA] at h
    split at h
    · rename_i p q ho hnm hs hr
      injection h with h
      simp only [Bool.and_eq_true] at h
      obtain ⟨rfl, rfl⟩ := h
      obtain ⟨rfl, h1⟩ := scalEq_true hs
      obtain ⟨rfl, h2⟩ := eqFieldsA_true hr
      exact ⟨rfl, fun c hc => by cases hc with
        | head => exact h1
        | tail _ hc => exact h2 c hc⟩
    · cases h

theorem eqElemsA_true {d : Option TypeDesc} : ∀ {as bs : List AV}, eqElemsA d as bs = some true → as = bs ∧ ∀ a ∈ as, (∃ k n, a = .int k n) ∨ ∃ c, a = .bool c
  | as, bs, h => by
    cases as with
    | nil =>
      cases bs <;> simp only [eqElemsA] at h <;> first | cases h | skip
      exact ⟨rfl, fun a ha => by cases ha⟩
    | cons a as =>
    cases bs with
    | nil => simp [eqElemsA] at h
    | cons b bs =>
    simp only [eqElemsA] at h
    split at h
    · rename_i p q hs hr
      injection h with h
      simp only [Bool.and_eq_true] at h
      obtain ⟨rfl, rfl⟩ := h
      obtain ⟨rfl, h1⟩ := scalEq_true hs
      obtain ⟨rfl, h2⟩ := eqElemsA_true hr
      exact ⟨rfl, fun c hc => by cases hc with
        | head => exact h1
        | tail _ hc => exact h2 c hc⟩
    · cases h

theorem eqAgg_true {t : TypeId} {as bs : List AV} (h : eqAgg P t as bs = some true) : as = bs ∧ ∀ a ∈ as, (∃ k n, a = .int k n) ∨ ∃ c, a = .bool c := by
  unfold eqAgg at h
  split at h
  · cases h
  · split at h
    · split at h
      · cases h
      · exact eqFieldsA_true h
    · split at h
      · split at h
        · exact eqElemsA_true h
        · cases h
      · cases h
    · cases h

theorem same_aggs {ρ : Ren} : ∀ {as : List AV} {xs ys : List Value}, (∀ a ∈ as, (∃ k n, a = AV.int k n) ∨ ∃ c, a = AV.bool c) → VRs ρ as xs → VRs ρ as ys → xs = ys ∧ ∀ n, ((xs.zip ys).all fun (p : Value × Value) => Instr.sameBits n p.1 p.2) = true
  | [], _, _, _, hx, hy => by simp only [VRs] at hx hy; subst hx hy; simp
  | a :: as, _, _, h, ⟨x, xs, hx, hx1, hx2⟩, ⟨y, ys, hy, hy1, hy2⟩ => by
    subst hx hy
    obtain ⟨e, hs⟩ := same_aggs (fun b hb => h b (List.mem_cons_of_mem _ hb)) hx2 hy2
    have h0 := fun n => same_scal (h a (List.mem_cons_self)) hx1 hy1 n
    refine ⟨by rw [(h0 0).2, e], fun n => ?_⟩
    simp [(h0 n).1, hs n]

theorem keyEq_same {ρ : Ren} {t : TypeId} {a b : AV} {x y : Value} (h : keyEq P t a b = some true) (hx : VR ρ a x) (hy : VR ρ b y) : Instr.sameBits 10000 y x = true := by
  unfold keyEq at h
  split at h
  · split at h
    · rename_i hk
      injection h with h
      rw [ieq_eq] at h
      have := kindEq_eq hk; subst this
      have := eq_of_beq h; subst this
      simp only [VR] at hx hy; subst hx hy
      simp [Instr.sameBits]
    · cases h
  · obtain ⟨rfl, hs⟩ := eqAgg_true h
    obtain ⟨xs, rfl, hxs⟩ := hx
    obtain ⟨ys, rfl, hys⟩ := hy
    obtain ⟨rfl, hall⟩ := same_aggs hs hys hxs
    have := hall 9999
    show Instr.sameBits (9999 + 1) _ _ = true
    simp only [Instr.sameBits, List.size_toArray, beq_self_eq_true, Bool.true_and]
    exact this
  · cases h

theorem checkKey_sound {ρ : Ren} {t : TypeId} {k : AV} {v : Value} (h : keyFits P t k = true) (hv : VR ρ k v) (em : Bool) (w : World) : (Instr.checkKey em 10000 t v).run P w = .ok () w := by
  unfold keyFits at h
  split at h
  · rename_i hk
    obtain ⟨ti, i, d, z, hty, e0⟩ := kindOf_spec hk
    have := tk_int (e0 ▸ hty.kind); subst this
    simp only [VR] at hv; subst hv
    obtain ⟨n, hn⟩ : ∃ n, 10000 = n + 1 := ⟨9999, rfl⟩
    rw [hn]
    simp [Instr.checkKey, hty.run_und]
  · rename_i fs xs hk
    obtain ⟨ti, i, d, z, hty, e0⟩ := kindOf_spec hk
    obtain ⟨fl, rfl, _⟩ := tk_struct (e0 ▸ hty.kind)
    obtain ⟨vs, rfl, hvs⟩ := hv
    split at h
    · rename_i r hr
      have hf : eqFieldsA P fl.toList 0 xs xs ≠ none := by
        unfold eqAgg at hr
        simp only [hty.und] at hr
        split at hr
        · cases hr
        · split at hr
          · cases hr
          · rw [hr]; simp
      obtain ⟨n, hn⟩ : ∃ n, 10000 = (n + 1) + 1 := ⟨9998, rfl⟩
      have := checkFields (P := P) w em n vs fl.toList 0 xs hf (by simpa using hvs)
      obtain ⟨d, hd⟩ : ∃ d, d = n + 1 := ⟨_, rfl⟩
      rw [← hd] at hn this
      rw [hn]
      simp only [Instr.checkKey, Sem.run_bind, hty.run_und, Result.andThen_ok]
      rw [← Array.forIn_toList]
      exact (congrArg (fun r => Result.andThen r fun _ w' => Sem.run P (pure ()) w') this).trans rfl
    · cases h
  · cases h

theorem keyEq_agg {t : TypeId} {xs : List AV} {b : AV} {r : Bool} (h : keyEq P t (.agg xs) b = some r) : ∃ ys, b = .agg ys ∧ eqAgg P t xs ys = some r := by
  cases b <;> simp only [keyEq] at h <;> first | (cases h; done) | exact ⟨_, rfl, h⟩

theorem keyEq_int {t : TypeId} {k : IntKind} {a : Int} {b : AV} {r : Bool} (h : keyEq P t (.int k a) b = some r) : ∃ c, b = .int k c ∧ r = (a == c) := by
  cases b <;> simp only [keyEq] at h <;> first | (cases h; done) | skip
  split at h
  · rename_i hk
    have := kindEq_eq hk; subst this
    injection h with h
    exact ⟨_, rfl, by rw [← h, ieq_eq]⟩
  · cases h

def hit (i0 : Nat) (ces : List MapEntry) : Option Nat → Option (Nat × Value)
  | none => none
  | some j => (ces[j]?).map fun e => (i0 + j, e.val)

theorem findIx_lt {t : TypeId} {k : AV} : ∀ {es : List (AV × AV)} {j : Nat}, findIx P t k es = some (some j) → j < es.length
  | [], j, h => by simp [findIx] at h
  | (k', v) :: es, j, h => by
    simp only [findIx] at h
    split at h
    · injection h with h; injection h with h; subst h; simp
    · split at h
      · rename_i j' hj
        injection h with h; injection h with h; subst h
        simpa using findIx_lt hj
      · rename_i hne
        exact absurd h (hne _)
    · cases h

theorem findAsking_sound {ρ : Ren} {t : TypeId} {k : AV} {kv : Value} (hkv : VR ρ k kv) (hagg : ∃ xs, k = .agg xs) (w : World) :
    ∀ {es : List (AV × AV)} {ces : List MapEntry} {r : Option Nat} (i0 : Nat), findIx P t k es = some r → MR ρ es ces →
      (Instr.findAsking t kv ces i0).run P w = .ok (hit i0 ces r) w ∧
      ∀ j, r = some j → ∃ e, ces[j]? = some e ∧ Instr.sameBits 10000 e.key kv = true
  | [], _, r, i0, h, hm => by
    simp only [MR] at hm; subst hm
    simp only [findIx] at h; injection h with h; subst h
    exact ⟨by simp [Instr.findAsking, hit], fun j hj => by cases hj⟩
  | (k', v) :: es, _, r, i0, h, hm => by
    obtain ⟨e, es', rfl, h1, h2, h3⟩ := hm
    obtain ⟨xs, rfl⟩ := hagg
    simp only [findIx] at h
    split at h
    · rename_i hk
      injection h with h; subst h
      have hs := keyEq_same hk hkv h1
      obtain ⟨bs, rfl, hk⟩ := keyEq_agg hk
      obtain ⟨vs, rfl, hvs⟩ := hkv
      obtain ⟨us, hu, hus⟩ := h1
      have heq := (eqAgg_sound (P := P) hk hvs hus w).1
      rw [← hu] at heq
      refine ⟨?_, fun j hj => by injection hj with hj; subst hj; exact ⟨e, rfl, hs⟩⟩
      simp [Instr.findAsking, Op.equal, Op.maxDepth, heq, hit]
    · rename_i hk
      have hne : (Op.equal t kv e.key).run P w = .ok false w := by
        obtain ⟨bs, rfl, hk⟩ := keyEq_agg hk
        obtain ⟨vs, rfl, hvs⟩ := hkv
        obtain ⟨us, hu, hus⟩ := h1
        have heq := (eqAgg_sound (P := P) hk hvs hus w).1
        rw [← hu] at heq
        simpa [Op.equal, Op.maxDepth] using heq
      have hstep : ∀ r', findIx P t (.agg xs) es = some r' → (Instr.findAsking t kv (e :: es') i0).run P w = .ok (hit (i0 + 1) es' r') w := by
        intro r' hr'
        have := (findAsking_sound hkv ⟨xs, rfl⟩ w (i0 + 1) hr' h3).1
        simp only [Instr.findAsking, Sem.run_bind, hne, Result.andThen_ok, Bool.false_eq_true, if_false, this]
      split at h
      · rename_i j hj
        injection h with h; subst h
        refine ⟨?_, fun j' hj' => ?_⟩
        · rw [hstep _ hj]
          simp [hit, Nat.add_assoc, Nat.add_comm 1 j]
        · injection hj' with hj'; subst hj'
          simpa using (findAsking_sound hkv ⟨xs, rfl⟩ w (i0 + 1) hj h3).2 j rfl
      · rename_i hnn
        cases r with
        | none => exact ⟨by rw [hstep _ h]; rfl, fun j hj => by cases hj⟩
        | some j => exact absurd h (hnn j)
    · cases h

theorem findNow_sound {ρ : Ren} {t : TypeId} {kd : IntKind} {k0 : IntKind} {a : Int} :
    ∀ {es : List (AV × AV)} {ces : List MapEntry} {r : Option Nat} (i0 : Nat), findIx P t (.int k0 a) es = some r → MR ρ es ces →
      Instr.findNow (.int kd) (.int k0 a) ces i0 = some (hit i0 ces r) ∧
      ∀ j, r = some j → ∃ e, ces[j]? = some e ∧ Instr.sameBits 10000 e.key (.int k0 a) = true
  | [], _, r, i0, h, hm => by
    simp only [MR] at hm; subst hm
    simp only [findIx] at h; injection h with h; subst h
    exact ⟨by simp [Instr.findNow, hit], fun j hj => by cases hj⟩
  | (k', v) :: es, _, r, i0, h, hm => by
    obtain ⟨e, es', rfl, h1, h2, h3⟩ := hm
    simp only [findIx] at h
    split at h
    · rename_i hk
      injection h with h; subst h
      have hs := keyEq_same (ρ := ρ) hk (rfl : VR ρ (.int k0 a) (.int k0 a)) h1
      refine ⟨?_, fun j hj => by injection hj with hj; subst hj; exact ⟨e, rfl, hs⟩⟩
      obtain ⟨c, rfl, hk2⟩ := keyEq_int hk
      simp only [VR] at h1
      simp [Instr.findNow, h1, Instr.sameNow, ← hk2, hit]
    · rename_i hk
      have hne : Instr.sameNow (.int kd) (.int k0 a) e.key = some false := by
        obtain ⟨c, rfl, hk2⟩ := keyEq_int hk
        simp only [VR] at h1
        simp [h1, Instr.sameNow, ← hk2]
      have hstep : ∀ r', findIx P t (.int k0 a) es = some r' → Instr.findNow (.int kd) (.int k0 a) (e :: es') i0 = some (hit (i0 + 1) es' r') := by
        intro r' hr'
        have := (findNow_sound (kd := kd) (i0 + 1) hr' h3).1
        simp only [Instr.findNow, hne, this]
      split at h
      · rename_i j hj
        injection h with h; subst h
        refine ⟨?_, fun j' hj' => ?_⟩
        · rw [hstep _ hj]
          simp [hit, Nat.add_assoc, Nat.add_comm 1 j]
        · injection hj' with hj'; subst hj'
          simpa using (findNow_sound (kd := kd) (i0 + 1) hj h3).2 j rfl
      · rename_i hnn
        cases r with
        | none => exact ⟨by rw [hstep _ h]; rfl, fun j hj => by cases hj⟩
        | some j => exact absurd h (hnn j)
    · cases h

/-- The model's search of a key, by the abstract one. -/
theorem findKey_sound {ρ : Ren} {t : TypeId} {k : AV} {kv : Value} (hf : keyFits P t k = true) (hkv : VR ρ k kv) {es : List (AV × AV)} {ces : List MapEntry} {r : Option Nat}
    (h : findIx P t k es = some r) (hm : MR ρ es ces) (w : World) :
    (Instr.findKey t kv ces).run P w = .ok (hit 0 ces r) w ∧
      ∀ j, r = some j → ∃ e, ces[j]? = some e ∧ Instr.sameBits 10000 e.key kv = true := by
  unfold keyFits at hf
  split at hf
  · rename_i kd k0 a hk
    obtain ⟨ti, i, d, z, hty, e0⟩ := kindOf_spec hk
    have := tk_int (e0 ▸ hty.kind); subst this
    simp only [VR] at hkv; subst hkv
    obtain ⟨h1, h2⟩ := findNow_sound (kd := kd) 0 h hm
    refine ⟨?_, h2⟩
    simp only [Instr.findKey, Sem.run_bind, hty.run_und, Result.andThen_ok, h1, Sem.run_pure]
  · rename_i fs xs hk
    obtain ⟨ti, i, d, z, hty, e0⟩ := kindOf_spec hk
    obtain ⟨fl, rfl, _⟩ := tk_struct (e0 ▸ hty.kind)
    obtain ⟨h1, h2⟩ := findAsking_sound hkv ⟨xs, rfl⟩ w 0 h hm
    refine ⟨?_, h2⟩
    cases ces with
    | nil =>
      have hn : r = none := by
        cases es with
        | nil => simp only [findIx] at h; injection h with h; exact h.symm
        | cons e es => obtain ⟨_, _, he, _⟩ := (show MR ρ ((e.1, e.2) :: es) [] from hm); cases he
      subst hn
      simp only [Instr.findKey, Sem.run_bind, hty.run_und, Result.andThen_ok, Instr.findNow, Sem.run_pure, hit]
    | cons e ces =>
      have hnow : Instr.findNow (.struct fl) kv (e :: ces) 0 = none := by simp [Instr.findNow, Instr.sameNow]
      simp only [Instr.findKey, Sem.run_bind, hty.run_und, Result.andThen_ok, hnow, h1]
  · cases hf

/-! ## All that read -/
theorem MR_of {ρ : Ren} {h : AH} {w : World} (hr : HR ρ h w) {b : Nat} {es : List (AV × AV)} (hg : h.get b = .map es) {g : Pl} (hρ : ρ b = some g) :
    ∃ ces clock, w.heap[g.blk]? = some (.map ces clock) ∧ MR ρ es ces.toList := by
  have := hr.blk b g hρ
  rw [hg] at this
  exact this

theorem run_getObj_map {w : World} {r : Nat} {ces : Array MapEntry} {clock : Nat} (h : w.heap[r]? = some (.map ces clock)) : (getObj r).run P w = .ok (.map ces clock) w := by
  simp [getObj, Sem.run, h]

theorem lookup_sound {ρ : Ren} {h : AH} {w : World} (hr : HR ρ h w) {t : TypeId} {m k r : AV} {ok : Bool} {mv kv : Value} (hl : lookupA P h t m k ok = some r) (hm : VR ρ m mv) (hk : VR ρ k kv) :
    ∃ z, VR ρ r z ∧ (Instr.lookup t mv kv ok).run P w = .ok z w := by
  unfold lookupA at hl
  split at hl
  · rename_i kt et hkd
    obtain ⟨ti, i, d, z, hty, e0⟩ := kindOf_spec hkd
    have := tk_map (e0 ▸ hty.kind); subst this
    split at hl
    · rename_i te hfit hte
      obtain ⟨ie, de, ze, htye⟩ := tiOf_spec hte
      have hck := fun em => checkKey_sound (P := P) hfit hk em w
      split at hl
      · injection hl with hl; subst hl
        simp only [VR] at hm; subst hm
        have hf : (Instr.findKey kt kv []).run P w = .ok none w := (findKey_sound (P := P) (es := []) (r := none) hfit hk rfl (by simp [MR]) w).1
        cases ok
        · refine ⟨ze, htye.zeroR ρ, ?_⟩
          simp [Instr.lookup, hty.run_und, hck, hf, htye.run_zero]
        · refine ⟨.tuple #[ze, .bool false], ⟨[ze, .bool false], rfl, VRs.cons (htye.zeroR ρ) (VRs.cons rfl rfl)⟩, ?_⟩
          simp [Instr.lookup, hty.run_und, hck, hf, htye.run_zero]
      · rename_i b
        obtain ⟨g, hg, rfl⟩ := hm
        split at hl
        · rename_i es hget
          obtain ⟨ces, clock, hheap, hmr⟩ := MR_of hr hget hg
          have hob := run_getObj_map (P := P) hheap
          unfold findA at hl
          split at hl
          · rename_i v hv
            split at hv
            · rename_i j hj
              split at hv
              · rename_i e he
                injection hv with hv; injection hv with hv; subst hv
                injection hl with hl; subst hl
                rw [nth_eq] at he
                obtain ⟨hf, _⟩ := findKey_sound (P := P) hfit hk hj hmr w
                obtain ⟨ce, hce, _, hval⟩ := hmr.get j e.1 e.2 he
                simp only [hit, hce, Option.map_some] at hf
                cases ok
                · exact ⟨ce.val, hval, by simp [Instr.lookup, hty.run_und, hob, hck, hf]⟩
                · exact ⟨.tuple #[ce.val, .bool true], ⟨[ce.val, .bool true], rfl, VRs.cons hval (VRs.cons rfl rfl)⟩, by simp [Instr.lookup, hty.run_und, hob, hck, hf]⟩
              · cases hv
            · injection hv with hv; cases hv
            · cases hv
          · rename_i hv
            split at hv
            · split at hv
              · injection hv with hv; cases hv
              · cases hv
            · rename_i hj
              injection hl with hl; subst hl
              obtain ⟨hf, _⟩ := findKey_sound (P := P) hfit hk hj hmr w
              simp only [hit] at hf
              cases ok
              · exact ⟨ze, htye.zeroR ρ, by simp [Instr.lookup, hty.run_und, hob, hck, hf, htye.run_zero]⟩
              · exact ⟨.tuple #[ze, .bool false], ⟨[ze, .bool false], rfl, VRs.cons (htye.zeroR ρ) (VRs.cons rfl rfl)⟩, by simp [Instr.lookup, hty.run_und, hob, hck, hf, htye.run_zero]⟩
            · cases hv
          · cases hl
        · cases hl
      · cases hl
    · cases hl
  · cases hl

theorem len_sound {ρ : Ren} {h : AH} {w : World} (hr : HR ρ h w) {t ty : TypeId} {ts : List TypeId} {x r : AV} {u : Value} (hl : lenA P h t x = some r) (hx : VR ρ x u) :
    ∃ z, VR ρ r z ∧ (Builtin.len_ (t :: ts).toArray ty #[u]).run P w = .ok z w := by
  unfold lenA at hl
  split at hl
  · rename_i b
    split at hl
    · rename_i hk
      obtain ⟨ti, i, d, z, hty, e0⟩ := kindOf_spec hk
      have := tk_map (e0 ▸ hty.kind); subst this
      obtain ⟨g, hg, rfl⟩ := hx
      split at hl
      · rename_i es hget
        obtain ⟨ces, clock, hheap, hmr⟩ := MR_of hr hget hg
        have hob := run_getObj_map (P := P) hheap
        injection hl with hl; subst hl
        refine ⟨.int .i64 ces.size, ?_, by simp [Builtin.len_, hty.run_und, goInt, hob]⟩
        have := hmr.length
        simp only [Array.length_toList] at this
        simp only [VR, this]
      · cases hl
    · cases hl
  · rename_i hnm
    clear hnm
    split at hl
    · rename_i hk
      obtain ⟨ti, i, d, z, hty, e0⟩ := kindOf_spec hk
      obtain ⟨e, ie, d', rfl, _⟩ := tk_arr (e0 ▸ hty.kind)
      injection hl with hl; subst hl
      exact ⟨_, rfl, by simp [Builtin.len_, hty.run_und, goInt]⟩
    · rename_i e hk
      obtain ⟨ti, i, d, z, hty, e0⟩ := kindOf_spec hk
      have := tk_ptr (e0 ▸ hty.kind); subst this
      split at hl
      · rename_i hk2
        obtain ⟨ti2, i2, d2, z2, hty2, e2⟩ := kindOf_spec hk2
        obtain ⟨e', ie, d', rfl, _⟩ := tk_arr (e2 ▸ hty2.kind)
        injection hl with hl; subst hl
        exact ⟨_, rfl, by simp [Builtin.len_, hty.run_und, hty2.run_und, goInt]⟩
      · cases hl
    · rename_i hk
      obtain ⟨ti, i, d, z, hty, e0⟩ := kindOf_spec hk
      obtain ⟨rfl, _⟩ := tk_slice (e0 ▸ hty.kind)
      injection hl with hl; subst hl
      obtain ⟨g, hg, rfl⟩ := hx
      exact ⟨_, rfl, by simp [Builtin.len_, hty.run_und, goInt]⟩
    · rename_i hk
      obtain ⟨ti, i, d, z, hty, e0⟩ := kindOf_spec hk
      obtain ⟨rfl, _⟩ := tk_slice (e0 ▸ hty.kind)
      injection hl with hl; subst hl
      simp only [VR] at hx; subst hx
      exact ⟨_, rfl, by simp [Builtin.len_, hty.run_und, goInt]⟩
    · rename_i hk
      obtain ⟨ti, i, d, z, hty, e0⟩ := kindOf_spec hk
      have := tk_map (e0 ▸ hty.kind); subst this
      injection hl with hl; subst hl
      simp only [VR] at hx; subst hx
      exact ⟨_, rfl, by simp [Builtin.len_, hty.run_und, goInt]⟩
    · cases hl

theorem readA_sound {ρ : Ren} {env : Env} {ev : Operand → Value} (he : EnvR ρ env ev) {h : AH} {w : World} (hr : HR ρ h w) {o : Oper} (hc : cls o.op = .read) {r : AV} (hl : readA P env h o.op = some r) :
    ∃ u, VR ρ r u ∧ (execOp ev o).run P w = .ok (.value u) w := by
  obtain ⟨dst, op, type, pos, after, guard⟩ := o
  simp only at hc hl ⊢
  cases op <;> simp only [cls] at hc <;> first | (cases hc; done) | skip
  case load t a =>
    simp only [readA, on1] at hl
    split at hl
    · rename_i v hv
      obtain ⟨z, hz, hrun⟩ := load_sound (P := P) hr hl (he a v hv)
      exact ⟨z, hz, by simp only [execOp, Sem.run_bind, hrun, Result.andThen_ok, Sem.run_pure]⟩
    · cases hl
  case lookup t m k ok =>
    simp only [readA, on2] at hl
    split at hl
    · rename_i v hv
      split at hl
      · rename_i u hu
        obtain ⟨z, hz, hrun⟩ := lookup_sound (P := P) hr hl (he m v hv) (he k u hu)
        exact ⟨z, hz, by simp only [execOp, Sem.run_bind, hrun, Result.andThen_ok, Sem.run_pure]⟩
      · cases hl
    · cases hl
  case call c =>
    obtain ⟨callee, args, argTypes⟩ := c
    simp only at hc hl ⊢
    simp only [readA] at hl
    split at hl
    · rename_i o0 t ts x e1 e2
      obtain ⟨u, us, hus, hu, hnil⟩ := evs_sound he e2
      simp only [VRs] at hnil; subst hnil
      obtain ⟨z, hz, hrun⟩ := len_sound (P := P) (ts := ts) (ty := type) hr hl hu
      refine ⟨z, hz, ?_⟩
      have ha : args.map ev = #[u] := by apply Array.ext'; simpa using hus
      have ht : argTypes = (t :: ts).toArray := by apply Array.ext'; simpa using e1
      simp only [execOp, resolve, Sem.run_bind, Sem.run_pure, Result.andThen_ok, invoke, builtin, ha, ht, hrun]
    · cases hl

end
end Go.Abs

/-! Heaps that turn; soundness of what makes blocks and of what writes. -/
namespace Go.Abs
open Go

theorem BR.of_heap {ρ : Ren} {g : Pl} {B : ABlk} {w w' : World} (h : w'.heap = w.heap) (hb : BR ρ g B w) : BR ρ g B w' := hb.same (by rw [h])

theorem HR.of_heap {ρ : Ren} {h : AH} {w w' : World} (hr : HR ρ h w) (he : w'.heap = w.heap) : HR ρ h w' :=
  ⟨fun b g hg => (hr.blk b g hg).of_heap he, hr.inj, hr.fresh, fun b g hg => by rw [he]; exact hr.lt b g hg⟩

theorem HR.push {ρ : Ren} {h : AH} {w : World} (hr : HR ρ h w) (B : ABlk) : HR ρ (h.push B) w := by
  have hne : ∀ b g, ρ b = some g → b ≠ h.next := fun b g hg e => by
    rw [hr.fresh b (by omega)] at hg; cases hg
  refine ⟨fun b g hg => ?_, fun b b' g g' hg hg' he hbb => ?_, fun b hb => hr.fresh b (by simp only [AH.push] at hb; omega), hr.lt⟩
  · rw [AH.get_push, if_neg (hne b g hg)]; exact hr.blk b g hg
  · rw [AH.get_push, AH.get_push, if_neg (hne b g hg), if_neg (hne b' g' hg')]; exact hr.inj b b' g g' hg hg' he hbb

theorem HR.grow {ρ : Ren} {h : AH} {w : World} (hr : HR ρ h w) (o : Obj) : HR ρ h (w.alloc o) :=
  ⟨fun b g hg => (hr.blk b g hg).same (heap_alloc_old w o _ (hr.lt b g hg)), hr.inj, hr.fresh, fun b g hg => by have := hr.lt b g hg; simp; omega⟩

def updR (ρ : Ren) (b : Nat) (g : Pl) : Ren := fun x => if x = b then some g else ρ x

theorem updR_ext {ρ : Ren} {b : Nat} {g : Pl} (h : ρ b = none) : Ext ρ (updR ρ b g) := by
  intro x y hx
  unfold updR
  by_cases e : x = b
  · subst e; rw [h] at hx; cases hx
  · rw [if_neg e]; exact hx

theorem HR.bind {ρ : Ren} {h : AH} {w : World} (hr : HR ρ h w) {b : Nat} {g : Pl} (hb : b < h.next) (hn : ρ b = none) (hg : g.blk < w.heap.size) (hB : BR (updR ρ b g) g (h.get b) w)
    (hsep : ∀ b' g', ρ b' = some g' → g'.blk = g.blk → Sep (h.get b') (h.get b)) : HR (updR ρ b g) h w := by
  have hext := updR_ext (g := g) hn
  have hsym : ∀ x y, Sep x y → Sep y x := fun x y hxy => by
    rcases hxy with h1 | h1 | ⟨h1, h2⟩
    · exact .inr (.inl h1)
    · exact .inl h1
    · exact .inr (.inr ⟨h2, h1⟩)
  refine ⟨fun x y hx => ?_, fun x x' y y' hx hx' he hne => ?_, fun x hx => ?_, fun x y hx => ?_⟩
  · unfold updR at hx
    split at hx
    · rename_i e; subst e; injection hx with hx; subst hx; exact hB
    · exact (hr.blk x y hx).mono hext
  · unfold updR at hx hx'
    split at hx
    · rename_i e; subst e; injection hx with hx; subst hx
      split at hx'
      · rename_i e'; exact absurd e'.symm hne
      · exact hsym _ _ (hsep x' y' hx' he.symm)
    · split at hx'
      · rename_i e'; subst e'; injection hx' with hx'; subst hx'; exact hsep x y hx he
      · exact hr.inj x x' y y' hx hx' he hne
  · unfold updR
    rw [if_neg (by omega)]
    exact hr.fresh x hx
  · unfold updR at hx
    split at hx
    · injection hx with hx; subst hx; exact hg
    · exact hr.lt x y hx

theorem HR.upd {ρ : Ren} {h : AH} {w w' : World} (hr : HR ρ h w) {b : Nat} {g : Pl} {B' : ABlk} (hg : ρ b = some g) (hrw : (h.get b).rw = true) (hsize : w'.heap.size = w.heap.size)
    (hother : ∀ c, c ≠ g.blk → w'.heap[c]? = w.heap[c]?) (hB : BR ρ g B' w') : HR ρ (h.put b B') w' := by
  have hdead : ∀ b' g', ρ b' = some g' → b' ≠ b → g'.blk = g.blk → h.get b' = .dead := fun b' g' hg' hne he => by
    rcases hr.inj b' b g' g hg' hg he hne with h1 | h1 | ⟨_, h2⟩
    · exact h1
    · rw [h1] at hrw; cases hrw
    · rw [h2] at hrw; cases hrw
  refine ⟨fun x y hx => ?_, fun x x' y y' hx hx' he hne => ?_, fun x hx => hr.fresh x hx, fun x y hx => by rw [hsize]; exact hr.lt x y hx⟩
  · rw [AH.get_put]
    split
    · rename_i e; subst e; rw [hg] at hx; injection hx with hx; subst hx; exact hB
    · rename_i e
      by_cases hc : y.blk = g.blk
      · rw [hdead x y hx e hc]; trivial
      · exact (hr.blk x y hx).same (hother _ hc)
  · rw [AH.get_put, AH.get_put]
    by_cases e : x = b
    · subst e
      have e' : x' ≠ x := fun h => hne h.symm
      rw [if_pos rfl, if_neg e']
      rw [hg] at hx; injection hx with hx; subst hx
      exact .inr (.inl (hdead x' y' hx' e' he.symm))
    · rw [if_neg e]
      by_cases e' : x' = b
      · subst e'
        rw [if_pos rfl]
        rw [hg] at hx'; injection hx' with hx'; subst hx'
        exact .inl (hdead x y hx e he)
      · rw [if_neg e']
        exact hr.inj x x' y y' hx hx' he hne

theorem Fr.upd {ρ : Ren} {h : AH} {w w' : World} {b : Nat} {g : Pl} {B' : ABlk} (hg : ρ b = some g) (hrw : (h.get b).rw = true) (hos : w'.os = w.os) (ht : w'.tape = w.tape) (ho : w'.output = w.output)
    (hsize : w'.heap.size = w.heap.size) (hother : ∀ c, c ≠ g.blk → w'.heap[c]? = w.heap[c]?) (n : Nat) : Fr n ρ h w ρ (h.put b B') w' := by
  refine ⟨hos, ht, ho, by omega, fun c hc hno => hother c fun e => ?_, fun x y hx hr => ?_, fun _ _ => rfl, Nat.le_refl _, Ext.refl _⟩
  · have := hno b g hg e.symm
    rw [hrw] at this; cases this
  · rw [AH.get_put] at hr
    split at hr
    · rename_i e; subst e
      rw [hg] at hx; injection hx with hx; subst hx
      exact .inl ⟨x, g, hg, hrw, rfl⟩
    · exact .inl ⟨x, y, hx, hr, rfl⟩

theorem Fr.of_heap {n : Nat} {ρ : Ren} {h : AH} {w w' : World} (he : w'.heap = w.heap) (hos : w'.os = w.os) (ht : w'.tape = w.tape) (ho : w'.output = w.output) : Fr n ρ h w ρ h w' :=
  ⟨hos, ht, ho, by rw [he]; exact Nat.le_refl _, fun _ _ _ => by rw [he], fun b g hb hr => .inl ⟨b, g, hb, hr, rfl⟩, fun _ _ => rfl, Nat.le_refl _, Ext.refl _⟩

/-- A new block: real and abstract, bound to each other. -/
theorem alloc_bind {ρ : Ren} {h : AH} {w : World} (hr : HR ρ h w) {b : Nat} (hb : b < h.next) (hn : ρ b = none) {o : Obj}
    (hB : BR (updR ρ b ⟨w.heap.size, 0, 0⟩) ⟨w.heap.size, 0, 0⟩ (h.get b) (w.alloc o)) : HR (updR ρ b ⟨w.heap.size, 0, 0⟩) h (w.alloc o) :=
  (hr.grow o).bind hb hn (by simp) hB fun b' g' hg' he => by have := hr.lt b' g' hg'; simp only at he; omega

theorem Fr.alloc {ρ : Ren} {h h' : AH} {w : World} {b : Nat} {o : Obj} (hn : ρ b = none) (hget : ∀ x, ρ x ≠ none → h'.get x = h.get x) (hnext : h.next ≤ h'.next) {e : Nat} {n : Nat} (hb : n ≤ b) :
    Fr n ρ h w (updR ρ b ⟨w.heap.size, 0, e⟩) h' (w.alloc o) := by
  refine ⟨rfl, rfl, rfl, by simp, fun c hc _ => heap_alloc_old w o c hc, fun x y hx hr => ?_, fun x hx => by unfold updR; rw [if_neg (by omega)], hnext, updR_ext hn⟩
  unfold updR at hx
  split at hx
  · injection hx with hx; subst hx; exact .inr (Nat.le_refl _)
  · rw [hget x (by rw [hx]; simp)] at hr
    exact .inl ⟨x, y, hx, hr, rfl⟩

theorem blkOf_BR {ρ : Ren} {cs : List AV} {vs : List Value} (hv : VRs ρ cs vs) {w : World} {g : Nat} {elem : TypeId} {esz : Nat} (hg : w.heap[g]? = some (.cells vs.toArray elem (0, 0))) :
    BR ρ ⟨g, 0, 0⟩ (blkOf cs elem esz) w := by
  refine ⟨vs.toArray, hg, by simp [hv.length], fun i hi => ?_⟩
  simp only at hi
  obtain ⟨v, hvv, hr⟩ := hv.get i _ (List.getElem?_eq_getElem hi)
  refine ⟨v, by simpa using hvv, ?_⟩
  have : (Sto.tr Tr.lf (listFn cs)).get i = cs[i] := by
    simp only [Sto.get, Tr.get_lf]
    exact listFn_get cs i _ (List.getElem?_eq_getElem hi)
  rw [this]; exact hr

section
variable {P : Program}

theorem reps_length (z : List AV) : ∀ n, (reps z n).length = n * z.length
  | 0 => by simp [reps]
  | n + 1 => by simp [reps, reps_length z n, Nat.add_mul]; omega

theorem reps_get {z : List AV} (hz : 0 < z.length) : ∀ (n i : Nat), i < n * z.length → (reps z n)[i]? = z[i % z.length]?
  | 0, i, h => by omega
  | n + 1, i, h => by
    simp only [reps]
    by_cases hi : i < z.length
    · rw [List.getElem?_append_left hi, Nat.mod_eq_of_lt hi]
    · have e : i % z.length = (i - z.length) % z.length := Nat.mod_eq_sub_mod (by omega)
      rw [List.getElem?_append_right (by omega), reps_get hz n (i - z.length) (by rw [Nat.add_mul, Nat.one_mul] at h; omega), e]

theorem reps_VRs {ρ : Ren} {z : List AV} {zv : Array Value} (hz : VRs ρ z zv.toList) (hpos : 0 < z.length) (n : Nat) :
    VRs ρ (reps z n) ((Array.range (n * zv.size)).map (zv[· % zv.size]!)).toList := by
  have hl : z.length = zv.size := by simpa using hz.length
  refine VRs.of_get ?_ ?_
  · rw [reps_length, hl]; simp
  · intro i a v ha hv
    have hi : i < n * z.length := by
      have := (List.getElem?_eq_some_iff.1 ha).1
      rwa [reps_length] at this
    rw [reps_get hpos n i hi] at ha
    obtain ⟨u, hu, hr⟩ := hz.get _ a ha
    have hi2 : i < n * zv.size := by rw [← hl]; exact hi
    simp only [Array.toList_map, List.getElem?_map, Array.toList_range, List.getElem?_range hi2, Option.map_some, Option.some.injEq] at hv
    subst hv
    have hlt : i % zv.size < zv.size := Nat.mod_lt _ (by omega)
    rw [getElem!_pos zv (i % zv.size) hlt]
    rw [hl, Array.getElem?_toList, Array.getElem?_eq_getElem hlt] at hu
    injection hu with hu
    rw [hu]; exact hr

/-- What makes one block: the model's own block, and how it reads. -/
theorem allocA_sound {ρ : Ren} {env : Env} {ev : Operand → Value} (he : EnvR ρ env ev) {b : Nat} {o : Oper} (hc : cls o.op = .alloc) {v : AV} {B : ABlk} (h : allocA P env b o.op = some (v, B)) (w : World) :
    ∃ ob u, (execOp ev o).run P w = .ok (.value u) (w.alloc ob) ∧
      ∀ ρ', Ext ρ ρ' → ρ' b = some ⟨w.heap.size, 0, 0⟩ → VR ρ' v u ∧ BR ρ' ⟨w.heap.size, 0, 0⟩ B (w.alloc ob) := by
  obtain ⟨dst, op, type, pos, after, guard⟩ := o
  simp only at hc h ⊢
  cases op <;> simp only [cls] at hc <;> first | (cases hc; done) | skip
  case alloc e =>
    simp only [allocA] at h
    split at h
    · rename_i ti hti
      obtain ⟨i, d, z, hty⟩ := tiOf_spec hti
      split at h
      · rename_i cs hcs
        injection h with h; injection h with h1 h2; subst h1 h2
        refine ⟨.cells z.cells e, .pointer (some ⟨w.heap.size, 0, none⟩), ?_, fun ρ' hx hb => ⟨⟨_, hb, rfl⟩, ?_⟩⟩
        · simp [execOp, Instr.alloc, hty.run_zero, newVar, newRow]
        · have := VR.cells hcs (hty.zeroR ρ')
          exact blkOf_BR this (by simpa using heap_alloc_new w _)
      · cases h
    · cases h
  case box e x =>
    simp only [allocA, on1] at h
    split at h
    · rename_i a ha
      split at h
      · rename_i cs hcs
        injection h with h; injection h with h1 h2; subst h1 h2
        refine ⟨.cells (ev x).cells e, .pointer (some ⟨w.heap.size, 0, none⟩), ?_, fun ρ' hx hb => ⟨⟨_, hb, rfl⟩, ?_⟩⟩
        · simp [execOp, Instr.box, newVar, newRow]
        · have := VR.cells hcs ((he x a ha).mono hx)
          exact blkOf_BR this (by simpa using heap_alloc_new w _)
      · cases h
    · cases h
  case buildSlice t n ps =>
    simp only [allocA] at h
    split at h
    · rename_i vs hvs
      have hp := evp_sound he hvs
      unfold buildSliceA at h
      split at h
      · rename_i e esz bytes hk
        obtain ⟨ti, i, d, z, hty, e0⟩ := kindOf_spec hk
        obtain ⟨rfl, ie, hie, hse, _⟩ := tk_slice (e0 ▸ hty.kind)
        split at h
        · rename_i zc hz
          split at h
          · rename_i h1 h2 h5
            split at h
            · rename_i cs hf
              injection h with h; injection h with h3 h4; subst h3 h4
              unfold zeroOf at hz
              split at hz
              · rename_i te hte
                obtain ⟨ie2, de, ze, htye⟩ := tiOf_spec hte
                have hie2 : ie2 = ie := by have := htye.info; rw [hie] at this; injection this with this; exact this.symm
                subst hie2
                have hzr := VR.cells hz (htye.zeroR ρ)
                have hzl : zc.length = ze.cells.size := by simpa using hzr.length
                have hpos : 0 < esz := by simpa [Nat.blt_eq] using h1
                have hze := Nat.eq_of_beq_eq_true h5
                have hle : n * esz ≤ 16777216 := by simpa [Nat.ble_eq] using h2
                have hrep := reps_VRs hzr (by omega) n
                obtain ⟨out, ho, hr⟩ := fillA_sound hf hp hrep
                refine ⟨.cells out e, .slice (some ⟨w.heap.size, 0, none⟩) n n, ?_, fun ρ' hx hb => ⟨⟨_, hb, by simp⟩, ?_⟩⟩
                · have hno : ¬ (n * esz > 2 ^ 24) := by omega
                  by_cases h0 : n * esz = 0
                  · have hn0 : n = 0 := by
                      rcases Nat.mul_eq_zero.1 h0 with h | h
                      · exact h
                      · omega
                    subst hn0
                    have e00 : ∀ f : Nat → Value, (Array.range 0).map f = #[] := fun _ => by apply Array.ext'; simp
                    simp only [Nat.zero_mul, e00] at ho
                    simp [execOp, Instr.buildSlice, hty.run_und, sizeOf, typeInfo, hie, hse, e00, ho, newRow]
                  · rw [← hzl, hze] at ho
                    simp only [execOp, Instr.buildSlice, Sem.run_bind, hty.run_und, Result.andThen_ok, sizeOf, typeInfo, run_program, hie, Sem.run_pure, hse, hno, if_false, h0, htye.run_zero, Sem.run_ite]
                    rw [← hzl, hze] at *
                    simp [ho, newRow]
                · exact blkOf_BR (hr.mono hx) (by simpa using heap_alloc_new w _)
              · cases hz
            · cases h
          · cases h
        · cases h
      · cases h
    · cases h
  case makeSlice t l c =>
    simp only [allocA, on2] at h
    split at h
    · rename_i lv hlv
      split at h
      · rename_i cv hcv
        unfold makeSliceA at h
        split at h
        · rename_i e esz bytes lN cN hk hln hcn
          obtain ⟨ti, i, d, z, hty, e0⟩ := kindOf_spec hk
          obtain ⟨rfl, ie, hie, hse, hby⟩ := tk_slice (e0 ▸ hty.kind)
          split at h
          · rename_i zc hz
            split at h
            · rename_i h1 h2 h3 h4
              injection h with h; injection h with h5 h6; subst h5 h6
              simp only [Bool.and_eq_true, Nat.beq_eq, Nat.blt_eq] at h1
              obtain ⟨hpos, hze⟩ := h1
              have h2' : bytes * cN ≤ 2 ^ 47 := by simpa [Nat.ble_eq] using h2
              have h3' : lN ≤ cN := by simpa [Nat.ble_eq] using h3
              have h4' : cN < 2 ^ 62 := by simpa [Nat.blt_eq] using h4
              unfold zeroOf at hz
              split at hz
              · rename_i te hte
                obtain ⟨ie2, de, ze, htye⟩ := tiOf_spec hte
                have hie2 : ie2 = ie := by have := htye.info; rw [hie] at this; injection this with this; exact this.symm
                subst hie2
                have hzr := VR.cells hz (htye.zeroR ρ)
                have hzl : zc.length = ze.cells.size := by simpa using hzr.length
                have hl : ∃ k, ev l = .int k lN := by
                  unfold natOf at hln
                  split at hln
                  · injection hln with hln; subst hln
                    have := he l _ hlv; simp only [VR] at this; exact ⟨_, this⟩
                  · cases hln
                have hcc : ∃ k, ev c = .int k cN := by
                  unfold natOf at hcn
                  split at hcn
                  · injection hcn with hcn; subst hcn
                    have := he c _ hcv; simp only [VR] at this; exact ⟨_, this⟩
                  · cases hcn
                obtain ⟨kl, hl⟩ := hl
                obtain ⟨kc, hcc⟩ := hcc
                have hwl : IntKind.i64.wrap (lN : Int) = lN := by unfold IntKind.wrap; simp only [IntKind.bits, IntKind.signed]; simp; omega
                have hwc : IntKind.i64.wrap (cN : Int) = cN := by unfold IntKind.wrap; simp only [IntKind.bits, IntKind.signed]; simp; omega
                refine ⟨.cells ((Array.range (cN * esz)).map (ze.cells[· % ze.cells.size]!)) e, .slice (some ⟨w.heap.size, 0, none⟩) lN cN, ?_, fun ρ' hx hb => ⟨⟨_, hb, by simp⟩, ?_⟩⟩
                · have hbz : ((ie2.bytes : Int) * (cN : Int)) ≤ 2 ^ 48 := by
                    rw [hby]
                    have : ((bytes * cN : Nat) : Int) ≤ ((2 ^ 47 : Nat) : Int) := by exact_mod_cast h2'
                    simp only [Int.natCast_mul] at this
                    omega
                  have t1 : ¬ ((ie2.bytes : Int) * (cN : Int) > 2 ^ 48) := by omega
                  have t2 : ¬ ((lN : Int) < 0) := by omega
                  have t3 : ¬ ((cN : Int) < 0) := by omega
                  have t4 : ¬ ((lN : Int) > (cN : Int)) := by omega
                  simp only [execOp, Instr.makeSlice, Sem.run_bind, hty.run_und, Result.andThen_ok, hl, hcc, asInt, asIntOf, Sem.run_pure, typeInfo, run_program, hie, hwl, hwc, t1, t2, t3, t4,
                    decide_false, Bool.or_self, Bool.false_eq_true, if_false, run_askRoom, sizeOf, hse, Int.toNat_natCast]
                  by_cases h0 : cN * esz = 0
                  · have e00 : ∀ f : Nat → Value, (Array.range 0).map f = #[] := fun _ => by apply Array.ext'; simp
                    simp [h0, newRow, e00]
                  · simp only [h0, if_false, Sem.run_bind, htye.run_zero, Result.andThen_ok, Sem.run_pure, newRow, run_newObj]
                    rfl
                · refine ⟨_, by simpa using heap_alloc_new w _, by simp, fun i hi => ?_⟩
                  simp only at hi
                  have hlt : i % ze.cells.size < ze.cells.size := Nat.mod_lt _ (by omega)
                  refine ⟨ze.cells[i % ze.cells.size]!, by simp [hi], ?_⟩
                  have hz2 := (VR.cells hz (htye.zeroR ρ')).get (i % esz) _ (List.getElem?_eq_getElem (by rw [hze]; exact Nat.mod_lt _ hpos))
                  obtain ⟨u, hu, hr⟩ := hz2
                  simp only [Sto.get, Tr.get_lf, zeroFn]
                  rw [listFn_get zc _ _ (List.getElem?_eq_getElem (by rw [hze]; exact Nat.mod_lt _ hpos))]
                  rw [getElem!_pos ze.cells _ hlt]
                  have e3 : ze.cells.size = esz := by omega
                  simp only [e3] at hu ⊢
                  rw [Array.getElem?_toList, Array.getElem?_eq_getElem (by have := Nat.mod_lt i hpos; omega)] at hu
                  injection hu with hu
                  rw [hu]; exact hr
              · cases hz
            · cases h
          · cases h
        · cases h
      · cases h
    · cases h
  case call c => simp [allocA] at h
  case makeMap t r =>
    simp only [allocA] at h
    split at h
    · rename_i hk
      injection h with h; injection h with h1 h2; subst h1 h2
      refine ⟨.map #[] 0, .map (some w.heap.size), ?_, fun ρ' hx hb => ⟨⟨_, hb, rfl⟩, ?_⟩⟩
      · simp [execOp, Instr.makeMap]
      · exact ⟨#[], 0, heap_alloc_new w _, rfl⟩
    · cases h

end
end Go.Abs
