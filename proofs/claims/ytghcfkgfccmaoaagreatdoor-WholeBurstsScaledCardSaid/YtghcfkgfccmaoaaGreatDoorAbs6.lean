/-
  Soundness of the operations on addresses, slices; all pure operations together. (Helper theorems; each says its own conditions.)
-/
import Derived.Test.YtghcfkgfccmaoaaGreatDoorAbs5

/-! Soundness of the operations on addresses, slices; all pure operations together. -/
namespace Go.Abs
open Go

theorem add_none (b o n : Nat) : (⟨b, o, none⟩ : Addr).add n = ⟨b, o + n, none⟩ := by
  unfold Addr.add
  by_cases h : n = 0
  · subst h; simp
  · simp [h]

def VRo (ρ : Ren) : Option AV → Option Value → Prop
  | none, v => v = none
  | some a, v => ∃ u, v = some u ∧ VR ρ a u

theorem evo_sound {ρ : Ren} {env : Env} {ev : Operand → Value} (he : ∀ x v, env x = some v → VR ρ v (ev x)) {x : Option Operand} {r : Option AV} (h : evo env x = some r) :
    VRo ρ r (x.map ev) := by
  cases x with
  | none => simp [evo] at h; subst h; rfl
  | some x =>
    simp only [evo] at h
    split at h
    · rename_i v hv
      injection h with h; subst h
      exact ⟨ev x, rfl, he x v hv⟩
    · cases h

section
variable {P : Program}

theorem bound_sound {ρ : Ren} {a : AV} {u : Value} (hu : VR ρ a u) {d top m : Nat} (h : optInt (some a) d top = some m) {top' : Nat} (ht : top ≤ top') (code : BoundsCode) (w : World) :
    (Instr.sliceBound u top' code).run P w = .ok m w ∧ m ≤ top := by
  unfold optInt at h
  split at h
  · rename_i hh; cases hh
  · rename_i k n hh
    injection hh with hh; subst hh
    obtain ⟨rfl, hm⟩ := upto_spec h
    simp only [VR] at hu; subst hu
    refine ⟨?_, hm⟩
    have h1 : (0 : Int) ≤ (m : Int) ∧ (m : Int) ≤ (top' : Int) := by omega
    simp [Instr.sliceBound, asIntOf, h1]
  · cases h

theorem optInt_none {d top m : Nat} (h : optInt none d top = some m) : m = d := by
  simp [optInt] at h; exact h.symm

theorem optInt_zero {x : Option AV} {m : Nat} (h : optInt x 0 0 = some m) : m = 0 := by
  unfold optInt at h
  split at h
  · injection h with h; exact h.symm
  · exact Nat.le_zero.1 (upto_spec h).2
  · cases h

theorem bounds_none {ρ : Ren} {lo hi : Option AV} {lv hv : Option Value} (hl : VRo ρ lo lv) (hh : VRo ρ hi hv) {len cap cap' h l : Nat} (e1 : optInt hi len cap = some h) (e2 : optInt lo 0 h = some l)
    (hc : cap ≤ cap') (sl : Bool) (w : World) :
    (Instr.sliceBounds sl len cap' lv hv none).run P w = .ok (l, h, cap') w ∧ l ≤ h ∧ (h ≤ cap ∨ h = len) := by
  cases hi with
  | none =>
    simp only [VRo] at hh; subst hh
    have := optInt_none e1; subst this
    cases lo with
    | none =>
      simp only [VRo] at hl; subst hl
      have := optInt_none e2; subst this
      exact ⟨by simp [Instr.sliceBounds], Nat.zero_le _, .inr rfl⟩
    | some a =>
      obtain ⟨u, rfl, hu⟩ := hl
      obtain ⟨hr, hle⟩ := bound_sound (P := P) hu e2 (Nat.le_refl _) .sliceB w
      exact ⟨by simp [Instr.sliceBounds, hr], hle, .inr rfl⟩
  | some b =>
    obtain ⟨v, rfl, hv'⟩ := hh
    obtain ⟨hr1, hle1⟩ := bound_sound (P := P) hv' e1 hc (if sl then .sliceAcap else .sliceAlen) w
    cases lo with
    | none =>
      simp only [VRo] at hl; subst hl
      have := optInt_none e2; subst this
      exact ⟨by simp [Instr.sliceBounds, hr1], Nat.zero_le _, .inl hle1⟩
    | some a =>
      obtain ⟨u, rfl, hu⟩ := hl
      obtain ⟨hr, hle⟩ := bound_sound (P := P) hu e2 (Nat.le_refl _) .sliceB w
      exact ⟨by simp [Instr.sliceBounds, hr1, hr], hle, .inl hle1⟩

theorem bounds_some {ρ : Ren} {lo : Option AV} {hi mx : AV} {lv : Option Value} {hv mv : Value} (hl : VRo ρ lo lv) (hh : VR ρ hi hv) (hm : VR ρ mx mv) {len cap cap' h l m : Nat}
    (e0 : optInt (some mx) 0 cap = some m) (e1 : optInt (some hi) len m = some h) (e2 : optInt lo 0 h = some l)
    (hc : cap ≤ cap') (sl : Bool) (w : World) :
    (Instr.sliceBounds sl len cap' lv (some hv) (some mv)).run P w = .ok (l, h, m) w ∧ l ≤ h ∧ h ≤ m ∧ m ≤ cap := by
  obtain ⟨hr0, hle0⟩ := bound_sound (P := P) hm e0 hc (if sl then .slice3Acap else .slice3Alen) w
  obtain ⟨hr1, hle1⟩ := bound_sound (P := P) hh e1 (Nat.le_refl _) .slice3B w
  cases lo with
  | none =>
    simp only [VRo] at hl; subst hl
    have := optInt_none e2; subst this
    exact ⟨by simp [Instr.sliceBounds, hr0, hr1], Nat.zero_le _, hle1, hle0⟩
  | some a =>
    obtain ⟨u, rfl, hu⟩ := hl
    obtain ⟨hr, hle⟩ := bound_sound (P := P) hu e2 (Nat.le_refl _) .slice3C w
    exact ⟨by simp [Instr.sliceBounds, hr0, hr1, hr], hle, hle1, hle0⟩

theorem ite_addr (b o l n : Nat) (m : Nat) : (if m = l then (⟨b, o, none⟩ : Addr) else (⟨b, o, none⟩ : Addr).add (l * n)) = ⟨b, bif Nat.beq m l then o else o + l * n, none⟩ := by
  by_cases h : m = l
  · subst h; simp
  · have : Nat.beq m l = false := by
      cases hb : Nat.beq m l with
      | false => rfl
      | true => exact absurd (Nat.eq_of_beq_eq_true hb) h
    simp [h, this, add_none]

/-- A cut, in the model's own words: behind its bounds. -/
theorem cut_sound {ρ : Ren} {b off len cap esz : Nat} {ex : Bool} {lo hi mx : Option AV} {lv hv mv : Option Value} {r : AV} (h : cut b off len cap ex esz lo hi mx = some r)
    (hl : VRo ρ lo lv) (hh : VRo ρ hi hv) (hm : VRo ρ mx mv) {g : Pl} (hg : ρ b = some g) (sl : Bool) :
    ∃ z, VR ρ r z ∧ ∀ w, ∃ l' h' m', (Instr.sliceBounds sl len (if ex then cap else cap + g.ext) lv hv mv).run P w = .ok (l', h', m') w ∧
      z = .slice (some (if m' = l' then (⟨g.blk, g.off + off, none⟩ : Addr) else (⟨g.blk, g.off + off, none⟩ : Addr).add (l' * esz))) (h' - l') (m' - l') := by
  unfold cut at h
  split at h
  · simp only [VRo] at hm; subst hm
    split at h
    · rename_i hB e1
      split at h
      · rename_i lB e2
        split at h
        · injection h with h; subst h
          refine ⟨_, ⟨g, hg, rfl⟩, fun w => ⟨lB, hB, cap, ?_, ?_⟩⟩
          · exact (bounds_none (P := P) hl hh e1 e2 (Nat.le_refl _) sl w).1
          · rw [ite_addr]
            cases Nat.beq cap lB <;> simp [Nat.add_assoc]
        · have hb := fun w => bounds_none (P := P) hl hh e1 e2 (Nat.le_add_right cap g.ext) sl w
          split at h
          · rename_i hlt
            injection h with h; subst h
            have hlt' : lB < cap := by simpa [Nat.blt_eq] using hlt
            refine ⟨_, ⟨g, hg, rfl⟩, fun w => ⟨lB, hB, cap + g.ext, (hb w).1, ?_⟩⟩
            have : ¬ (cap + g.ext = lB) := by omega
            rw [if_neg this, add_none]
            simp only [Bool.false_eq_true, if_false]
            rw [show cap - lB + g.ext = cap + g.ext - lB by omega, show g.off + (off + lB * esz) = g.off + off + lB * esz by omega]
          · split at h
            · injection h with h; subst h
              refine ⟨_, ⟨g, hg, rfl⟩, fun w => ⟨0, hB, cap + g.ext, (hb w).1, ?_⟩⟩
              by_cases h0 : cap + g.ext = 0
              · simp [h0]
              · simp [add_none]
            · injection h with h; subst h
              rename_i lk _
              refine ⟨.slice (some (if cap + g.ext = lk + 1 then (⟨g.blk, g.off + off, none⟩ : Addr) else (⟨g.blk, g.off + off, none⟩ : Addr).add ((lk + 1) * esz))) (hB - (lk + 1)) (cap + g.ext - (lk + 1)), trivial, fun w => ⟨lk + 1, hB, cap + g.ext, (hb w).1, rfl⟩⟩
      · cases h
    · cases h
  · rename_i mA
    obtain ⟨mu, rfl, hmu⟩ := hm
    split at h
    · cases h
    · rename_i hA
      obtain ⟨hu, rfl, hhu⟩ := hh
      split at h
      · rename_i m' e0
        split at h
        · rename_i hB e1
          split at h
          · rename_i lB e2
            injection h with h; subst h
            have hc : cap ≤ (if ex then cap else cap + g.ext) := by split <;> omega
            refine ⟨_, ⟨g, hg, rfl⟩, fun w => ⟨lB, hB, m', (bounds_some (P := P) hl hhu hmu e0 e1 e2 hc sl w).1, ?_⟩⟩
            rw [ite_addr]
            cases Nat.beq m' lB <;> simp [Nat.add_assoc]
          · cases h
        · cases h
      · cases h

theorem slice_sound {ρ : Ren} {t : TypeId} {x r : AV} {u : Value} {lo hi mx : Option AV} {lv hv mv : Option Value} (h : sliceA P t x lo hi mx = some r) (hx : VR ρ x u)
    (hl : VRo ρ lo lv) (hh : VRo ρ hi hv) (hm : VRo ρ mx mv) : ∃ z, VR ρ r z ∧ ∀ w, (Instr.sliceAt t u lv hv mv).run P w = .ok z w := by
  unfold sliceA at h
  split at h
  · rename_i e esz bytes b off len cap ex hk
    obtain ⟨ti, i, d, z, hty, e0⟩ := kindOf_spec hk
    obtain ⟨rfl, ie, hie, hse, _⟩ := tk_slice (e0 ▸ hty.kind)
    obtain ⟨g, hg, rfl⟩ := hx
    obtain ⟨z, hz, hr⟩ := cut_sound (P := P) h hl hh hm hg true
    refine ⟨z, hz, fun w => ?_⟩
    obtain ⟨l', h', m', hb, rfl⟩ := hr w
    simp only [Instr.sliceAt, Instr.slice, Sem.run_bind, hty.run_und, Result.andThen_ok, hb, sizeOf, typeInfo, run_program, hie, Sem.run_pure, hse]
    congr 2
    split <;> simp
  · rename_i hk
    obtain ⟨ti, i, d, z, hty, e0⟩ := kindOf_spec hk
    obtain ⟨rfl, ie, hie, hse, _⟩ := tk_slice (e0 ▸ hty.kind)
    simp only [VR] at hx; subst hx
    split at h
    · rename_i hB lB e1 e2
      injection h with h; subst h
      simp only [VRo] at hm; subst hm
      refine ⟨.slice none 0 0, rfl, fun w => ?_⟩
      have hB0 := optInt_zero e2
      subst hB0
      have hl0 := optInt_zero e1
      subst hl0
      obtain ⟨hb, hle, h1⟩ := bounds_none (P := P) hl hh e2 e1 (Nat.le_refl _) true w
      simp [Instr.sliceAt, Instr.slice, hty.run_und, hb, sizeOf, typeInfo, hie]
    · rename_i mA hA hB lB e1 e2
      obtain ⟨hu, rfl, hhu⟩ := hh
      obtain ⟨mu, rfl, hmu⟩ := hm
      split at h
      · rename_i m0 e0'
        injection h with h; subst h
        refine ⟨.slice none 0 0, rfl, fun w => ?_⟩
        have hm0 : m0 = 0 := Nat.le_zero.1 (bound_sound (P := P) hmu e0' (Nat.le_refl _) .index w).2
        subst hm0
        have hB0 := optInt_zero e2
        subst hB0
        have hl0 := optInt_zero e1
        subst hl0
        obtain ⟨hb, hle, h1, _⟩ := bounds_some (P := P) hl hhu hmu e0' e2 e1 (Nat.le_refl _) true w
        simp [Instr.sliceAt, Instr.slice, hty.run_und, hb, sizeOf, typeInfo, hie]
      · cases h
    · cases h
  · rename_i n esz gg b off hk
    obtain ⟨ti, i, d, z, hty, e0⟩ := kindOf_spec hk
    obtain ⟨e, ie, d', rfl, hie, hse, _, _⟩ := tk_arr (e0 ▸ hty.kind)
    obtain ⟨g, hg, rfl⟩ := hx
    obtain ⟨z, hz, hr⟩ := cut_sound (P := P) h hl hh hm hg false
    refine ⟨z, hz, fun w => ?_⟩
    obtain ⟨l', h', m', hb, rfl⟩ := hr w
    simp only [if_true] at hb
    simp only [Instr.sliceAt, Instr.sureAddr, Sem.run_bind, hty.run_und, Result.andThen_ok, hb, sizeOf, typeInfo, run_program, hie, Sem.run_pure, hse]
  · cases h

theorem fieldAddr_sound {ρ : Ren} {t : TypeId} {x r : AV} {u : Value} {f : Nat} (h : fieldAddrA P t x f = some r) (hx : VR ρ x u) :
    ∃ z, VR ρ r z ∧ ∀ w, (Instr.fieldAt t u f).run P w = .ok z w := by
  unfold fieldAddrA at h
  split at h
  · rename_i b off
    split at h
    · rename_i fs hk
      obtain ⟨ti, i, d, z, hty, e0⟩ := kindOf_spec hk
      obtain ⟨fl, rfl, hfl⟩ := tk_struct (e0 ▸ hty.kind)
      split at h
      · rename_i o s gg hn
        split at h
        · rename_i hs
          injection h with h; subst h
          rw [nth_eq] at hn
          obtain ⟨fd, fi, d', hfd, hfi, _, he⟩ := fieldsOf_get hfl f _ hn
          injection he with he1 he2
          injection he2 with he2 he3
          obtain ⟨g, hg, rfl⟩ := hx
          refine ⟨_, ⟨g, hg, rfl⟩, fun w => ?_⟩
          have hs' : 0 < s := by simpa [Nat.blt_eq] using hs
          have hne : ¬ (fi.size = 0) := by omega
          have hfd' : fl[f]? = some fd := by simpa using hfd
          simp only [Instr.fieldAt, Sem.run_bind, hty.run_und, Result.andThen_ok, hfd', Instr.sureAddr, Sem.run_pure, fieldPlace, sizeOf, typeInfo, run_program, hfi, hne, if_false, add_none]
          rw [he1, Nat.add_assoc]
        · cases h
      · cases h
    · cases h
  · cases h

theorem part_sound {ρ : Ren} {cs : List AV} {vs : List Value} (hv : VRs ρ cs vs) {o s : Nat} {gg : Bool} {r : AV} (h : partA cs o s gg = some r) {t : TypeId} {i : TypeInfo} {d : TypeDesc}
    (hi : P.info? t = some i) (hd : P.underlying t = some d) (hs : i.size = s) (hg : gg = aggD d) :
    ∃ z, VR ρ r z ∧ ∀ w, (part t vs.toArray o).run P w = .ok z w := by
  have hag : ∀ w, (isAgg t).run P w = .ok gg w := fun w => by
    simp only [isAgg, Sem.run_bind, run_underlying hd, Result.andThen_ok, hg]
    cases d <;> rfl
  unfold partA at h
  split at h
  · split at h
    · injection h with h; subst h
      refine ⟨.agg (vs.toArray.extract o (o + s)), ⟨(vs.drop o).take s, ?_, (hv.drop o).take s⟩, fun w => ?_⟩
      · congr 1
        apply Array.ext'
        simp [List.take_drop]
      · simp [part, hag, sizeOf, typeInfo, hi, hs]
    · cases h
  · rw [nth_eq] at h
    obtain ⟨v, hv', hr⟩ := hv.get o r h
    exact ⟨v, hr, fun w => by simp [part, hag, hv']⟩

theorem field_sound {ρ : Ren} {t : TypeId} {x r : AV} {u : Value} {f : Nat} (h : fieldA P t x f = some r) (hx : VR ρ x u) :
    ∃ z, VR ρ r z ∧ ∀ w, (Instr.field t u f).run P w = .ok z w := by
  unfold fieldA at h
  split at h
  · rename_i cs
    split at h
    · rename_i fs hk
      obtain ⟨ti, i, d, z, hty, e0⟩ := kindOf_spec hk
      obtain ⟨fl, rfl, hfl⟩ := tk_struct (e0 ▸ hty.kind)
      split at h
      · rename_i o s gg hn
        rw [nth_eq] at hn
        obtain ⟨fd, fi, d', hfd, hfi, hfu, he⟩ := fieldsOf_get hfl f _ hn
        injection he with he1 he2
        injection he2 with he2 he3
        obtain ⟨vs, rfl, hvs⟩ := hx
        obtain ⟨z, hz, hr⟩ := part_sound (P := P) hvs h hfi hfu he2.symm he3
        have hfd' : fl[f]? = some fd := by simpa using hfd
        refine ⟨z, hz, fun w => ?_⟩
        simp only [Instr.field, Sem.run_bind, hty.run_und, Result.andThen_ok, hfd', asAgg, Sem.run_pure, ← he1, hr]
      · cases h
    · cases h
  · cases h

theorem indexAddr_sound {ρ : Ren} {t : TypeId} {x i r : AV} {u v : Value} (h : indexAddrA P t x i = some r) (hx : VR ρ x u) (hi : VR ρ i v) :
    ∃ z, VR ρ r z ∧ ∀ w, (Instr.indexAt t u v).run P w = .ok z w := by
  unfold indexAddrA at h
  split at h
  · rename_i k n
    simp only [VR] at hi; subst hi
    split at h
    · rename_i len esz gg b off hk
      obtain ⟨ti, i, d, z, hty, e0⟩ := kindOf_spec hk
      obtain ⟨e, ie, d', rfl, hie, hse, _, _⟩ := tk_arr (e0 ▸ hty.kind)
      split at h
      · rename_i m hm
        injection h with h; subst h
        obtain ⟨rfl, hlt⟩ := idx_spec hm
        obtain ⟨g, hg, rfl⟩ := hx
        refine ⟨_, ⟨g, hg, rfl⟩, fun w => ?_⟩
        have h1 : (0 : Int) ≤ (m : Int) ∧ (m : Int) < (len : Int) := by omega
        simp only [Instr.indexAt, asIntOf, Sem.run_bind, Sem.run_pure, hty.run_und, Instr.sureAddr, Result.andThen_ok, h1, and_self, if_true, sizeOf, typeInfo, run_program, hie, hse, add_none, Nat.add_assoc, Int.toNat_natCast]
      · cases h
    · rename_i e esz bytes b off len cap ex hk
      obtain ⟨ti, i, d, z, hty, e0⟩ := kindOf_spec hk
      obtain ⟨rfl, ie, hie, hse, _⟩ := tk_slice (e0 ▸ hty.kind)
      split at h
      · rename_i m hm
        injection h with h; subst h
        obtain ⟨rfl, hlt⟩ := idx_spec hm
        obtain ⟨g, hg, rfl⟩ := hx
        refine ⟨_, ⟨g, hg, rfl⟩, fun w => ?_⟩
        have h1 : (0 : Int) ≤ (m : Int) ∧ (m : Int) < (len : Int) := by omega
        simp only [Instr.indexAt, asIntOf, Sem.run_bind, Sem.run_pure, hty.run_und, Result.andThen_ok, h1, and_self, if_true, sizeOf, typeInfo, run_program, hie, hse, add_none, Nat.add_assoc, Int.toNat_natCast]
      · cases h
    · cases h
  · cases h

theorem index_sound {ρ : Ren} {t : TypeId} {x i r : AV} {u v : Value} (h : indexA P t x i = some r) (hx : VR ρ x u) (hi : VR ρ i v) :
    ∃ z, VR ρ r z ∧ ∀ w, (Instr.index t u v).run P w = .ok z w := by
  unfold indexA at h
  split at h
  · rename_i k n
    simp only [VR] at hi; subst hi
    split at h
    · rename_i len esz gg cs hk
      obtain ⟨ti, i, d, z, hty, e0⟩ := kindOf_spec hk
      obtain ⟨e, ie, d', rfl, hie, hse, hdu, hgg⟩ := tk_arr (e0 ▸ hty.kind)
      split at h
      · rename_i m hm
        obtain ⟨rfl, hlt⟩ := idx_spec hm
        obtain ⟨vs, rfl, hvs⟩ := hx
        obtain ⟨z, hz, hr⟩ := part_sound (P := P) hvs h hie hdu hse hgg
        refine ⟨z, hz, fun w => ?_⟩
        have h1 : (0 : Int) ≤ (m : Int) ∧ (m : Int) < (len : Int) := by omega
        simp only [Instr.index, asIntOf, Sem.run_bind, Sem.run_pure, hty.run_und, Result.andThen_ok, h1, and_self, if_true, sizeOf, typeInfo, run_program, hie, hse, Int.toNat_natCast, hr]
      · cases h
    · rename_i s hk
      obtain ⟨ti, i, d, z, hty, e0⟩ := kindOf_spec hk
      have := tk_str (e0 ▸ hty.kind); subst this
      simp only [VR] at hx; subst hx
      split at h
      · rename_i m
        split at h
        · rename_i b hb
          injection h with h; subst h
          refine ⟨_, rfl, fun w => ?_⟩
          simp [Instr.index, asIntOf, hty.run_und, hb]
        · cases h
      · cases h
    · cases h
  · cases h

theorem min2_sound {ρ : Ren} {x y r : AV} {u v : Value} (h : min2A x y = some r) (hx : VR ρ x u) (hy : VR ρ y v) : ∃ z, VR ρ r z ∧ ∀ w, (Builtin.min2 u v).run P w = .ok z w := by
  unfold min2A at h
  split at h
  · injection h with h; subst h
    simp only [VR] at hx hy; subst hx hy
    rename_i k p k' q
    refine ⟨_, rfl, fun w => ?_⟩
    unfold imin
    rw [ile_eq]
    by_cases hc : q < p
    · have : ¬ p ≤ q := by omega
      simp [Builtin.min2, hc, this]
    · have : p ≤ q := by omega
      simp [Builtin.min2, hc, this]
  · cases h

theorem max2_sound {ρ : Ren} {x y r : AV} {u v : Value} (h : max2A x y = some r) (hx : VR ρ x u) (hy : VR ρ y v) : ∃ z, VR ρ r z ∧ ∀ w, (Builtin.max2 u v).run P w = .ok z w := by
  unfold max2A at h
  split at h
  · injection h with h; subst h
    simp only [VR] at hx hy; subst hx hy
    rename_i k p k' q
    refine ⟨_, rfl, fun w => ?_⟩
    unfold imax
    rw [ile_eq]
    by_cases hc : p < q
    · have : ¬ q ≤ p := by omega
      simp [Builtin.max2, hc, this]
    · have : q ≤ p := by omega
      simp [Builtin.max2, hc, this]
  · cases h

theorem fold_sound {ρ : Ren} {f : AV → AV → Option AV} {g : Value → Value → Sem Value} (hfg : ∀ x y r u v, f x y = some r → VR ρ x u → VR ρ y v → ∃ z, VR ρ r z ∧ ∀ w, (g u v).run P w = .ok z w) :
    ∀ {ys : List AV} {x r : AV} {u : Value} {vs : List Value}, foldA f x ys = some r → VR ρ x u → VRs ρ ys vs → ∃ z, VR ρ r z ∧ ∀ w, (vs.foldlM g u).run P w = .ok z w
  | [], x, r, u, vs, h, hx, hy => by
    simp only [foldA] at h; injection h with h; subst h
    simp only [VRs] at hy; subst hy
    exact ⟨u, hx, fun w => by simp⟩
  | y :: ys, x, r, u, vs, h, hx, hy => by
    obtain ⟨v, vs', rfl, hv, hvs⟩ := hy
    simp only [foldA] at h
    split at h
    · rename_i z hz
      obtain ⟨zv, hzr, hrun⟩ := hfg _ _ _ _ _ hz hx hv
      obtain ⟨o, ho, horun⟩ := fold_sound hfg h hzr hvs
      exact ⟨o, ho, fun w => by simp only [List.foldlM_cons, Sem.run_bind, hrun, Result.andThen_ok, horun]⟩
    · cases h

theorem cap_sound {ρ : Ren} {t ty : TypeId} {ts : List TypeId} {x r : AV} {u : Value} (h : capA P t x = some r) (hx : VR ρ x u) :
    ∃ z, VR ρ r z ∧ ∀ w, (Builtin.cap_ (t :: ts).toArray ty #[u]).run P w = .ok z w := by
  unfold capA at h
  split at h
  · rename_i n esz gg hk
    obtain ⟨ti, i, d, z, hty, e0⟩ := kindOf_spec hk
    obtain ⟨e, ie, d', rfl, _⟩ := tk_arr (e0 ▸ hty.kind)
    injection h with h; subst h
    exact ⟨_, rfl, fun w => by simp [Builtin.cap_, hty.run_und, goInt]⟩
  · rename_i hk
    obtain ⟨ti, i, d, z, hty, e0⟩ := kindOf_spec hk
    obtain ⟨rfl, _⟩ := tk_slice (e0 ▸ hty.kind)
    injection h with h; subst h
    obtain ⟨g, hg, rfl⟩ := hx
    exact ⟨_, rfl, fun w => by simp [Builtin.cap_, hty.run_und, goInt]⟩
  · rename_i hk
    obtain ⟨ti, i, d, z, hty, e0⟩ := kindOf_spec hk
    obtain ⟨rfl, _⟩ := tk_slice (e0 ▸ hty.kind)
    injection h with h; subst h
    simp only [VR] at hx; subst hx
    exact ⟨_, rfl, fun w => by simp [Builtin.cap_, hty.run_und, goInt]⟩
  · cases h

end
end Go.Abs
