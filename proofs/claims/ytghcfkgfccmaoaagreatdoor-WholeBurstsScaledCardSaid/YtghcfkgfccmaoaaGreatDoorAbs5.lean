/-
  Soundness of the operations on structs, arrays, slices. (Helper theorems; each says its own conditions.)
-/
import Derived.Test.YtghcfkgfccmaoaaGreatDoorAbs4

/-! Soundness of the operations on structs, arrays, slices. -/
namespace Go.Abs
open Go

/-! ## Laying parts -/
theorem foldl_set_get (off : Nat) : ∀ (xs : List Value) (s : Nat) (cells : Array Value) (k : Nat),
    ((xs.zipIdx s).foldl (fun cs (p : Value × Nat) => cs.setIfInBounds (off + p.2) p.1) cells)[k]? =
      if off + s ≤ k ∧ k < off + s + xs.length ∧ k < cells.size then xs[k - (off + s)]? else cells[k]?
  | [], s, cells, k => by simp; omega
  | x :: xs, s, cells, k => by
    simp only [List.zipIdx_cons, List.foldl_cons]
    rw [foldl_set_get off xs (s + 1)]
    simp only [Array.size_setIfInBounds, List.length_cons]
    by_cases h1 : off + (s + 1) ≤ k ∧ k < off + (s + 1) + xs.length ∧ k < cells.size
    · rw [if_pos h1, if_pos (by omega), show k - (off + s) = (k - (off + (s + 1))) + 1 by omega]
      simp
    · rw [if_neg h1]
      by_cases h2 : k = off + s
      · subst h2
        by_cases h3 : off + s < cells.size
        · rw [if_pos (by omega)]
          simp [h3]
        · rw [if_neg (by omega)]
          simp [h3]
      · rw [if_neg (by omega), Array.getElem?_setIfInBounds_ne (by omega)]

theorem foldl_set_size (off : Nat) : ∀ (xs : List (Value × Nat)) (cells : Array Value),
    (xs.foldl (fun cs (p : Value × Nat) => cs.setIfInBounds (off + p.2) p.1) cells).size = cells.size
  | [], cells => rfl
  | x :: xs, cells => by simp only [List.foldl_cons]; rw [foldl_set_size off xs]; simp

theorem setAt_get : ∀ (l : List AV) (off : Nat) (vs : List AV) (k : Nat),
    (setAt l off vs)[k]? = if off ≤ k ∧ k < off + vs.length ∧ k < l.length then vs[k - off]? else l[k]?
  | [], off, vs, k => by cases vs <;> simp [setAt]
  | x :: l, off, [], k => by simp [setAt]; omega
  | x :: l, 0, v :: vs, k => by
    simp only [setAt]
    cases k with
    | zero => simp
    | succ k =>
      simp only [List.getElem?_cons_succ, setAt_get l 0 vs k, List.length_cons]
      by_cases h : 0 ≤ k ∧ k < 0 + vs.length ∧ k < l.length
      · rw [if_pos h, if_pos (by omega)]; simp
      · rw [if_neg h, if_neg (by omega)]
  | x :: l, off + 1, v :: vs, k => by
    simp only [setAt]
    cases k with
    | zero => simp
    | succ k =>
      simp only [List.getElem?_cons_succ, setAt_get l off (v :: vs) k, List.length_cons]
      by_cases h : off ≤ k ∧ k < off + (vs.length + 1) ∧ k < l.length
      · rw [if_pos h, if_pos (by omega), show k + 1 - (off + 1) = k - off by omega]
      · rw [if_neg h, if_neg (by omega)]

theorem setAt_length : ∀ (l : List AV) (off : Nat) (vs : List AV), (setAt l off vs).length = l.length
  | [], off, vs => by cases vs <;> simp [setAt]
  | x :: l, off, [] => by simp [setAt]
  | x :: l, 0, v :: vs => by simp [setAt, setAt_length l 0 vs]
  | x :: l, off + 1, v :: vs => by simp [setAt, setAt_length l off (v :: vs)]

theorem setAt_VRs {ρ : Ren} {as vs : List AV} {cells : Array Value} {xs : Array Value} (h : VRs ρ as cells.toList) (h' : VRs ρ vs xs.toList) (off : Nat) :
    VRs ρ (setAt as off vs) (xs.zipIdx.foldl (fun cs (p : Value × Nat) => cs.setIfInBounds (off + p.2) p.1) cells).toList := by
  have e : xs.zipIdx.foldl (fun cs (p : Value × Nat) => cs.setIfInBounds (off + p.2) p.1) cells = (xs.toList.zipIdx 0).foldl (fun cs (p : Value × Nat) => cs.setIfInBounds (off + p.2) p.1) cells := by
    rw [← Array.foldl_toList, Array.toList_zipIdx]
  have hl := h.length
  have hl' := h'.length
  simp only [Array.length_toList] at hl hl'
  refine VRs.of_get ?_ ?_
  · rw [setAt_length, e]; simp only [Array.length_toList, foldl_set_size, hl]
  · intro i a v ha hv
    rw [e, Array.getElem?_toList, foldl_set_get] at hv
    rw [setAt_get] at ha
    simp only [Nat.add_zero, Array.length_toList] at hv
    by_cases hc : off ≤ i ∧ i < off + xs.size ∧ i < cells.size
    · rw [if_pos hc] at hv
      rw [if_pos (by omega)] at ha
      obtain ⟨u, hu, hr⟩ := h'.get _ a ha
      rw [hv] at hu; injection hu with hu; subst hu; exact hr
    · rw [if_neg hc] at hv
      rw [if_neg (by omega)] at ha
      obtain ⟨u, hu, hr⟩ := h.get _ a ha
      rw [← Array.getElem?_toList] at hv
      rw [hv] at hu; injection hu with hu; subst hu; exact hr

def VRp (ρ : Ren) : List (Nat × AV) → List (Nat × Value) → Prop
  | [], vs => vs = []
  | (i, a) :: as, vs => ∃ v vs', vs = (i, v) :: vs' ∧ VR ρ a v ∧ VRp ρ as vs'

theorem fillA_sound {ρ : Ren} {place : Nat → Option (Nat × Nat)} : ∀ {parts : List (Nat × AV)} {vparts : List (Nat × Value)} {cells : List AV} {vcells : Array Value} {r : List AV},
    fillA place cells parts = some r → VRp ρ parts vparts → VRs ρ cells vcells.toList → ∃ out : Array Value, Instr.fill place vcells vparts = some out ∧ VRs ρ r out.toList
  | [], vparts, cells, vcells, r, h, hp, hc => by
    simp only [fillA] at h; injection h with h; subst h
    simp only [VRp] at hp; subst hp
    exact ⟨vcells, rfl, hc⟩
  | (i, a) :: parts, vparts, cells, vcells, r, h, hp, hc => by
    obtain ⟨v, vs', rfl, hv, hvs⟩ := hp
    simp only [fillA] at h
    split at h
    · rename_i off size cs hpl hcs
      split at h
      · rename_i h1 h2
        have hcv := VR.cells hcs hv
        have h1' := Nat.eq_of_beq_eq_true h1
        have h2' : off + size ≤ cells.length := by simpa [Nat.ble_eq] using h2
        have hlen := hcv.length
        have hlc := hc.length
        simp only [Array.length_toList] at hlen hlc
        obtain ⟨out, ho, hr⟩ := fillA_sound h hvs (setAt_VRs hc hcv off)
        refine ⟨out, ?_, hr⟩
        simp only [Instr.fill, hpl]
        have e1 : ¬ (v.cells.size ≠ size) := by omega
        have e2 : ¬ (off + v.cells.size > vcells.size) := by omega
        simp only [e1, e2, decide_false, Bool.or_self, Bool.false_eq_true, if_false]
        exact ho
      · cases h
    · cases h

theorem evp_sound {ρ : Ren} {env : Env} {ev : Operand → Value} (he : ∀ x v, env x = some v → VR ρ v (ev x)) : ∀ {ps : List (Nat × Operand)} {vs : List (Nat × AV)}, evp env ps = some vs →
    VRp ρ vs (ps.map fun p => (p.1, ev p.2))
  | [], vs, h => by simp [evp] at h; subst h; rfl
  | (i, x) :: ps, vs, h => by
    simp only [evp] at h
    split at h
    · rename_i v hv
      split at h
      · rename_i vs' hvs
        injection h with h; subst h
        exact ⟨ev x, _, rfl, he x v hv, evp_sound he hvs⟩
      · cases h
    · cases h

theorem evs_sound {ρ : Ren} {env : Env} {ev : Operand → Value} (he : ∀ x v, env x = some v → VR ρ v (ev x)) : ∀ {ps : List Operand} {vs : List AV}, evs env ps = some vs →
    VRs ρ vs (ps.map ev)
  | [], vs, h => by simp [evs] at h; subst h; rfl
  | x :: ps, vs, h => by
    simp only [evs] at h
    split at h
    · rename_i v hv
      split at h
      · rename_i vs' hvs
        injection h with h; subst h
        exact ⟨ev x, _, rfl, he x v hv, evs_sound he hvs⟩
      · cases h
    · cases h

section
variable {P : Program}

theorem run_places (w : World) : ∀ (fs : List Field) (l : List (Nat × Nat × Bool)), fieldsOf P fs = some l →
    (fs.mapM fun f => (do pure (f.offset, ← sizeOf f.type) : Sem (Nat × Nat))).run P w = .ok (l.map fun x => (x.1, x.2.1)) w
  | [], l, h => by simp [fieldsOf] at h; subst h; simp
  | f :: fs, l, h => by
    simp only [fieldsOf] at h
    split at h
    · rename_i i d hi hd
      split at h
      · rename_i l' hl'
        injection h with h; subst h
        have ih := run_places w fs l' hl'
        simp only [List.mapM_cons, Sem.run_bind, sizeOf, typeInfo, run_program, Result.andThen_ok, hi, Sem.run_pure] at ih ⊢
        rw [ih]
        simp
      · cases h
    · cases h

theorem build_sound {ρ : Ren} {t : TypeId} {parts : List (Nat × AV)} {vparts : Array (Nat × Value)} {r : AV} (h : buildA P t parts = some r) (hp : VRp ρ parts vparts.toList) :
    ∃ z, VR ρ r z ∧ ∀ w, (Instr.build t vparts).run P w = .ok z w := by
  unfold buildA at h
  split at h
  · rename_i ti hti
    obtain ⟨i, d, z, hty⟩ := tiOf_spec hti
    have hk := hty.kind
    split at h
    · rename_i zc fs hz hkk
      split at h
      · rename_i cs hf
        injection h with h; subst h
        rw [hkk] at hk
        obtain ⟨fl, rfl, hfl⟩ := tk_struct hk
        have hzr := VR.cells hz (hty.zeroR ρ)
        have hplace : plc fs = fun i => ((fs.map fun x => (x.1, x.2.1)).toArray)[i]? := by
          funext j
          unfold plc
          rw [nth_eq]
          simp only [List.getElem?_toArray, List.getElem?_map]
          cases fs[j]? <;> rfl
        rw [hplace] at hf
        obtain ⟨out, ho, hr⟩ := fillA_sound hf hp hzr
        refine ⟨.agg out, ⟨out.toList, by simp, hr⟩, fun w => ?_⟩
        have hpl := run_places (P := P) w fl.toList fs hfl
        simp only [Instr.build, Sem.run_bind, hty.run_zero, hty.run_und, Result.andThen_ok]
        rw [Array.mapM_eq_mapM_toList]
        simp only [Sem.run_map, hpl, Result.andThen_ok]
        rw [ho]
        rfl
      · cases h
    · rename_i zc n esz g hz hkk
      split at h
      · rename_i cs hf
        injection h with h; subst h
        rw [hkk] at hk
        obtain ⟨e, ie, d', rfl, hie, hse, _, _⟩ := tk_arr hk
        have hzr := VR.cells hz (hty.zeroR ρ)
        obtain ⟨out, ho, hr⟩ := fillA_sound hf hp hzr
        refine ⟨.agg out, ⟨out.toList, by simp, hr⟩, fun w => ?_⟩
        simp only [Instr.build, Sem.run_bind, hty.run_zero, hty.run_und, Result.andThen_ok, sizeOf, typeInfo, run_program, hie, Sem.run_pure, hse]
        rw [ho]
        rfl
      · cases h
    · cases h
  · cases h

end
end Go.Abs
