/-
  Windows: the plain law. (Helper theorems; each says its own conditions.)
-/
import Derived.Test.YtghcfkgfccmaoaaGreatDoorV8
/-! Windows: the plain law. -/
namespace Go.Abs
open Go

theorem getD_set {l : List Int} {i j : Nat} {v : Int} (hi : i < l.length) : (l.set i v).getD j 0 = if j = i then v else l.getD j 0 := by
  simp only [List.getD_eq_getElem?_getD, List.getElem?_set]
  by_cases h : i = j
  · subst h; simp [hi]
  · rw [if_neg h, if_neg (fun e => h e.symm)]

theorem partsL_get {a : Int} {l : List Int} {i : Nat} (hi : i < l.length) : (partsL a l)[i]? = some (l.getD ((a + 1 + (i : Int)) % (l.length : Int)).toNat 0) := by
  simp [partsL, List.getElem?_map, List.getElem?_range hi]

theorem partsL_none {a : Int} {l : List Int} {i : Nat} (hi : l.length ≤ i) : (partsL a l)[i]? = none := by
  rw [List.getElem?_eq_none]; rw [partsL_length]; exact hi

theorem mod_lt' (x : Int) {n : Nat} (hn : 1 ≤ n) : 0 ≤ x % (n : Int) ∧ x % (n : Int) < n := ⟨Int.emod_nonneg _ (by omega), Int.emod_lt_of_pos _ (by omega)⟩

theorem mod_ne {x : Int} {n : Nat} {i : Int} (_ : 1 ≤ n) (h0 : 0 < i) (h1 : i < n) : (x + i) % (n : Int) ≠ x % (n : Int) := by
  intro h
  have h2 : ((x + i) - x) % (n : Int) = 0 := Int.emod_eq_emod_iff_emod_sub_eq_zero.1 h
  rw [show x + i - x = i by omega, Int.emod_eq_of_lt (by omega) h1] at h2
  omega

theorem partsL_step {a : Int} {l : List Int} (hl : 1 ≤ l.length) : partsL (a + 1) (l.set ((a + 1) % (l.length : Int)).toNat 0) = (partsL a l).drop 1 ++ [0] := by
  have hm := mod_lt' (a + 1) hl
  have hi0 : ((a + 1) % (l.length : Int)).toNat < l.length := by omega
  apply List.ext_getElem?
  intro i
  cases Nat.lt_or_ge i l.length with
  | inr hge =>
    rw [partsL_none (by simpa using hge), List.getElem?_eq_none]
    simp [partsL_length]; omega
  | inl hlt =>
    rw [partsL_get (by simpa using hlt), List.length_set, getD_set hi0]
    have hm2 := mod_lt' (a + 1 + 1 + (i : Int)) hl
    by_cases hlast : i = l.length - 1
    · have e : (a + 1 + 1 + (i : Int)) % (l.length : Int) = (a + 1) % (l.length : Int) := by
        rw [show a + 1 + 1 + (i : Int) = a + 1 + (l.length : Int) by omega, Int.add_emod_right]
      rw [e, if_pos rfl, List.getElem?_append_right (by simp [partsL_length]; omega)]
      have : i - ((partsL a l).drop 1).length = 0 := by simp [partsL_length]; omega
      rw [this]; rfl
    · have e : ((a + 1 + 1 + (i : Int)) % (l.length : Int)).toNat ≠ ((a + 1) % (l.length : Int)).toNat := by
        have := mod_ne (x := a + 1) (i := 1 + (i : Int)) hl (by omega) (by omega)
        rw [show a + 1 + (1 + (i : Int)) = a + 1 + 1 + (i : Int) by omega] at this
        omega
      rw [if_neg e, List.getElem?_append_left (by simp [partsL_length]; omega), List.getElem?_drop, partsL_get (by omega)]
      congr 3
      have : ((1 + i : Nat) : Int) = 1 + (i : Int) := by omega
      rw [this, show a + 1 + (1 + (i : Int)) = a + 1 + 1 + (i : Int) by omega]

theorem partsL_zeros : ∀ (c : Nat) (a : Int) (l : List Int), 1 ≤ l.length → c ≤ l.length → partsL (a + c) (zeros c a l) = (partsL a l).drop c ++ List.replicate c 0
  | 0, a, l, _, _ => by simp [zeros]
  | c + 1, a, l, hl, hc => by
    have hlen : (l.set ((a + 1) % (l.length : Int)).toNat 0).length = l.length := by simp
    have ih := partsL_zeros c (a + 1) (l.set ((a + 1) % (l.length : Int)).toNat 0) (by omega) (by omega)
    simp only [zeros]
    rw [show a + ((c + 1 : Nat) : Int) = a + 1 + (c : Int) by omega, ih, partsL_step hl]
    rw [List.drop_append_of_le_length (by simp [partsL_length]; omega), List.drop_drop, List.append_assoc]
    congr 1
    rw [Nat.add_comm 1 c]

theorem partsL_rot {x y : Int} {r : List Int} (hr : 1 ≤ r.length) (h : partsL x r = List.replicate r.length 0) : partsL y r = List.replicate r.length 0 := by
  apply List.ext_getElem?
  intro i
  cases Nat.lt_or_ge i r.length with
  | inr hge => rw [partsL_none hge, List.getElem?_eq_none]; simpa using hge
  | inl hlt =>
    have hm := mod_lt' (y + 1 + (i : Int) - (x + 1)) hr
    have h1 := partsL_get (a := x) (l := r) (i := ((y + 1 + (i : Int) - (x + 1)) % (r.length : Int)).toNat) (by omega)
    rw [h, List.getElem?_replicate, if_pos (by omega)] at h1
    injection h1 with h1
    rw [partsL_get hlt, List.getElem?_replicate, if_pos hlt]
    congr 1
    have e : (x + 1 + (((y + 1 + (i : Int) - (x + 1)) % (r.length : Int)).toNat : Int)) % (r.length : Int) = (y + 1 + (i : Int)) % (r.length : Int) := by
      rw [Int.toNat_of_nonneg hm.1, Int.add_emod_emod, show x + 1 + (y + 1 + (i : Int) - (x + 1)) = y + 1 + (i : Int) by omega]
    rw [e] at h1
    exact h1.symm

/-- How time that goes on turns the pieces. -/
theorem parts_reach {p a now : Int} {l : List Int} (hl : 1 ≤ l.length) (ha : a ≤ tgt p a now) :
    partsL (tgt p a now) (reachL p a now l) = (partsL a l).drop (min (tgt p a now - a) l.length).toNat ++ List.replicate (min (tgt p a now - a) l.length).toNat 0 := by
  unfold reachL
  generalize tgt p a now = T at *
  by_cases h : T - a ≤ l.length
  · have h1 := partsL_zeros (min (T - a) (l.length : Int)).toNat a l hl (by omega)
    have e : a + (((min (T - a) (l.length : Int)).toNat : Nat) : Int) = T := by omega
    rw [e] at h1
    exact h1
  · have hc : (min (T - a) (l.length : Int)).toNat = l.length := by omega
    rw [hc]
    have h1 := partsL_zeros l.length a l hl (Nat.le_refl _)
    have hz : (partsL a l).drop l.length = [] := List.drop_of_length_le (by rw [partsL_length]; exact Nat.le_refl _)
    rw [hz, List.nil_append] at h1 ⊢
    have hzl : (zeros l.length a l).length = l.length := zeros_length _ _ _
    have := partsL_rot (x := a + l.length) (y := T) (r := zeros l.length a l) (by omega) (by rw [hzl]; exact h1)
    rw [hzl] at this
    exact this

theorem parts_add {a m : Int} {l : List Int} (hl : 1 ≤ l.length) :
    partsL a (addL a m l) = (partsL a l).set (l.length - 1) (IntKind.i64.wrap ((partsL a l).getD (l.length - 1) 0 + come m)) := by
  have hm := mod_lt' a hl
  have hlast : (partsL a l).getD (l.length - 1) 0 = l.getD (a % (l.length : Int)).toNat 0 := by
    rw [List.getD_eq_getElem?_getD, partsL_get (by omega)]
    have : (a + 1 + ((l.length - 1 : Nat) : Int)) % (l.length : Int) = a % (l.length : Int) := by
      rw [show a + 1 + ((l.length - 1 : Nat) : Int) = a + (l.length : Int) by omega, Int.add_emod_right]
    rw [this]; rfl
  rw [hlast]
  apply List.ext_getElem?
  intro i
  cases Nat.lt_or_ge i l.length with
  | inr hge => rw [partsL_none (by simpa [addL] using hge), List.getElem?_eq_none]; simp [partsL_length]; omega
  | inl hlt =>
    rw [partsL_get (by simpa [addL] using hlt), addL_length, List.getElem?_set]
    unfold addL
    rw [getD_set (by omega)]
    by_cases h : l.length - 1 = i
    · have e : (a + 1 + (i : Int)) % (l.length : Int) = a % (l.length : Int) := by
        rw [show a + 1 + (i : Int) = a + (l.length : Int) by omega, Int.add_emod_right]
      rw [e, if_pos rfl, if_pos h, if_pos (by rw [partsL_length]; omega)]
    · have e : ((a + 1 + (i : Int)) % (l.length : Int)).toNat ≠ (a % (l.length : Int)).toNat := by
        have := mod_ne (x := a) (i := 1 + (i : Int)) hl (by omega) (by omega)
        rw [show a + (1 + (i : Int)) = a + 1 + (i : Int) by omega] at this
        have h2 := mod_lt' (a + 1 + (i : Int)) hl
        omega
      rw [if_neg e, if_neg h, partsL_get hlt]

/-- Two windows of which one is the other, with pieces so many times as long, and some pieces later. -/
structure WTwo (k b L p p' a a' : Int) (l l' : List Int) (n : Nat) : Prop where
  hk : 1 ≤ k ∧ k ≤ 4
  hL : 0 ≤ L ∧ L ≤ 65535
  hp : 1 ≤ p ∧ p ≤ 65536
  hp' : p' = k * p
  hb : b = k * p * L
  hn : 1 ≤ n ∧ n ≤ 64
  len : n = l.length
  len' : n = l'.length
  ha : 0 ≤ a ∧ a ≤ 35184372088832
  hap : a * p ≤ 35184372088832
  ha' : a' = a + L ∨ a = 0 ∧ a' = 0 ∧ partsL a l = List.replicate n 0
  same : partsL a l = partsL a' l'

section
variable {k b L p p' a a' x : Int} {l l' : List Int} {n : Nat}

theorem WTwo.bound (h : WTwo k b L p p' a a' l l' n) : 0 ≤ p * L ∧ p * L ≤ 4294901760 ∧ b = k * (p * L) ∧ 0 ≤ a' ∧ a' ≤ 35184372154367 := by
  obtain ⟨hk, hL, hp, rfl, rfl, _, _, _, ha, hap, ha', _⟩ := h
  have h1 : 0 ≤ p * L := Int.mul_nonneg (by omega) hL.1
  have h2 : p * L ≤ 65536 * 65535 := Int.mul_le_mul hp.2 hL.2 hL.1 (by omega)
  refine ⟨h1, by omega, by rw [Int.mul_assoc], ?_⟩
  rcases ha' with rfl | ⟨_, rfl, _⟩ <;> omega

theorem WTwo.time (h : WTwo k b L p p' a a' l l' n) (hx : 0 ≤ x ∧ x ≤ 35184372088832) : IntKind.i64.wrap (IntKind.i64.wrap (k * x) + b) = k * x + b ∧ 0 ≤ k * x + b ∧ k * x + b ≤ 1152921504606846976 := by
  obtain ⟨h1, h2, h3, _⟩ := h.bound
  have hk := h.hk
  rw [h3]
  generalize p * L = y at *
  have e0 : 0 ≤ k * x ∧ k * x ≤ 4 * 35184372088832 := by rcases four hk with rfl | rfl | rfl | rfl <;> omega
  have e1 : 0 ≤ k * y ∧ k * y ≤ 4 * 4294901760 := by rcases four hk with rfl | rfl | rfl | rfl <;> omega
  rw [wrap_id (n := k * x) (by omega) (by omega), wrap_id (by omega) (by omega)]
  omega

theorem WTwo.tgts (h : WTwo k b L p p' a a' l l' n) (hx : 0 ≤ x ∧ x ≤ 35184372088832) : tgt p' a' (k * x + b) = tgt p a x + L ∧ 0 ≤ tgt p a x ∧ tgt p a x ≤ 35184372088832 := by
  obtain ⟨_, t1, t2⟩ := h.time hx
  obtain ⟨h1, h2, h3, _⟩ := h.bound
  obtain ⟨hk, hL, hp, rfl, hb, _, _, _, ha, hap, ha', _⟩ := h
  have hq0 : 0 ≤ x / p := Int.ediv_nonneg hx.1 (by omega)
  have hq1 : x / p ≤ x := Int.ediv_le_self _ hx.1
  have e1 : tgt p a x = max (x / p) a := by
    unfold tgt
    rw [show min (max x 0) 1152921504606846976 = x by omega]
  have e2 : (k * x + b) / (k * p) = x / p + L := by
    rw [hb, Int.add_mul_ediv_left _ _ (by have := Int.mul_pos (show 0 < k by omega) (show 0 < p by omega); omega), Int.mul_ediv_mul_of_pos _ _ (by omega)]
  have e3 : tgt (k * p) a' (k * x + b) = max (x / p + L) a' := by
    unfold tgt
    rw [show min (max (k * x + b) 0) 1152921504606846976 = k * x + b by omega, e2]
  rw [e1, e3]
  rcases ha' with rfl | ⟨rfl, rfl, _⟩ <;> omega

theorem replicate_drop (c n : Nat) (h : c ≤ n) : (List.replicate n (0 : Int)).drop c ++ List.replicate c 0 = List.replicate n 0 := by
  rw [List.drop_replicate, List.replicate_append_replicate]
  congr 1; omega

/-- Time goes on in both. -/
theorem WTwo.reach (h : WTwo k b L p p' a a' l l' n) (hx : 0 ≤ x ∧ x ≤ 35184372088832) :
    WTwo k b L p p' (tgt p a x) (tgt p' a' (k * x + b)) (reachL p a x l) (reachL p' a' (k * x + b) l') n := by
  obtain ⟨t1, t2, t3⟩ := h.tgts hx
  have hbd := h.bound
  obtain ⟨hk, hL, hp, hp', hb, hn, len, len', ha, hap, ha', same⟩ := h
  have hle : a ≤ tgt p a x := by unfold tgt; omega
  have hle' : a' ≤ tgt p' a' (k * x + b) := by unfold tgt; omega
  refine ⟨hk, hL, hp, hp', hb, hn, by rw [reachL_length]; exact len, by rw [reachL_length]; exact len', ⟨t2, t3⟩, ?_, .inl t1, ?_⟩
  · have e1 : tgt p a x = max (x / p) a := by
      unfold tgt
      rw [show min (max x 0) 1152921504606846976 = x by omega]
    have h1 : x / p * p ≤ x := Int.ediv_mul_le _ (by omega)
    rw [e1]
    rcases Int.le_total (x / p) a with h | h
    · rw [Int.max_eq_right h]; exact hap
    · rw [Int.max_eq_left h]; omega
  rw [parts_reach (by omega) hle, parts_reach (by omega) hle']
  rcases ha' with rfl | ⟨_, _, hz⟩
  · have e : tgt p' (a + L) (k * x + b) - (a + L) = tgt p a x - a := by omega
    rw [e, ← same, ← len, ← len']
  · rw [← same, hz]
    rw [replicate_drop _ _ (by omega), replicate_drop _ _ (by omega)]

theorem WTwo.add (h : WTwo k b L p p' a a' l l' n) (hs : a' = a + L) (m : Int) : WTwo k b L p p' a a' (addL a m l) (addL a' m l') n := by
  obtain ⟨hk, hL, hp, hp', hb, hn, len, len', ha, hap, ha', same⟩ := h
  refine ⟨hk, hL, hp, hp', hb, hn, by rw [addL_length]; exact len, by rw [addL_length]; exact len', ha, hap, .inl hs, ?_⟩
  rw [parts_add (by omega), parts_add (by omega), same, ← len, ← len']

theorem WTwo.full (h : WTwo k b L p p' a a' l l' n) (hs : a' = a + L) :
    IntKind.i64.wrap (IntKind.i64.wrap (k * IntKind.i64.wrap (IntKind.i64.wrap (a + 1) * p)) + b) = IntKind.i64.wrap (IntKind.i64.wrap (a' + 1) * p') := by
  obtain ⟨h1, h2, h3, h4, h5⟩ := h.bound
  obtain ⟨hk, hL, hp, rfl, hb, hn, len, len', ha, hap, ha', same⟩ := h
  rw [wrap_id (n := a + 1) (by omega) (by omega), wrap_id (n := a' + 1) (by omega) (by omega)]
  have e0 : 0 ≤ (a + 1) * p := Int.mul_nonneg (by omega) (by omega)
  have e1 : (a + 1) * p ≤ 35184372088832 + 65536 := by rw [Int.add_mul]; omega
  have e2 : (a' + 1) * (k * p) = k * ((a + 1) * p) + b := by
    rw [hs, hb]
    rw [show a + L + 1 = (a + 1) + L by omega, Int.add_mul]
    rw [Int.mul_left_comm (a + 1) k p, Int.mul_comm L (k * p)]
  rw [e2, h3]
  generalize (a + 1) * p = y at *
  generalize p * L = z at *
  rw [wrap_id (n := y) (by omega) (by omega)]
  have e3 : 0 ≤ k * y ∧ k * y ≤ 4 * (35184372088832 + 65536) := by rcases four hk with rfl | rfl | rfl | rfl <;> omega
  rw [wrap_id (n := k * y) (by omega) (by omega)]
end
end Go.Abs
