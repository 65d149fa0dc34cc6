/-
  WholeBurstsScaled: the plain law. (Helper theorems; each says its own conditions.)
-/
import Derived.Test.YtghcfkgfccmaoaaGreatDoorD1
/-! WholeBurstsScaled: the plain law. -/
namespace Go.Abs
open Go

theorem wrap_id {n : Int} (h1 : -9223372036854775808 ≤ n) (h2 : n ≤ 9223372036854775807) : IntKind.i64.wrap n = n := by
  have h : IntKind.i64.wrap n = if (true && decide (n % 18446744073709551616 ≥ 9223372036854775808)) = true then n % 18446744073709551616 - 18446744073709551616 else n % 18446744073709551616 := rfl
  rw [h]
  simp only [Bool.true_and, decide_eq_true_eq, ge_iff_le]
  split <;> omega

theorem imin_eq (x y : Int) : imin x y = min x y := by
  unfold imin; rw [ile_eq]
  by_cases h : x ≤ y <;> simp [h] <;> omega

theorem imax_eq (x y : Int) : imax x y = max x y := by
  unfold imax; rw [ile_eq]
  by_cases h : y ≤ x <;> simp [h] <;> omega

/-- Two filters of which one is the other, so many times as great, and so much later. -/
structure Two (k b q m now fr to pk now' fr' to' pk' at_ at' : Int) (i : Int) : Prop where
  hk : 1 ≤ k ∧ k ≤ 4
  hb : 0 ≤ b ∧ b ≤ 4294967295
  hq : 1 ≤ q ∧ q ≤ 274877906944
  hm : m = 0 ∨ q ≤ m ∧ m ≤ 281474976710656
  hnow : 0 ≤ now ∧ now ≤ 35184372088832
  hnow' : now' = k * now + b ∨ now = 0 ∧ now' = 0 ∧ pk = 0
  hpk : 0 ≤ pk ∧ pk ≤ i
  hpk' : pk' = pk
  hat : at_ = 0 ∧ at' = 0
  hnone : pk = 0 → fr = 0 ∧ to = 0 ∧ fr' = 0 ∧ to' = 0
  hsome : pk ≠ 0 → 0 ≤ fr ∧ fr ≤ to ∧ to ≤ now ∧ fr' = k * fr + b ∧ to' = k * to + b

theorem four {k : Int} (h : 1 ≤ k ∧ k ≤ 4) : k = 1 ∨ k = 2 ∨ k = 3 ∨ k = 4 := by omega

section
variable {k b q m now fr to pk now' fr' to' pk' at_ at' i x : Int}

theorem Two.nows (h : Two k b q m now fr to pk now' fr' to' pk' at_ at' i) (hx : 0 ≤ x ∧ x ≤ 35184372088832) :
    bNow now x = max now x ∧ bNow now' (k * x + b) = k * max now x + b := by
  obtain ⟨hk, hb, _, _, hnow, hnow', _, _, _, _, _⟩ := h
  unfold bNow
  rw [imax_eq, imin_eq, imax_eq, imin_eq]
  rcases four hk with rfl | rfl | rfl | rfl <;> omega

theorem Two.ends (h : Two k b q m now fr to pk now' fr' to' pk' at_ at' i) (hp : pk ≠ 0) :
    bEnd (k * q) (k * m) fr' to' = k * bEnd q m fr to + b ∧ 0 ≤ bEnd q m fr to ∧ bEnd q m fr to ≤ 1125899906842624 := by
  obtain ⟨hk, hb, hq, hm, hnow, hnow', _, _, _, _, hsome⟩ := h
  obtain ⟨h1, h2, h3, h4, h5⟩ := hsome hp
  have e1 : IntKind.i64.wrap (to + q) = to + q := wrap_id (by omega) (by omega)
  have e2 : IntKind.i64.wrap (fr + m) = fr + m := wrap_id (by omega) (by omega)
  have e3 : IntKind.i64.wrap (to' + k * q) = k * (to + q) + b := by
    rcases four hk with rfl | rfl | rfl | rfl <;> (rw [wrap_id (by omega) (by omega)]; omega)
  have e4 : IntKind.i64.wrap (fr' + k * m) = k * (fr + m) + b := by
    rcases four hk with rfl | rfl | rfl | rfl <;> (rw [wrap_id (by omega) (by omega)]; omega)
  have e5 : ile (k * m) 0 = ile m 0 := by
    rw [ile_eq, ile_eq, Bool.eq_iff_iff, decide_eq_true_iff, decide_eq_true_iff]
    rcases four hk with rfl | rfl | rfl | rfl <;> omega
  unfold bEnd
  rw [e1, e2, e3, e4, e5]
  cases hc : ile m 0 with
  | true =>
    simp only [Bool.not_true, cond_false, true_and]
    exact ⟨by omega, by omega⟩
  | false =>
    simp only [Bool.not_false, cond_true, imin_eq]
    rcases four hk with rfl | rfl | rfl | rfl <;> omega

theorem Two.fires (h : Two k b q m now fr to pk now' fr' to' pk' at_ at' i) (hx : 0 ≤ x ∧ x ≤ 35184372088832) :
    bFires (k * q) (k * m) now' fr' to' pk' (k * x + b) = bFires q m now fr to pk x := by
  obtain ⟨h1, h2⟩ := h.nows hx
  have hpk' := h.hpk'
  subst hpk'
  unfold bFires
  rw [h1, h2]
  by_cases hp : pk' = 0
  · subst hp
    simp [ieq]
  · obtain ⟨h3, h4, h5⟩ := h.ends hp
    have hz : ieq pk' 0 = false := by rw [ieq_eq]; simpa using hp
    rw [h3, hz, ile_eq, ile_eq]
    have hk := h.hk
    congr 1
    rw [Bool.eq_iff_iff, decide_eq_true_iff, decide_eq_true_iff]
    rcases four hk with rfl | rfl | rfl | rfl <;> omega

theorem Two.scaled (h : Two k b q m now fr to pk now' fr' to' pk' at_ at' i) {x : Int} (hx : 0 ≤ x ∧ x ≤ 1125899906842624) : IntKind.i64.wrap (IntKind.i64.wrap (k * x) + b) = k * x + b := by
  obtain ⟨hk, hb, _⟩ := h
  rcases four hk with rfl | rfl | rfl | rfl <;> rw [wrap_id (n := _ * x) (by omega) (by omega), wrap_id (by omega) (by omega)]

/-- A poke. -/
theorem Two.poke (h : Two k b q m now fr to pk now' fr' to' pk' at_ at' i) (hi : 0 ≤ i ∧ i ≤ 100) (hx : 0 ≤ x ∧ x ≤ 35184372088832) :
    Two k b q m (bNow now x) (bif bFires q m now fr to pk x || ieq pk 0 then bNow now x else fr) (bNow now x) (IntKind.i64.wrap ((bif bFires q m now fr to pk x then 0 else pk) + 1))
      (bNow now' (k * x + b)) (bif bFires q m now fr to pk x || ieq pk' 0 then bNow now' (k * x + b) else fr') (bNow now' (k * x + b)) (IntKind.i64.wrap ((bif bFires q m now fr to pk x then 0 else pk') + 1))
      (bif bFires q m now fr to pk x then 0 else at_) (bif bFires q m now fr to pk x then 0 else at') (i + 1) := by
  obtain ⟨e1, e2⟩ := h.nows hx
  obtain ⟨hk, hb, hq, hm, hnow, hnow', hpk, hpk', hat, hnone, hsome⟩ := h
  subst hpk'
  rw [e1, e2]
  cases hf : bFires q m now fr to pk' x with
  | true =>
    simp only [Bool.true_or, cond_true]
    rw [wrap_id (by omega) (by omega)]
    exact ⟨hk, hb, hq, hm, by omega, .inl rfl, by omega, rfl, ⟨rfl, rfl⟩, by omega, fun _ => ⟨by omega, by omega, by omega, rfl, rfl⟩⟩
  | false =>
    simp only [Bool.false_or, cond_false]
    rw [wrap_id (by omega) (by omega)]
    by_cases hp : pk' = 0
    · have hz : ieq pk' 0 = true := by rw [ieq_eq]; simpa using hp
      rw [hz]
      simp only [cond_true]
      exact ⟨hk, hb, hq, hm, by omega, .inl rfl, by omega, rfl, hat, by omega, fun _ => ⟨by omega, by omega, by omega, rfl, rfl⟩⟩
    · have hz : ieq pk' 0 = false := by rw [ieq_eq]; simpa using hp
      rw [hz]
      simp only [cond_false]
      obtain ⟨h1, h2, h3, h4, h5⟩ := hsome hp
      exact ⟨hk, hb, hq, hm, by omega, .inl rfl, by omega, rfl, hat, by omega, fun _ => ⟨by omega, by omega, by omega, h4, rfl⟩⟩

/-- Time goes on. -/
theorem Two.pass (h : Two k b q m now fr to pk now' fr' to' pk' at_ at' i) (hx : 0 ≤ x ∧ x ≤ 35184372088832) :
    Two k b q m (bNow now x) (bif bFires q m now fr to pk x then 0 else fr) (bif bFires q m now fr to pk x then 0 else to) (bif bFires q m now fr to pk x then 0 else pk)
      (bNow now' (k * x + b)) (bif bFires q m now fr to pk x then 0 else fr') (bif bFires q m now fr to pk x then 0 else to') (bif bFires q m now fr to pk x then 0 else pk')
      (bif bFires q m now fr to pk x then 0 else at_) (bif bFires q m now fr to pk x then 0 else at') (i + 1) := by
  obtain ⟨e1, e2⟩ := h.nows hx
  obtain ⟨hk, hb, hq, hm, hnow, hnow', hpk, hpk', hat, hnone, hsome⟩ := h
  subst hpk'
  rw [e1, e2]
  cases hf : bFires q m now fr to pk' x with
  | true =>
    simp only [cond_true]
    exact ⟨hk, hb, hq, hm, by omega, .inl rfl, by omega, rfl, ⟨rfl, rfl⟩, fun _ => ⟨rfl, rfl, rfl, rfl⟩, fun hne => absurd rfl hne⟩
  | false =>
    simp only [cond_false]
    refine ⟨hk, hb, hq, hm, by omega, .inl rfl, by omega, rfl, hat, hnone, fun hp => ?_⟩
    obtain ⟨h1, h2, h3, h4, h5⟩ := hsome hp
    exact ⟨h1, h2, by omega, h4, h5⟩

/-- It ends now. -/
theorem Two.flush (h : Two k b q m now fr to pk now' fr' to' pk' at_ at' i) :
    Two k b q m now (bif ieq pk 0 then fr else 0) (bif ieq pk 0 then to else 0) (bif ieq pk 0 then pk else 0)
      now' (bif ieq pk' 0 then fr' else 0) (bif ieq pk' 0 then to' else 0) (bif ieq pk' 0 then pk' else 0) (bif ieq pk 0 then at_ else 0) (bif ieq pk' 0 then at' else 0) (i + 1) := by
  obtain ⟨hk, hb, hq, hm, hnow, hnow', hpk, hpk', hat, hnone, hsome⟩ := h
  subst hpk'
  by_cases hp : pk' = 0
  · have hz : ieq pk' 0 = true := by rw [ieq_eq]; simpa using hp
    rw [hz]
    simp only [cond_true]
    exact ⟨hk, hb, hq, hm, hnow, hnow', by omega, rfl, hat, hnone, hsome⟩
  · have hz : ieq pk' 0 = false := by rw [ieq_eq]; simpa using hp
    rw [hz]
    simp only [cond_false]
    refine ⟨hk, hb, hq, hm, hnow, ?_, by omega, rfl, ⟨rfl, rfl⟩, fun _ => ⟨rfl, rfl, rfl, rfl⟩, fun hne => absurd rfl hne⟩
    rcases hnow' with h | ⟨_, _, h⟩
    · exact .inl h
    · exact absurd h hp

theorem Two.skip (h : Two k b q m now fr to pk now' fr' to' pk' at_ at' i) : Two k b q m now fr to pk now' fr' to' pk' at_ at' (i + 1) := by
  obtain ⟨hk, hb, hq, hm, hnow, hnow', hpk, hpk', hat, hnone, hsome⟩ := h
  exact ⟨hk, hb, hq, hm, hnow, hnow', by omega, hpk', hat, hnone, hsome⟩

end
end Go.Abs
