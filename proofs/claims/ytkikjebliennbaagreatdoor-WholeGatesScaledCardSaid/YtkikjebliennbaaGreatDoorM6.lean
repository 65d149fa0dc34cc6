/-
  Gates: the plain law. (Helper theorems; each says its own conditions.)
-/
import Derived.Test.YtkikjebliennbaaGreatDoorG2
/-! Gates: the plain law. -/
namespace Go.Abs
open Go

/-- Two gates of which one is the other, with times so many times as great, and so much later. -/
structure GTwo (k b g s t n t' n' : Int) : Prop where
  hk : 1 ≤ k ∧ k ≤ 4
  hb : 0 ≤ b ∧ b ≤ 4294967295
  hg : 1 ≤ g ∧ g ≤ 274877906944
  hs : 0 ≤ s ∧ s ≤ 281474976710656
  hn : n = -4611686018427387903 ∧ n' = -4611686018427387903 ∨ (0 ≤ n ∧ n ≤ 35184372088832) ∧ n' = k * n + b
  ht : t = 0 ∧ t' = 0 ∨ (1 ≤ t ∧ t ≤ 562949953421312) ∧ t' = k * t + b

theorem subK_eq {a b : Int} (ha : -1152921504606846976 ≤ a ∧ a ≤ 1152921504606846976) (hb : -1152921504606846976 ≤ b ∧ b ≤ 1152921504606846976) : subK a b = a - b := by
  unfold subK clampK
  rw [if_neg (by omega)]
  omega
theorem addK_eq {a b : Int} (ha : -1152921504606846976 ≤ a ∧ a ≤ 1152921504606846976) (hb : -1152921504606846976 ≤ b ∧ b ≤ 1152921504606846976) : addK a b = a + b := by
  unfold addK clampK
  rw [if_neg (by omega)]
  omega

section
variable {k b g s t n t' n' x : Int}

theorem GTwo.time (h : GTwo k b g s t n t' n') (hx : 0 ≤ x ∧ x ≤ 35184372088832) : IntKind.i64.wrap (IntKind.i64.wrap (k * x) + b) = k * x + b := by
  have hb := h.hb
  have e0 : 0 ≤ k * x ∧ k * x ≤ 4 * 35184372088832 := by rcases four h.hk with rfl | rfl | rfl | rfl <;> omega
  rw [wrap_id (n := k * x) (by omega) (by omega), wrap_id (by omega) (by omega)]

theorem GTwo.nows (h : GTwo k b g s t n t' n') (hx : 0 ≤ x ∧ x ≤ 35184372088832) : (0 ≤ gNow n x ∧ gNow n x ≤ 35184372088832) ∧ gNow n' (k * x + b) = k * gNow n x + b := by
  obtain ⟨hk, hb, _, _, hn, _⟩ := h
  unfold gNow clampK
  rcases hn with ⟨rfl, rfl⟩ | ⟨h1, rfl⟩
  · rcases four hk with rfl | rfl | rfl | rfl <;> omega
  · rcases four hk with rfl | rfl | rfl | rfl <;> omega

theorem GTwo.at (h : GTwo k b g s t n t' n') (hx : 0 ≤ x ∧ x ≤ 35184372088832) : GTwo k b g s t (gNow n x) t' (gNow n' (k * x + b)) := by
  obtain ⟨h1, h2⟩ := h.nows hx
  exact ⟨h.hk, h.hb, h.hg, h.hs, .inr ⟨h1, h2⟩, h.ht⟩

theorem GTwo.early (h : GTwo k b g s t n t' n') (hn0 : 0 ≤ n) : gEarly s t n = max (t - s - n) 0 ∧ gEarly (k * s) t' n' = k * max (t - s - n) 0 := by
  obtain ⟨hk, hb, hg, hs, hn, ht⟩ := h
  have hn1 : (0 ≤ n ∧ n ≤ 35184372088832) ∧ n' = k * n + b := by rcases hn with ⟨rfl, _⟩ | h1 <;> first | omega | exact h1
  obtain ⟨hn2, rfl⟩ := hn1
  unfold gEarly
  rcases ht with ⟨rfl, rfl⟩ | ⟨h1, rfl⟩
  · rw [subK_eq (a := 0) (by omega) (by omega), subK_eq (a := 0 - s) (by omega) (by omega)]
    rcases four hk with rfl | rfl | rfl | rfl <;>
      (rw [subK_eq (a := 0) (by omega) (by omega), subK_eq (by omega) (by omega)]; omega)
  · rw [subK_eq (a := t) (by omega) (by omega), subK_eq (a := t - s) (by omega) (by omega)]
    rcases four hk with rfl | rfl | rfl | rfl <;>
      (rw [subK_eq (a := _ * t + b) (by omega) (by omega), subK_eq (by omega) (by omega)]; omega)

theorem GTwo.pass (h : GTwo k b g s t n t' n') (hx : 0 ≤ x ∧ x ≤ 35184372088832) :
    gPass (k * s) t' n' (k * x + b) = gPass s t n x ∧ GTwo k b g s (gTurn g s t n x) (gNow n x) (gTurn (k * g) (k * s) t' n' (k * x + b)) (gNow n' (k * x + b)) := by
  have h2 := h.at hx
  obtain ⟨hn1, hn2⟩ := h.nows hx
  obtain ⟨e1, e2⟩ := h2.early hn1.1
  have hp : gPass (k * s) t' n' (k * x + b) = gPass s t n x := by
    unfold gPass
    rw [e1, e2, ile_eq, ile_eq, Bool.eq_iff_iff, decide_eq_true_iff, decide_eq_true_iff]
    rcases four h.hk with rfl | rfl | rfl | rfl <;> omega
  refine ⟨hp, ?_⟩
  have hturn' : gTurn (k * g) (k * s) t' n' (k * x + b) = bif gPass s t n x then addK (max t' (gNow n' (k * x + b))) (k * g) else t' := by
    unfold gTurn; rw [hp]
  rw [hturn']
  unfold gTurn
  cases hpp : gPass s t n x with
  | false => exact h2
  | true =>
    simp only [cond_true]
    have hle : max (t - s - gNow n x) 0 ≤ 0 := by
      have : ile (gEarly s t (gNow n x)) 0 = true := hpp
      rw [e1] at this
      exact ile_iff.1 this
    rw [hn2]
    have hq := h2.hn
    generalize gNow n x = m at *
    obtain ⟨hk, hb, hg, hs, _, ht⟩ := h
    refine ⟨hk, hb, hg, hs, .inr ⟨hn1, rfl⟩, .inr ?_⟩
    rcases ht with ⟨rfl, rfl⟩ | ⟨h1, rfl⟩
    · rw [addK_eq (by omega) (by omega)]
      refine ⟨by omega, ?_⟩
      rcases four hk with rfl | rfl | rfl | rfl <;> (rw [addK_eq (by omega) (by omega)]; omega)
    · rw [addK_eq (by omega) (by omega)]
      refine ⟨by omega, ?_⟩
      rcases four hk with rfl | rfl | rfl | rfl <;> (rw [addK_eq (by omega) (by omega)]; omega)

theorem GTwo.many (hx : 0 ≤ x ∧ x ≤ 35184372088832) : ∀ (c : Nat) {t n t' n' : Int}, GTwo k b g s t n t' n' →
    (manyF g s x c t n).1 = (manyF (k * g) (k * s) (k * x + b) c t' n').1 ∧
      GTwo k b g s (manyF g s x c t n).2.1 (manyF g s x c t n).2.2 (manyF (k * g) (k * s) (k * x + b) c t' n').2.1 (manyF (k * g) (k * s) (k * x + b) c t' n').2.2
  | 0, _, _, _, _, h => ⟨rfl, h⟩
  | c + 1, t, n, t', n', h => by
    obtain ⟨h1, h2⟩ := h.pass hx
    simp only [manyF, h1]
    cases gPass s t n x with
    | true =>
      simp only [cond_true]
      obtain ⟨h3, h4⟩ := GTwo.many hx c h2
      exact ⟨by rw [h3], h4⟩
    | false =>
      simp only [cond_false]
      exact ⟨trivial, h2⟩

theorem GTwo.reset (h : GTwo k b g s t n t' n') : GTwo k b g s 0 (-4611686018427387903) 0 (-4611686018427387903) :=
  ⟨h.hk, h.hb, h.hg, h.hs, .inl ⟨rfl, rfl⟩, .inl ⟨rfl, rfl⟩⟩

/-- The turns tell the same. -/
theorem GTwo.turn (h : GTwo k b g s t n t' n') : (ieq t 0 = true ∧ ieq t t' = true) ∨ (ieq t 0 = false ∧ ieq (IntKind.i64.wrap (IntKind.i64.wrap (k * t) + b)) t' = true) := by
  obtain ⟨hk, hb, hg, hs, hn, ht⟩ := h
  rcases ht with ⟨rfl, rfl⟩ | ⟨h1, rfl⟩
  · exact .inl ⟨rfl, rfl⟩
  · refine .inr ⟨ieq_ne (by omega), ieq_of ?_⟩
    have e0 : 0 ≤ k * t ∧ k * t ≤ 4 * 562949953421312 := by rcases four hk with rfl | rfl | rfl | rfl <;> omega
    rw [wrap_id (n := k * t) (by omega) (by omega), wrap_id (by omega) (by omega)]

theorem GTwo.wait (h : GTwo k b g s t n t' n') (hx : 0 ≤ x ∧ x ≤ 35184372088832) : ieq (IntKind.i64.wrap (k * gEarly s t (gNow n x))) (gEarly (k * s) t' (gNow n' (k * x + b))) = true := by
  have h2 := h.at hx
  obtain ⟨hn1, hn2⟩ := h.nows hx
  obtain ⟨e1, e2⟩ := h2.early hn1.1
  rw [e1, e2]
  refine ieq_of ?_
  have ht : 0 ≤ t ∧ t ≤ 562949953421312 := by rcases h.ht with ⟨rfl, _⟩ | ⟨h1, _⟩ <;> omega
  have hs := h.hs
  generalize gNow n x = m at *
  rcases four h.hk with rfl | rfl | rfl | rfl <;> exact wrap_id (by omega) (by omega)

theorem bursts_eq (hk : 1 ≤ k ∧ k ≤ 4) (hg : 1 ≤ g ∧ g ≤ 274877906944) (hs : 0 ≤ s ∧ s ≤ 281474976710656) :
    ieq (IntKind.i64.wrap (IntKind.i64.wrap (s.tdiv g) + 1)) (IntKind.i64.wrap (IntKind.i64.wrap ((k * s).tdiv (k * g)) + 1)) = true := by
  refine ieq_of ?_
  have hks : 0 ≤ k * s := Int.mul_nonneg (by omega) hs.1
  rw [Int.tdiv_eq_ediv_of_nonneg hs.1, Int.tdiv_eq_ediv_of_nonneg hks, Int.mul_ediv_mul_of_pos _ _ (by omega)]
end
end Go.Abs
