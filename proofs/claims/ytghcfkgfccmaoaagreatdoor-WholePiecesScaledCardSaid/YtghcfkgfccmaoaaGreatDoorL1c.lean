/-
  WholeBurstsScaled: the walk. (Helper theorems; each says its own conditions.)
-/
import Derived.Test.YtghcfkgfccmaoaaGreatDoorL1b
import Derived.Test.YtghcfkgfccmaoaaGreatDoorM1
import Derived.Test.YtghcfkgfccmaoaaGreatDoorW26c
/-! WholeBurstsScaled: the walk. -/
namespace Go.Abs
open Go Go.Proofs

theorem splitB_t {X Y : Prop} : splitB true X Y = X := rfl
theorem splitB_f {X Y : Prop} : splitB false X Y = Y := rfl
theorem tab_closed : ∀ (j : Nat), j < 32 → (listFn tabV j).closed = true := by
  intro j hj
  have : ∀ j : Fin 32, (listFn tabV j.1).closed = true := by decide
  exact this ⟨j, hj⟩

theorem ieq_self (a : Int) : ieq a a = true := by rw [ieq_eq]; simp
theorem ieq_of {a b : Int} (h : a = b) : ieq a b = true := by rw [h]; exact ieq_self b
theorem ieq_ne {a b : Int} (h : a ≠ b) : ieq a b = false := by rw [ieq_eq]; simpa using h

theorem Two.next {k b q m now fr to pk now' fr' to' pk' at_ at' i : Int} (h : Two k b q m now fr to pk now' fr' to' pk' at_ at' i) (hp : ieq pk 0 = false) :
    ieq (IntKind.i64.wrap (IntKind.i64.wrap (k * bEnd q m fr to) + b)) (bEnd (k * q) (k * m) fr' to') = true := by
  have hp' : pk ≠ 0 := fun e => by rw [e] at hp; exact absurd hp (by decide)
  obtain ⟨h1, h2, h3⟩ := h.ends hp'
  exact ieq_of (by rw [h.scaled ⟨h2, h3⟩, h1])

theorem Two.burst {k b q m now fr to pk now' fr' to' pk' at_ at' i : Int} (h : Two k b q m now fr to pk now' fr' to' pk' at_ at' i) (hp : ieq pk 0 = false) :
    ieq (IntKind.i64.wrap (IntKind.i64.wrap (k * fr) + b)) fr' = true ∧ ieq (IntKind.i64.wrap (IntKind.i64.wrap (k * to) + b)) to' = true ∧ ieq pk pk' = true := by
  have hp' : pk ≠ 0 := fun e => by rw [e] at hp; exact absurd hp (by decide)
  obtain ⟨h1, h2, h3, h4, h5⟩ := h.hsome hp'
  have := h.hnow
  exact ⟨ieq_of (by rw [h.scaled ⟨h1, by omega⟩, h4]), ieq_of (by rw [h.scaled ⟨by omega, by omega⟩, h5]), ieq_of h.hpk'.symm⟩

theorem rounds1 (k b q m now fr to pk at_ now' fr' to' pk' at' : Int) (len cap : Nat) (i kd nw : Int) (d : Nat → AV) (nd : Nat) (KN : List AV → List ABlk → Prop) (KE : Nat → List AV → List ABlk → Prop) (KF : AV → List ABlk → Prop)
    (h : Two k b q m now fr to pk now' fr' to' pk' at_ at' i) (hi : 0 ≤ i ∧ i < len) (hlen : len ≤ 100) (hnd : len * 2 ≤ nd) (hrd : readL (Sto.fn d) (0 + i.toNat * 2) 2 = [AV.int IntKind.u8 kd, AV.int IntKind.i64 nw])
    (hcl : ∀ (j : Nat), j < nd → (d j).closed = true)
    (hK : ∀ now fr to pk at_ now' fr' to' pk' at', Two k b q m now fr to pk now' fr' to' pk' at_ at' (i + 1) → KN (vals1 k b len cap (i + 1)) (blks1 (flt q m now fr to pk at_) (flt (k * q) (k * m) now' fr' to' pk' at') d nd)) :
    wexec Cl (XL kd nw) 60 loop1 (stOf 200 ts1 (vals1 k b len cap i) (blks1 (flt q m now fr to pk at_) (flt (k * q) (k * m) now' fr' to' pk' at') d nd)) (leafF noOpq Tryz.prog rs1 200 1 0 ts1 KN KE KF) := by
  rw [body_tree]
  have c1 : ile (len : Int) i = false := by rw [ile_eq]; simp; omega
  have c2 : inB i len = true := inB_iff.2 ⟨hi.1, by omega⟩
  have c3 : (0 + i.toNat * 2 + 2).ble nd = true := by rw [Nat.ble_eq]; omega
  have c4 : IntKind.i64.wrap (i + 1) = i + 1 := wrap_id (by omega) (by omega)
  have c5 : (∀ (j : Nat), j < 32 → (listFn tabV j).closed = true) := tab_closed
  simp only [c1, c2, c3, c4, splitB_t, Bool.not_false, hrd, true_and]
  cases e1 : ile 0 nw with
  | false =>
    simp only [Bool.not_false, splitB_t]
    exact ⟨c5, hcl, hK _ _ _ _ _ _ _ _ _ _ h.skip⟩
  | true =>
    cases e2 : ile nw 35184372088832 with
    | false =>
      simp only [Bool.not_false, Bool.not_true, splitB_t, splitB_f]
      exact ⟨c5, hcl, hK _ _ _ _ _ _ _ _ _ _ h.skip⟩
    | true =>
      have hx : 0 ≤ nw ∧ nw ≤ 35184372088832 := ⟨ile_iff.1 e1, ile_iff.1 e2⟩
      have hsc := h.scaled (x := nw) ⟨hx.1, by omega⟩
      have hf := h.fires hx
      obtain rfl : pk' = pk := h.hpk'
      simp only [Bool.not_true, splitB_f, hsc, hf]
      cases hF : bFires q m now fr to pk' nw with
      | true =>
        have hp : ieq pk' 0 = false := by
          unfold bFires at hF
          cases hz : ieq pk' 0 with
          | false => rfl
          | true => rw [hz] at hF; exact absurd hF (by simp)
        obtain ⟨b1, b2, b3⟩ := h.burst hp
        have b4 := h.next hp
        have z : ieq 0 0 = true := rfl
        have e10 : IntKind.i64.wrap (0 + 1) = 1 := rfl
        have n10 : ieq 1 0 = false := rfl
        have n11 : ieq 1 1 = true := rfl
        simp only [cond_true, cond_false, beq_self_eq_true, Bool.not_true, splitB_t, splitB_f, Bool.true_or, b1, b2, b3, b4, Bool.and_true, e10, n10, n11, Bool.not_false, z]
        have h2 := h.poke ⟨hi.1, by omega⟩ hx
        simp only [hF, cond_true, Bool.true_or, e10] at h2
        have b5 := h2.next n10
        simp only [b5, Bool.not_true, splitB_f]
        have h3 := h.pass hx
        simp only [hF, cond_true] at h3
        cases ieq (kd.tmod 4) 0 with
        | true => exact ⟨c5, hcl, hK _ _ _ _ _ _ _ _ _ _ h2⟩
        | false =>
          cases ieq (kd.tmod 4) 1 with
          | true => exact ⟨c5, hcl, hK _ _ _ _ _ _ _ _ _ _ h2⟩
          | false =>
            cases ieq (kd.tmod 4) 2 with
            | true => exact ⟨c5, hcl, hK _ _ _ _ _ _ _ _ _ _ h3⟩
            | false =>
              simp only [splitB_f, hp, Bool.not_false, splitB_t, cond_false, beq_self_eq_true, Bool.not_true, b1, b2, ieq_self, Bool.true_and, z, cond_true]
              have b6 : ieq (IntKind.i64.wrap (IntKind.i64.wrap (k * now) + b)) now' = true := by
                have hn := h.hnow
                have hn' := h.hnow'
                refine ieq_of ?_
                rw [h.scaled ⟨hn.1, by omega⟩]
                rcases hn' with hn' | ⟨_, _, hn'⟩
                · exact hn'.symm
                · rw [hn'] at hp; exact absurd hp (by decide)
              have h4 := h.flush
              simp only [hp, cond_false] at h4
              simp only [b6, Bool.not_true, splitB_f]
              exact ⟨c5, hcl, hK _ _ _ _ _ _ _ _ _ _ h4⟩
      | false =>
        have z : ieq 0 0 = true := rfl
        have h2 := h.poke ⟨hi.1, by omega⟩ hx
        have h3 := h.pass hx
        have h4 := h.flush
        simp only [hF, cond_false, Bool.false_or] at h2 h3
        simp only [cond_true, cond_false, beq_self_eq_true, Bool.not_true, splitB_t, splitB_f, Bool.false_or, ieq_self]
        cases hp : ieq pk' 0 with
        | true =>
          simp only [hp, cond_true, cond_false] at h2 h4
          have e0 : IntKind.i64.wrap (pk' + 1) = 1 := by
            rw [ieq_iff hp]; rfl
          rw [e0] at h2
          have n10 : ieq 1 0 = false := rfl
          have n11 : ieq 1 1 = true := rfl
          have b5 := h2.next n10
          simp only [e0, n10, n11, b5, Bool.not_true, Bool.not_false, splitB_t, splitB_f, cond_true, cond_false, z, hp, beq_self_eq_true, ieq_self]
          cases ieq (kd.tmod 4) 0 with
          | true => exact ⟨c5, hcl, hK _ _ _ _ _ _ _ _ _ _ h2⟩
          | false =>
            cases ieq (kd.tmod 4) 1 with
            | true => exact ⟨c5, hcl, hK _ _ _ _ _ _ _ _ _ _ h2⟩
            | false =>
              cases ieq (kd.tmod 4) 2 with
              | true => exact ⟨c5, hcl, hK _ _ _ _ _ _ _ _ _ _ h3⟩
              | false => exact ⟨c5, hcl, hK _ _ _ _ _ _ _ _ _ _ h4⟩
        | false =>
          simp only [hp, cond_true, cond_false] at h2 h4
          obtain ⟨b1, b2, b3⟩ := h.burst hp
          have b4 := h.next hp
          have hpk := h.hpk
          have n10 : ieq (IntKind.i64.wrap (pk' + 1)) 0 = false := by
            rw [wrap_id (by omega) (by omega)]
            exact ieq_ne (by omega)
          have b5 := h2.next n10
          have b6 : ieq (IntKind.i64.wrap (IntKind.i64.wrap (k * now) + b)) now' = true := by
            have hn := h.hnow
            have hn' := h.hnow'
            refine ieq_of ?_
            rw [h.scaled ⟨hn.1, by omega⟩]
            rcases hn' with hn' | ⟨_, _, hn'⟩
            · exact hn'.symm
            · rw [hn'] at hp; exact absurd hp (by decide)
          simp only [n10, b5, b6, b1, b2, b4, Bool.not_true, Bool.not_false, splitB_t, splitB_f, cond_true, cond_false, z, hp, beq_self_eq_true, ieq_self, Bool.and_true]
          cases ieq (kd.tmod 4) 0 with
          | true => exact ⟨c5, hcl, hK _ _ _ _ _ _ _ _ _ _ h2⟩
          | false =>
            cases ieq (kd.tmod 4) 1 with
            | true => exact ⟨c5, hcl, hK _ _ _ _ _ _ _ _ _ _ h2⟩
            | false =>
              cases ieq (kd.tmod 4) 2 with
              | true => exact ⟨c5, hcl, hK _ _ _ _ _ _ _ _ _ _ h3⟩
              | false => exact ⟨c5, hcl, hK _ _ _ _ _ _ _ _ _ _ h4⟩
end Go.Abs
