/-
  WholePiecesScaled: a round of the loop. (Helper theorems; each says its own conditions.)
-/
import Derived.Test.YtghcfkgfccmaoaaGreatDoorV9t
import Derived.Test.YtghcfkgfccmaoaaGreatDoorM5
/-! WholePiecesScaled: a round of the loop. -/
namespace Go.Abs
open Go Go.Proofs

theorem EOk.mk {l l' : List Int} {n : Nat} (h : n = l.length) (h' : n = l'.length) (hn : n ≤ 1000000) : EOk (listFn (ints l)) (listFn (ints l')) n n n n :=
  ⟨rfl, rfl, hn, isInts_ints h, isInts_ints h'⟩

set_option maxRecDepth 100000 in
set_option maxHeartbeats 1000000 in
theorem rounds5 (k b L p p' a a' : Int) (l l' : List Int) (n : Nat) (len cap : Nat) (i kd nw nn mo : Int) (d : Nat → AV) (nd : Nat) (KN : List AV → List ABlk → Prop) (KE : Nat → List AV → List ABlk → Prop) (KF : AV → List ABlk → Prop)
    (h : WTwo k b L p p' a a' l l' n) (hi : 0 ≤ i ∧ i < len) (hlen : len ≤ 100) (hnd : len * 4 ≤ nd) (hrd : readL (Sto.fn d) (0 + i.toNat * 4) 4 = [AV.int IntKind.u8 kd, AV.int IntKind.i64 nw, AV.int IntKind.i64 nn, AV.int IntKind.i64 mo])
    (hcl : ∀ (j : Nat), j < nd → (d j).closed = true)
    (hK : ∀ a a' l l', WTwo k b L p p' a a' l l' n → KN (vals5 k b len cap (i + 1)) (blks5 p p' a a' l l' n d nd)) :
    Holds (wexec CL (XL5 kd nw nn mo) 60 law5Loop (stOf 149 ts5 (vals5 k b len cap i) (blks5 p p' a a' l l' n d nd)) (leafF oqI CL.P [.tmp 10] 149 1 0 ts5 KN KE KF)) := by
  refine Holds.tree (law_t1 k b len cap i kd nw nn mo p p' a a' l l' n d nd KN KE KF) ?_
  have c1 : ile (len : Int) i = false := by rw [ile_eq]; simp; omega
  have c2 : inB i len = true := inB_iff.2 ⟨hi.1, by omega⟩
  have c3 : (0 + i.toNat * 4 + 4).ble nd = true := by rw [Nat.ble_eq]; omega
  have c4 : IntKind.i64.wrap (i + 1) = i + 1 := wrap_id (by omega) (by omega)
  have c5 : (∀ (j : Nat), j < 32 → (listFn tabV j).closed = true) := tab_closed
  have ci : ∀ (l : List Int) (j : Nat), j < n → (listFn (ints l) j).closed = true := fun l j _ => listFn_closed (closeds_ints l) j
  simp only [c1, c2, c3, c4, splitB_t, Bool.not_false, hrd, true_and]
  cases e1 : ile 0 nw with
  | false =>
    simp only [Bool.not_false, splitB_t]
    exact ⟨c5, hcl, ci l, ci l', hK _ _ _ _ h⟩
  | true =>
    cases e2 : ile nw 35184372088832 with
    | false =>
      simp only [Bool.not_false, Bool.not_true, splitB_t, splitB_f]
      exact ⟨c5, hcl, ci l, ci l', hK _ _ _ _ h⟩
    | true =>
      have hx : 0 ≤ nw ∧ nw ≤ 35184372088832 := ⟨ile_iff.1 e1, ile_iff.1 e2⟩
      obtain ⟨hsc, _, _⟩ := h.time hx
      obtain ⟨ht1, _, _⟩ := h.tgts hx
      have h2 := h.reach hx
      have h3 := h2.add ht1 nn
      have hp := h.hp
      have hn := h.hn
      have hbd := h.bound
      have hbd2 := h2.bound
      have ha := h.ha
      have ha2 := h2.ha
      have hpp : 1 ≤ p' := by
        have := h.hk
        have e := h.hp'
        have := Int.mul_pos (show 0 < k by omega) (show 0 < p by omega)
        omega
      have t1 : toI (listFn (ints l)) n = l := toI_ints h.len
      have t2 : toI (listFn (ints l')) n = l' := toI_ints h.len'
      have w1 : WOk p a n n n (listFn (ints l)) := WOk.mk h.len hn (by omega) (by omega)
      have w2 : WOk p' a' n n n (listFn (ints l')) := WOk.mk h.len' hn hpp (by omega)
      simp only [Bool.not_true, splitB_f, hsc, t1, t2, w1, w2, true_and, allows]
      -- what is so behind an event, whatever it was
      have rest : ∀ (r r' : List Int), WTwo k b L p p' (tgt p a nw) (tgt p' a' (k * nw + b)) r r' n →
          toI (listFn (ints r)) n = r ∧ toI (listFn (ints r')) n = r' ∧ WOk p (tgt p a nw) n n n (listFn (ints r)) ∧ WOk p' (tgt p' a' (k * nw + b)) n n n (listFn (ints r')) ∧
          toI (listFn (ints (partsL (tgt p a nw) r))) n = partsL (tgt p a nw) r ∧ toI (listFn (ints (partsL (tgt p' a' (k * nw + b)) r'))) n = partsL (tgt p a nw) r ∧
          EOk (listFn (ints (partsL (tgt p' a' (k * nw + b)) r'))) (listFn (ints (partsL (tgt p' a' (k * nw + b)) r'))) n n n n ∧ toI (listFn (ints (partsL (tgt p' a' (k * nw + b)) r'))) n = partsL (tgt p' a' (k * nw + b)) r' := by
        intro r r' hr
        have l1 := hr.len
        have l2 := hr.len'
        have p1 : n = (partsL (tgt p a nw) r).length := by rw [partsL_length]; exact l1
        have p2 : n = (partsL (tgt p' a' (k * nw + b)) r').length := by rw [partsL_length]; exact l2
        exact ⟨toI_ints l1, toI_ints l2, WOk.mk l1 hn (by omega) (by omega), WOk.mk l2 hn hpp (by omega), toI_ints p1, by rw [toI_ints p2, ← hr.same], EOk.mk p2 p2 (by omega), toI_ints p2⟩
      cases ieq (kd.tmod 2) 0 with
      | true =>
        obtain ⟨r1, r2, r3, r4, _, _, r7, r8⟩ := rest _ _ h3
        simp only [splitB_t, tgt_tgt, reachL_tgt, r1, r2, r3, r4, r7, r8, true_and, h3.same, h3.full ht1, ieq_self, Bool.not_true, splitB_f, decide_true]
        exact ⟨c5, hcl, ci _, ci _, hK _ _ _ _ h3⟩
      | false =>
        simp only [splitB_f, tgt_tgt, reachL_tgt, h2.same, beq_self_eq_true, Bool.not_true]
        generalize ile (IntKind.i64.wrap (sumL (partsL (tgt p' a' (k * nw + b)) (reachL p' a' (k * nw + b) l')) + come nn)) mo = al
        cases al with
        | true =>
          obtain ⟨r1, r2, r3, r4, _, _, r7, r8⟩ := rest _ _ h3
          simp only [cond_true, tgt_tgt, reachL_tgt, r1, r2, r3, r4, r7, r8, true_and, h3.same, h3.full ht1, ieq_self, Bool.not_true, splitB_f, decide_true]
          exact ⟨c5, hcl, ci _, ci _, hK _ _ _ _ h3⟩
        | false =>
          obtain ⟨r1, r2, r3, r4, _, _, r7, r8⟩ := rest _ _ h2
          simp only [cond_false, tgt_tgt, reachL_tgt, r1, r2, r3, r4, r7, r8, true_and, h2.same, h2.full ht1, ieq_self, Bool.not_true, splitB_f, decide_true]
          exact ⟨c5, hcl, ci _, ci _, hK _ _ _ _ h2⟩

end Go.Abs
