/-
  WholeGatesScaled: the walk. (Helper theorems; each says its own conditions.)
-/
import Derived.Test.YtkikjebliennbaaGreatDoorG3t
import Derived.Test.YtkikjebliennbaaGreatDoorM6
import Derived.Test.YtkikjebliennbaaGreatDoorW26c
/-! WholeGatesScaled: the walk. -/
namespace Go.Abs
open Go Go.Proofs

theorem orcW (T : Tab) (hT : ∀ x ∈ T, Known Tryz.prog 0 x.1 x.2.1 x.2.2) {C : Ctx} (hP : C.P = Tryz.prog) (hg : C.gs = gsOf 0) : CallOK C (orcOf T) := by
  obtain ⟨P, gs, o⟩ := C
  simp only at hP hg
  subst hP; subst hg
  exact orcOf_ok hT

theorem orcL_ok {es : List CEntry} (h : ∀ e ∈ es, e.ok (CL es)) : CallOK (CL es) (CL es).orc :=
  orElse_ok (orcC_ok (G := 0) rfl h) (orcW _ (fun x hx => by
    simp only [List.mem_cons, List.not_mem_nil, or_false] at hx
    rcases hx with rfl
    exact known_wakes) rfl rfl)

theorem law3_items : flatC (bodyAt 3) [] = law3Pre ++ .block 0 (.loop law3Loop) :: law3Post := by kernel_rfl
theorem law3_post : law3Post.isEmpty = false := by kernel_rfl

set_option maxRecDepth 100000 in
set_option maxHeartbeats 1000000 in
theorem rounds3 (k b g s t n t' n' : Int) (len cap : Nat) (i kd nw nn : Int) (d : Nat → AV) (nd : Nat) (KN : List AV → List ABlk → Prop) (KE : Nat → List AV → List ABlk → Prop) (KF : AV → List ABlk → Prop)
    (h : GTwo k b g s t n t' n') (hi : 0 ≤ i ∧ i < len) (hlen : len ≤ 100) (hnd : len * 3 ≤ nd) (hrd : readL (Sto.fn d) (0 + i.toNat * 3) 3 = [AV.int IntKind.u8 kd, AV.int IntKind.i64 nw, AV.int IntKind.i64 nn])
    (hcl : ∀ (j : Nat), j < nd → (d j).closed = true)
    (hK : ∀ t n t' n', GTwo k b g s t n t' n' → KN (vals3 k b len cap (i + 1)) (blks3 g s t n (k * g) (k * s) t' n' d nd)) :
    Holds (wexec (CL esL) (XL3 kd nw nn) 60 law3Loop (stOf 146 ts3 (vals3 k b len cap i) (blks3 g s t n (k * g) (k * s) t' n' d nd)) (leafF oqI (CL esL).P [.tmp 10] 146 1 0 ts3 KN KE KF)) := by
  refine Holds.tree (law_t1 k b len cap i kd nw nn g s t n (k * g) (k * s) t' n' d nd KN KE KF) ?_
  have c1 : ile (len : Int) i = false := ile_not (by omega)
  have c2 : inB i len = true := inB_iff.2 ⟨hi.1, by omega⟩
  have c3 : (0 + i.toNat * 3 + 3).ble nd = true := by rw [Nat.ble_eq]; omega
  have c4 : IntKind.i64.wrap (i + 1) = i + 1 := wrap_id (by omega) (by omega)
  have c5 : (∀ (j : Nat), j < 32 → (listFn tabV j).closed = true) := tab_closed
  simp only [c1, c2, c3, c4, splitB_t, Bool.not_false, hrd, true_and]
  cases e1 : ile 0 nw with
  | false =>
    simp only [Bool.not_false, splitB_t]
    exact ⟨c5, hcl, hK _ _ _ _ h⟩
  | true =>
    cases e2 : ile nw 35184372088832 with
    | false =>
      simp only [Bool.not_false, Bool.not_true, splitB_t, splitB_f]
      exact ⟨c5, hcl, hK _ _ _ _ h⟩
    | true =>
      have hx : 0 ≤ nw ∧ nw ≤ 35184372088832 := ⟨ile_iff.1 e1, ile_iff.1 e2⟩
      obtain ⟨hp, h2⟩ := h.pass hx
      obtain ⟨hm, h3⟩ := GTwo.many hx (manyC nn) h
      have h4 := h.at hx
      have h5 := h.reset
      have hw := h.wait hx
      simp only [Bool.not_true, splitB_f, h.time hx, hp, hm, hw, ieq_self, beq_self_eq_true]
      -- what is asked of the turns
      have turns : ∀ {t n t' n' : Int} {X : Prop}, GTwo k b g s t n t' n' → X → splitB (!ieq t 0) (splitB (!ieq (IntKind.i64.wrap (IntKind.i64.wrap (k * t) + b)) t') (KF (AV.bool false) []) X) (splitB (!ieq t t') (KF (AV.bool false) []) X) := by
        intro t n t' n' X h hX
        rcases h.turn with ⟨h1, h2⟩ | ⟨h1, h2⟩
        · rw [h1, h2]; exact hX
        · rw [h1, h2]; exact hX
      cases ieq (kd.tmod 8) 0 with
      | true => exact turns h2 ⟨c5, hcl, hK _ _ _ _ h2⟩
      | false =>
        cases ieq (kd.tmod 8) 1 with
        | true => exact turns h2 ⟨c5, hcl, hK _ _ _ _ h2⟩
        | false =>
          cases ieq (kd.tmod 8) 2 with
          | true => exact turns h2 ⟨c5, hcl, hK _ _ _ _ h2⟩
          | false =>
            cases ieq (kd.tmod 8) 3 with
            | true => exact turns h3 ⟨c5, hcl, hK _ _ _ _ h3⟩
            | false =>
              cases ieq (kd.tmod 8) 4 with
              | true => exact turns h3 ⟨c5, hcl, hK _ _ _ _ h3⟩
              | false =>
                cases ieq (kd.tmod 8) 7 with
                | true => exact ⟨c5, hcl, hK _ _ _ _ h5⟩
                | false => exact turns h4 ⟨c5, hcl, hK _ _ _ _ h4⟩

/-- What is known of the input. -/
structure In3 (d : Nat → AV) (len nd : Nat) (kd nw nn : Nat → Int) : Prop where
  size : len * 3 ≤ nd
  el : ∀ j, j < len → d (j * 3) = .int .u8 (kd j) ∧ d (j * 3 + 1) = .int .i64 (nw j) ∧ d (j * 3 + 2) = .int .i64 (nn j)
  cl : ∀ j, j < nd → (d j).closed = true

structure S3 where
  (i t n t' n' : Int)

set_option maxRecDepth 100000 in
theorem loop3_ok {k b g s : Int} {len cap : Nat} {d : Nat → AV} {nd : Nat} {kd nw nn : Nat → Int} (hin : In3 d len nd kd nw nn) (hlen : len ≤ 100) (h0 : GTwo k b g s 0 (-4611686018427387903) 0 (-4611686018427387903)) :
    Walk (CL esL) 1 (.block 0 (.loop law3Loop) :: law3Post) (stOf 146 ts3 (vals3 k b len cap 0) (blks3 g s 0 (-4611686018427387903) (k * g) (k * s) 0 (-4611686018427387903) d nd)) (EndsF oqI (CL esL).P [.tmp 10] 0 fun v L => v = .bool true ∧ L = []) := by
  refine Walk.loop (f := 60) fit (orcL_ok esL_ok) (fun q : S3 => XL3 (kd q.i.toNat) (nw q.i.toNat) (nn q.i.toNat)) (fun _ => condL_ok rfl) (gsL esL) (fun q => vals3 k b len cap q.i)
    (fun q => blks3 g s q.t q.n (k * g) (k * s) q.t' q.n' d nd) (fun q => (0 ≤ q.i ∧ q.i ≤ len) ∧ GTwo k b g s q.t q.n q.t' q.n') (fun q => len - q.i.toNat) law3_post ?_ ⟨0, 0, -4611686018427387903, 0, -4611686018427387903⟩ ⟨by simp only; omega, h0⟩
  rintro ⟨i, t, n, t', n'⟩ ⟨hi, h2⟩
  simp only at hi h2 ⊢
  by_cases hlt : i < len
  · refine rounds3 k b g s t n t' n' len cap i _ _ _ d nd _ _ _ h2 ⟨hi.1, hlt⟩ hlen hin.size ?_ hin.cl ?_
    · obtain ⟨e1, e2, e3⟩ := hin.el i.toNat (by omega)
      simp only [readL, Sto.get, Nat.zero_add, e1, e2, e3]
    · intro t n t' n' h3
      exact ⟨⟨i + 1, t, n, t', n'⟩, rfl, likeL_refl _, ⟨by simp only; omega, h3⟩, by simp only; omega⟩
  · refine Holds.tree (law_t1 k b len cap i _ _ _ g s t n (k * g) (k * s) t' n' d nd _ _ _) ?_
    have c1 : ile (len : Int) i = true := ile_of (by omega)
    simp only [c1, Bool.not_true, splitB_f]
    refine ⟨tab_closed, hin.cl, trivial, blks3 g s t n (k * g) (k * s) t' n' d nd, likeL_refl _, ?_⟩
    refine Walk.last (X := XN esL) (f := 60) fit (orcL_ok esL_ok) (condL_ok rfl) ?_
    refine Holds.tree (law_t2 k b len cap i g s t n (k * g) (k * s) t' n' d nd _) ?_
    have hkg : 0 < k * g := Int.mul_pos (by have := h2.hk; omega) (by have := h2.hg; omega)
    refine ⟨by have := h2.hg; omega, by omega, ?_, rfl⟩
    rw [bursts_eq h2.hk h2.hg h2.hs]

/-- The numbers that the law begins with. -/
theorem start3 {g s tm lt : Int} (h3 : 0 ≤ tm ∧ tm ≤ 255) (h4 : 0 ≤ lt ∧ lt ≤ 4294967295) (h1 : 1 ≤ g ∧ g ≤ 274877906944) (h2 : 0 ≤ s ∧ s ≤ 281474976710656) :
    ∃ K : Int, IntKind.i64.wrap (1 + IntKind.i64.wrap (tm.tmod 4)) = K ∧ IntKind.i64.wrap lt = lt ∧ IntKind.i64.wrap (K * g) = K * g ∧ IntKind.i64.wrap (K * s) = K * s ∧ gGood g s ∧ gGood (K * g) (K * s) ∧ K * g ≠ 0 ∧
      GTwo K lt g s 0 (-4611686018427387903) 0 (-4611686018427387903) := by
  have e2 : tm.tmod 4 = tm % 4 := Int.tmod_eq_emod_of_nonneg h3.1
  have b2 : IntKind.i64.wrap (tm % 4) = tm % 4 := wrap_id (by omega) (by omega)
  have hK : 1 ≤ 1 + tm % 4 ∧ 1 + tm % 4 ≤ 4 := by omega
  refine ⟨1 + tm % 4, by rw [e2, b2, wrap_id (by omega) (by omega)], wrap_id (by omega) (by omega), ?_⟩
  generalize 1 + tm % 4 = K at *
  have p1 : 1 ≤ K * g ∧ K * g ≤ 4 * 274877906944 := by rcases four hK with rfl | rfl | rfl | rfl <;> omega
  have p2 : 0 ≤ K * s ∧ K * s ≤ 4 * 281474976710656 := by rcases four hK with rfl | rfl | rfl | rfl <;> omega
  exact ⟨wrap_id (by omega) (by omega), wrap_id (by omega) (by omega), ⟨h1.1, by omega, h2.1, by omega⟩, ⟨p1.1, by omega, p2.1, by omega⟩, by omega, hK, h4, h1, h2, .inl ⟨rfl, rfl⟩, .inl ⟨rfl, rfl⟩⟩

set_option maxRecDepth 100000 in
theorem walk3 (g s tm lt : Int) (len cap nd : Nat) (d : Nat → AV) (kd nw nn : Nat → Int) (h3 : 0 ≤ tm ∧ tm ≤ 255) (h4 : 0 ≤ lt ∧ lt ≤ 4294967295) (hin : In3 d len nd kd nw nn) :
    Walk (CL esL) 1 (law3Pre ++ .block 0 (.loop law3Loop) :: law3Post) ⟨146, argsT [.int .i64 g, .int .i64 s, .sl 1 0 len cap true, .int .u8 tm, .int .u32 lt] 0 .lf, hOf [tabB, inB3 d nd], []⟩ (EndsF oqI (CL esL).P [.tmp 10] 0 fun v L => v = .bool true ∧ L = []) := by
  refine Walk.piece (X := XN esL) (N := 146) (f := 60) (ts := ts3) fit (orcL_ok esL_ok) (condL_ok rfl) (gsL esL) ?_
  refine Holds.tree (law_t0 g s tm lt len cap d nd _ _ _) ?_
  refine splitB_intro (fun _ => ⟨rfl, rfl⟩) (fun q1 => splitB_intro (fun _ => ⟨rfl, rfl⟩) (fun q2 => splitB_intro (fun _ => ⟨rfl, rfl⟩) (fun q3 => splitB_intro (fun _ => ⟨rfl, rfl⟩) (fun q4 => splitB_intro (fun _ => ⟨rfl, rfl⟩) (fun q5 => ?_)))))
  have q1 : 1 ≤ g := ile_iff.1 (by simpa using q1)
  have q2 : g ≤ 274877906944 := ile_iff.1 (by simpa using q2)
  have q3 : 0 ≤ s := ile_iff.1 (by simpa using q3)
  have q4 : s ≤ 281474976710656 := ile_iff.1 (by simpa using q4)
  have q5 : (len : Int) ≤ 100 := ile_iff.1 (by simpa using q5)
  obtain ⟨K, eK, eL, e1, e2, g1, g2, _, h0⟩ := start3 h3 h4 ⟨q1, q2⟩ ⟨q3, q4⟩
  rw [eK, eL, e1, e2]
  exact ⟨g1, g2, tab_closed, hin.cl, _, likeL_refl _, loop3_ok hin (by omega) h0⟩

set_option maxRecDepth 100000 in
theorem walkNil3 (g s tm lt : Int) (h3 : 0 ≤ tm ∧ tm ≤ 255) (h4 : 0 ≤ lt ∧ lt ≤ 4294967295) :
    Walk (CL esL) 1 (itemsAt 3) ⟨146, argsT [.int .i64 g, .int .i64 s, .sl0, .int .u8 tm, .int .u32 lt] 0 .lf, hOf [tabB], []⟩ (EndsF oqI (CL esL).P [.tmp 10] 0 fun v L => v = .bool true ∧ L = []) := by
  refine Walk.last (X := XN esL) (f := 60) fit (orcL_ok esL_ok) (condL_ok rfl) ?_
  refine Holds.tree (law_tn g s tm lt _) ?_
  refine splitB_intro (fun _ => ⟨rfl, rfl⟩) (fun q1 => splitB_intro (fun _ => ⟨rfl, rfl⟩) (fun q2 => splitB_intro (fun _ => ⟨rfl, rfl⟩) (fun q3 => splitB_intro (fun _ => ⟨rfl, rfl⟩) (fun q4 => ?_))))
  have q1 : 1 ≤ g := ile_iff.1 (by simpa using q1)
  have q2 : g ≤ 274877906944 := ile_iff.1 (by simpa using q2)
  have q3 : 0 ≤ s := ile_iff.1 (by simpa using q3)
  have q4 : s ≤ 281474976710656 := ile_iff.1 (by simpa using q4)
  obtain ⟨K, eK, eL, e1, e2, g1, g2, hne, h0⟩ := start3 h3 h4 ⟨q1, q2⟩ ⟨q3, q4⟩
  rw [eK, e1, e2]
  refine ⟨g1, g2, by omega, hne, ?_, rfl⟩
  rw [bursts_eq h0.hk h0.hg h0.hs]

end Go.Abs
