/-
  WholeBurstsScaled: the whole walk. (Helper theorems; each says its own conditions.)
-/
import Derived.Test.YtghcfkgfccmaoaaGreatDoorL1c
/-! WholeBurstsScaled: the whole walk. -/
namespace Go.Abs
open Go Go.Proofs

theorem orcW (T : Tab) (hT : ∀ x ∈ T, Known Tryz.prog 0 x.1 x.2.1 x.2.2) {C : Ctx} (hP : C.P = Tryz.prog) (hg : C.gs = gsOf 0) : CallOK C (orcOf T) := by
  obtain ⟨P, gs, o⟩ := C
  simp only at hP hg
  subst hP; subst hg
  exact orcOf_ok hT

theorem small_ctx {C C' : Ctx} (hP : C.P = C'.P) (hg : C.gs = C'.gs) {g : Nat} {args : List AV} {h0 : AH} {v : AV} {h1 : AH} (h : Small C g args h0 v h1) : Small C' g args h0 v h1 := by
  obtain ⟨P, gs, o⟩ := C
  obtain ⟨P', gs', o'⟩ := C'
  simp only at hP hg
  subst hP; subst hg
  exact ⟨h.enter, h.calls, h.next, h.news, h.plain⟩

theorem entry_ctx {C C' : Ctx} (hP : C.P = C'.P) (hg : C.gs = C'.gs) {e : Entry} (h : e.ok C) : e.ok C' := by
  intro args bs v l hr
  obtain ⟨h1, bs0, h2, h3⟩ := h args bs v l hr
  exact ⟨h1, bs0, h2, small_ctx hP hg h3⟩

theorem centry_ctx {C C' : Ctx} (hP : C.P = C'.P) (hg : C.gs = C'.gs) {e : CEntry} (h : e.ok C) : e.ok C' := by
  intro args bs c v l hr hc
  obtain ⟨h1, bs0, h2, h3⟩ := h args bs c v l hr hc
  exact ⟨h1, bs0, h2, small_ctx hP hg h3⟩

theorem es1_ok : ∀ e ∈ es1, e.ok Cl := by
  intro e he
  simp only [es1, List.mem_cons, List.not_mem_nil, or_false] at he
  rcases he with rfl | rfl | rfl | rfl | rfl <;> exact entry_ctx (C := C0) (C' := Cl) rfl rfl (bCon_ok _)

theorem ces1_ok : ∀ e ∈ ces1, e.ok Cl := by
  intro e he
  simp only [ces1, List.mem_cons, List.not_mem_nil, or_false] at he
  rcases he with rfl
  exact centry_ctx (C := C0) (C' := Cl) rfl rfl newCon_ok

theorem orc1_ok : CallOK Cl Cl.orc :=
  orElse_ok (orcC_ok (G := 0) rfl ces1_ok) (orElse_ok (orcW _ (fun x hx => by
    simp only [List.mem_cons, List.not_mem_nil, or_false] at hx
    rcases hx with rfl
    exact known_wakes) rfl rfl) (orcE_ok (G := 0) rfl es1_ok))

theorem cond1_ok {X : Rdr} (hX : X.cond = condE noOpq ces1) : X.ok Cl := by
  intro g args h c r hc hcc
  rw [hX] at hc
  show orElse (orcC noOpq ces1) _ g args h = some r
  unfold orElse
  rw [orcC_cond hc hcc]

theorem gs1 : ∀ g b, Cl.gs g = some b → b < 1 := by
  intro g b h
  obtain ⟨_, rfl⟩ := gsOf_eq (G := 0) h
  exact Nat.zero_lt_one

theorem split1 : items1.drop 8 = .block 0 (.loop loop1) :: items1.drop 9 := by kernel_rfl
theorem last1 : (items1.drop 9).isEmpty = false := by kernel_rfl

/-- What is known of the input. -/
structure In1 (d : Nat → AV) (len nd : Nat) (kd nw : Nat → Int) : Prop where
  size : len * 2 ≤ nd
  el : ∀ j, j < len → d (j * 2) = .int .u8 (kd j) ∧ d (j * 2 + 1) = .int .i64 (nw j)
  cl : ∀ j, j < nd → (d j).closed = true

structure S1 where
  (i now fr to pk at_ now' fr' to' pk' at' : Int)

set_option maxRecDepth 100000 in
theorem loop1_ok {q m : Int} {len cap : Nat} {k b : Int} {d : Nat → AV} {nd : Nat} {kd nw : Nat → Int} (hin : In1 d len nd kd nw) (hlen : len ≤ 100) (h0 : Two k b q m 0 0 0 0 0 0 0 0 0 0 0) :
    AWL Cl 1 (.block 0 (.loop loop1) :: items1.drop 9) (stOf 200 ts1 (vals1 k b len cap 0) (blks1 (flt q m 0 0 0 0 0) (flt (k * q) (k * m) 0 0 0 0 0) d nd))
      (EndsF noOpq Cl.P rs1 0 fun v L => v = .bool true ∧ L = []) := by
  refine AWL.loop (f := 60) fit orc1_ok (fun p : S1 => XL (kd p.i.toNat) (nw p.i.toNat)) (fun p => cond1_ok rfl) gs1 (fun p => vals1 k b len cap p.i)
    (fun p => blks1 (flt q m p.now p.fr p.to p.pk p.at_) (flt (k * q) (k * m) p.now' p.fr' p.to' p.pk' p.at') d nd)
    (fun p => (0 ≤ p.i ∧ p.i ≤ len) ∧ Two k b q m p.now p.fr p.to p.pk p.now' p.fr' p.to' p.pk' p.at_ p.at' p.i) (fun p => len - p.i.toNat) ?_ ?_ ⟨0, 0, 0, 0, 0, 0, 0, 0, 0, 0, 0⟩ ⟨by simp only; omega, h0⟩
  · intro h
    have := last1
    rw [h] at this
    cases this
  · rintro ⟨i, now, fr, to, pk, at_, now', fr', to', pk', at'⟩ ⟨hi, h2⟩
    simp only at hi h2 ⊢
    by_cases hlt : i < len
    · refine rounds1 k b q m now fr to pk at_ now' fr' to' pk' at' len cap i _ _ d nd _ _ _ h2 ⟨hi.1, hlt⟩ hlen hin.size ?_ hin.cl ?_
      · obtain ⟨e1, e2⟩ := hin.el i.toNat (by omega)
        simp only [readL, Sto.get, Nat.zero_add, e1, e2]
      · intro now fr to pk at_ now' fr' to' pk' at' h3
        exact ⟨⟨i + 1, now, fr, to, pk, at_, now', fr', to', pk', at'⟩, rfl, rfl, ⟨by simp only; omega, h3⟩, by simp only; omega⟩
    · rw [show Cl.P = Tryz.prog from rfl, body_tree]
      have c1 : ile (len : Int) i = true := ile_iff.2 (by omega)
      simp only [c1, Bool.not_true, splitB_f]
      refine ⟨tab_closed, hin.cl, trivial, ?_⟩
      refine AWL.last (X := XC) (f := 60) fit orc1_ok (cond1_ok rfl) ?_
      have := end_tree k b len cap i (flt q m now fr to pk at_) (flt (k * q) (k * m) now' fr' to' pk' at') d nd (fun v L => v = .bool true ∧ L = [])
      exact this.mpr ⟨rfl, rfl⟩

set_option maxRecDepth 100000 in
theorem walk1 (q m t l : Int) (len cap nd : Nat) (d : Nat → AV) (kd nw : Nat → Int) (ht : 0 ≤ t ∧ t ≤ 255) (hl : 0 ≤ l ∧ l ≤ 4294967295) (hin : In1 d len nd kd nw) :
    AWL Cl 1 items1 ⟨200, argsT [.int .i64 q, .int .i64 m, .sl 1 0 len cap true, .int .u8 t, .int .u32 l] 0 .lf, hOf [tabB, inB1 d nd], []⟩ (EndsF noOpq Cl.P rs1 0 fun v L => v = .bool true ∧ L = []) := by
  have hne : items1.drop 8 ≠ [] := by rw [split1]; simp
  refine AWL.piece (X := XC) (oq := noOpq) (N := 200) (f := 60) (ts := ts1) fit orc1_ok (cond1_ok rfl) gs1 8 hne ?_
  rw [show Cl.P = Tryz.prog from rfl, pre_tree]
  have hk1 : t.tmod 4 = t % 4 := Int.tmod_eq_emod_of_nonneg ht.1
  have hk : IntKind.i64.wrap (1 + IntKind.i64.wrap (t.tmod 4)) = 1 + t % 4 := by
    have e : IntKind.i64.wrap (t % 4) = t % 4 := wrap_id (by omega) (by omega)
    rw [hk1, e, wrap_id (by omega) (by omega)]
  have hb : IntKind.i64.wrap l = l := wrap_id (by omega) (by omega)
  have k4 := four (k := 1 + t % 4) ⟨by omega, by omega⟩
  generalize 1 + t % 4 = k at *
  rw [hk, hb, split1]
  -- what is so of a filter that may be
  have good : ∀ (h1 : 1 ≤ q) (h2 : q ≤ 274877906944) (h3 : m = 0 ∨ q ≤ m ∧ m ≤ 281474976710656) (h4 : len ≤ 100),
      bGood q m ∧ bGood (IntKind.i64.wrap (k * q)) (IntKind.i64.wrap (k * m)) ∧ (∀ (j : Nat), j < 32 → (listFn tabV j).closed = true) ∧ (∀ (j : Nat), j < nd → (d j).closed = true) ∧
        AWL Cl 1 (.block 0 (.loop loop1) :: items1.drop 9) (stOf 200 ts1 (vals1 k l len cap 0) (blks1 (flt q m 0 0 0 0 0) (flt (IntKind.i64.wrap (k * q)) (IntKind.i64.wrap (k * m)) 0 0 0 0 0) d nd))
          (EndsF noOpq Tryz.prog rs1 0 fun v L => v = .bool true ∧ L = []) := by
    intro h1 h2 h3 h4
    have e1 : IntKind.i64.wrap (k * q) = k * q := by rcases k4 with rfl | rfl | rfl | rfl <;> exact wrap_id (by omega) (by omega)
    have e2 : IntKind.i64.wrap (k * m) = k * m := by rcases k4 with rfl | rfl | rfl | rfl <;> exact wrap_id (by omega) (by omega)
    rw [e1, e2]
    refine ⟨⟨h1, by omega, by omega⟩, ?_, tab_closed, hin.cl, loop1_ok hin h4 ⟨by omega, hl, ⟨h1, h2⟩, h3, by omega, .inr ⟨rfl, rfl, rfl⟩, by omega, rfl, ⟨rfl, rfl⟩, fun _ => ⟨rfl, rfl, rfl, rfl⟩, fun h => absurd rfl h⟩⟩
    rcases k4 with rfl | rfl | rfl | rfl <;> exact ⟨by omega, by omega, by omega⟩
  refine splitB_intro (fun _ => ⟨rfl, rfl⟩) (fun h1 => splitB_intro (fun _ => ⟨rfl, rfl⟩) (fun h2 => ?_))
  have h1 : 1 ≤ q := ile_iff.1 (by simpa using h1)
  have h2 : q ≤ 274877906944 := ile_iff.1 (by simpa using h2)
  refine splitB_intro (fun h3 => splitB_intro (fun _ => ⟨rfl, rfl⟩) (fun h4 => splitB_intro (fun _ => ⟨rfl, rfl⟩) (fun h5 => splitB_intro (fun _ => ⟨rfl, rfl⟩) (fun h6 => ?_)))) (fun h3 => splitB_intro (fun _ => ⟨rfl, rfl⟩) (fun h6 => ?_))
  · have h4 : q ≤ m := ile_iff.1 (by simpa using h4)
    have h5 : m ≤ 281474976710656 := ile_iff.1 (by simpa using h5)
    have h6 : (len : Int) ≤ 100 := ile_iff.1 (by simpa using h6)
    exact good h1 h2 (.inr ⟨h4, h5⟩) (by omega)
  · have h3 : m = 0 := ieq_iff (by simpa using h3)
    have h6 : (len : Int) ≤ 100 := ile_iff.1 (by simpa using h6)
    exact good h1 h2 (.inl h3) (by omega)

end Go.Abs
