/-
  WholePiecesScaled: the whole walk. (Helper theorems; each says its own conditions.)
-/
import Derived.Test.YtghcfkgfccmaoaaGreatDoorV10
import Derived.Test.YtghcfkgfccmaoaaGreatDoorL1d
/-! WholePiecesScaled: the whole walk. -/
namespace Go.Abs
open Go Go.Proofs

theorem esL_CL : ∀ e ∈ esL, e.ok CL := fun e he => centry_ctx (C := CI esL) (C' := CL) rfl rfl (esL_ok e he)

theorem orc5_ok : CallOK CL CL.orc :=
  orElse_ok (orcC_ok (G := 0) rfl esL_CL) (orcW _ (fun x hx => by
    simp only [List.mem_cons, List.not_mem_nil, or_false] at hx
    rcases hx with rfl
    exact known_wakes) rfl rfl)

theorem cond5_ok {X : Rdr} (hX : X.cond = condE oqI esL) : X.ok CL := by
  intro g args h c r hc hcc
  rw [hX] at hc
  show orElse (orcC oqI esL) _ g args h = some r
  unfold orElse
  rw [orcC_cond hc hcc]

theorem gs5 : ∀ g b, CL.gs g = some b → b < 1 := by
  intro g b h
  obtain ⟨_, rfl⟩ := gsOf_eq (G := 0) h
  exact Nat.zero_lt_one

theorem law5_items : flatC (bodyAt 5) [] = law5Pre ++ .block 0 (.loop law5Loop) :: law5Post := by kernel_rfl
theorem law5_post : law5Post.isEmpty = false := by kernel_rfl

/-- What is known of the input. -/
structure In5 (d : Nat → AV) (len nd : Nat) (kd nw nn mo : Nat → Int) : Prop where
  size : len * 4 ≤ nd
  el : ∀ j, j < len → d (j * 4) = .int .u8 (kd j) ∧ d (j * 4 + 1) = .int .i64 (nw j) ∧ d (j * 4 + 2) = .int .i64 (nn j) ∧ d (j * 4 + 3) = .int .i64 (mo j)
  cl : ∀ j, j < nd → (d j).closed = true

structure S5 where
  (i a a' : Int)
  (l l' : List Int)

set_option maxRecDepth 100000 in
theorem loop5_ok {k b L p p' : Int} {n len cap : Nat} {l l' : List Int} {d : Nat → AV} {nd : Nat} {kd nw nn mo : Nat → Int} (hin : In5 d len nd kd nw nn mo) (hlen : len ≤ 100) (h0 : WTwo k b L p p' 0 0 l l' n) :
    Walk CL 1 (.block 0 (.loop law5Loop) :: law5Post) (stOf 149 ts5 (vals5 k b len cap 0) (blks5 p p' 0 0 l l' n d nd)) (EndsF oqI CL.P [.tmp 10] 0 fun v L => v = .bool true ∧ L = []) := by
  refine Walk.loop (f := 60) fit orc5_ok (fun q : S5 => XL5 (kd q.i.toNat) (nw q.i.toNat) (nn q.i.toNat) (mo q.i.toNat)) (fun _ => cond5_ok rfl) gs5 (fun q => vals5 k b len cap q.i)
    (fun q => blks5 p p' q.a q.a' q.l q.l' n d nd) (fun q => (0 ≤ q.i ∧ q.i ≤ len) ∧ WTwo k b L p p' q.a q.a' q.l q.l' n) (fun q => len - q.i.toNat) law5_post ?_ ⟨0, 0, 0, l, l'⟩ ⟨by simp only; omega, h0⟩
  rintro ⟨i, a, a', l, l'⟩ ⟨hi, h2⟩
  simp only at hi h2 ⊢
  by_cases hlt : i < len
  · refine rounds5 k b L p p' a a' l l' n len cap i _ _ _ _ d nd _ _ _ h2 ⟨hi.1, hlt⟩ hlen hin.size ?_ hin.cl ?_
    · obtain ⟨e1, e2, e3, e4⟩ := hin.el i.toNat (by omega)
      simp only [readL, Sto.get, Nat.zero_add, e1, e2, e3, e4]
    · intro a a' l l' h3
      exact ⟨⟨i + 1, a, a', l, l'⟩, rfl, likeL_refl _, ⟨by simp only; omega, h3⟩, by simp only; omega⟩
  · refine Holds.tree (law_t1 k b len cap i _ _ _ _ p p' a a' l l' n d nd _ _ _) ?_
    have c1 : ile (len : Int) i = true := ile_iff.2 (by omega)
    have ci : ∀ (l : List Int) (j : Nat), j < n → (listFn (ints l) j).closed = true := fun l j _ => listFn_closed (closeds_ints l) j
    simp only [c1, Bool.not_true, splitB_f]
    refine ⟨tab_closed, hin.cl, ci _, ci _, trivial, blks5 p p' a a' l l' n d nd, likeL_refl _, ?_⟩
    refine Walk.last (X := XN esL) (f := 60) fit orc5_ok (cond5_ok rfl) ?_
    refine Holds.tree (law_t2 k b len cap i p p' a a' l l' n d nd _) ?_
    exact ⟨rfl, rfl⟩

theorem partsL_zero (a : Int) (n : Nat) : partsL a (List.replicate n 0) = List.replicate n 0 := by
  apply List.ext_getElem?
  intro i
  cases Nat.lt_or_ge i n with
  | inr hge => rw [partsL_none (by simpa using hge), List.getElem?_eq_none]; simpa using hge
  | inl hlt =>
    rw [partsL_get (by simpa using hlt), List.getElem?_replicate, if_pos hlt, List.getD_eq_getElem?_getD, List.getElem?_replicate]
    split <;> rfl

/-- The numbers that the law begins with. -/
theorem start5 {pc pt tm lt : Int} (h1 : 0 ≤ pc ∧ pc ≤ 65535) (h2 : 0 ≤ pt ∧ pt ≤ 255) (h3 : 0 ≤ tm ∧ tm ≤ 255) (h4 : 0 ≤ lt ∧ lt ≤ 65535) :
    ∃ N P K : Int, (1 ≤ N ∧ N ≤ 64) ∧ (1 ≤ P ∧ P ≤ 65536) ∧ (1 ≤ K ∧ K ≤ 4) ∧ IntKind.i64.wrap (1 + IntKind.i64.wrap (pt.tmod 64)) = N ∧ IntKind.i64.wrap (1 + IntKind.i64.wrap pc) = P ∧ IntKind.i64.wrap (1 + IntKind.i64.wrap (tm.tmod 4)) = K ∧
      IntKind.i64.wrap (N * P) = N * P ∧ IntKind.i64.wrap (IntKind.i64.wrap (K * N) * P) = K * N * P ∧ IntKind.i64.wrap (IntKind.i64.wrap (K * P) * IntKind.i64.wrap lt) = K * P * lt ∧
      wGood (N * P) N ∧ wGood (K * N * P) N ∧ N * P / N = P ∧ K * N * P / N = K * P := by
  have e1 : pt.tmod 64 = pt % 64 := Int.tmod_eq_emod_of_nonneg h2.1
  have e2 : tm.tmod 4 = tm % 4 := Int.tmod_eq_emod_of_nonneg h3.1
  have b1 : IntKind.i64.wrap (pt % 64) = pt % 64 := wrap_id (by omega) (by omega)
  have b2 : IntKind.i64.wrap (tm % 4) = tm % 4 := wrap_id (by omega) (by omega)
  have b3 : IntKind.i64.wrap pc = pc := wrap_id (by omega) (by omega)
  have b4 : IntKind.i64.wrap lt = lt := wrap_id (by omega) (by omega)
  have hN : 1 ≤ 1 + pt % 64 ∧ 1 + pt % 64 ≤ 64 := by omega
  have hK : 1 ≤ 1 + tm % 4 ∧ 1 + tm % 4 ≤ 4 := by omega
  have hP : 1 ≤ 1 + pc ∧ 1 + pc ≤ 65536 := by omega
  refine ⟨1 + pt % 64, 1 + pc, 1 + tm % 4, hN, hP, hK, by rw [e1, b1, wrap_id (by omega) (by omega)], by rw [b3, wrap_id (by omega) (by omega)], by rw [e2, b2, wrap_id (by omega) (by omega)], ?_⟩
  generalize 1 + pt % 64 = N at *
  generalize 1 + pc = P at *
  generalize 1 + tm % 4 = K at *
  have p1 : 1 ≤ N * P := Int.mul_pos (by omega) (by omega)
  have p2 : N * P ≤ 64 * 65536 := Int.mul_le_mul hN.2 hP.2 (by omega) (by omega)
  have p3 : 1 ≤ K * P := Int.mul_pos (by omega) (by omega)
  have p4 : K * P ≤ 4 * 65536 := Int.mul_le_mul hK.2 hP.2 (by omega) (by omega)
  have p5 : 1 ≤ K * N := Int.mul_pos (by omega) (by omega)
  have p6 : K * N ≤ 4 * 64 := Int.mul_le_mul hK.2 hN.2 (by omega) (by omega)
  have p7 : 1 ≤ K * N * P := Int.mul_pos (by omega) (by omega)
  have p8 : K * N * P ≤ (4 * 64) * 65536 := Int.mul_le_mul p6 hP.2 (by omega) (by omega)
  have p9 : 0 ≤ K * P * lt := Int.mul_nonneg (by omega) h4.1
  have p10 : K * P * lt ≤ (4 * 65536) * 65535 := Int.mul_le_mul p4 h4.2 h4.1 (by omega)
  have q1 : K * N * P = N * (K * P) := by rw [Int.mul_comm K N, Int.mul_assoc]
  refine ⟨wrap_id (by omega) (by omega), ?_, ?_, ⟨by omega, by omega, hN.1, hN.2, Int.mul_emod_right _ _⟩, ⟨by omega, by omega, hN.1, hN.2, by rw [q1]; exact Int.mul_emod_right _ _⟩,
    Int.mul_ediv_cancel_left _ (by omega), by rw [q1]; exact Int.mul_ediv_cancel_left _ (by omega)⟩
  · rw [wrap_id (n := K * N) (by omega) (by omega), wrap_id (by omega) (by omega)]
  · rw [b4, wrap_id (n := K * P) (by omega) (by omega), wrap_id (by omega) (by omega)]

set_option maxRecDepth 100000 in
theorem walk5 (pc pt tm lt : Int) (len cap nd : Nat) (d : Nat → AV) (kd nw nn mo : Nat → Int) (h1 : 0 ≤ pc ∧ pc ≤ 65535) (h2 : 0 ≤ pt ∧ pt ≤ 255) (h3 : 0 ≤ tm ∧ tm ≤ 255) (h4 : 0 ≤ lt ∧ lt ≤ 65535) (hin : In5 d len nd kd nw nn mo) :
    Walk CL 1 (law5Pre ++ .block 0 (.loop law5Loop) :: law5Post) ⟨149, argsT [.int .u16 pc, .int .u8 pt, .sl 1 0 len cap true, .int .u8 tm, .int .u16 lt] 0 .lf, hOf [tabB, inB5 d nd], []⟩ (EndsF oqI CL.P [.tmp 10] 0 fun v L => v = .bool true ∧ L = []) := by
  refine Walk.piece (X := XN esL) (N := 149) (f := 60) (ts := ts5) fit orc5_ok (cond5_ok rfl) gs5 ?_
  refine Holds.tree (law_t0 pc pt tm lt len cap d nd _ _ _) ?_
  obtain ⟨N, P, K, hN, hP, hK, eN, eP, eK, e1, e2, e3, g1, g2, d1, d2⟩ := start5 h1 h2 h3 h4
  rw [eN, eP, eK, e1, e2, e3, d1, d2]
  have ci : ∀ (l : List Int) (m j : Nat), j < m → (listFn (ints l) j).closed = true := fun l m j _ => listFn_closed (closeds_ints l) j
  refine splitB_intro (fun _ => ⟨rfl, rfl⟩) (fun h5 => ?_)
  have h5 : (len : Int) ≤ 100 := ile_iff.1 (by simpa using h5)
  refine ⟨g1, g2, tab_closed, hin.cl, ci _ _, ci _ _, blks5 P (K * P) 0 0 (List.replicate N.toNat 0) (List.replicate N.toNat 0) N.toNat d nd, likeL_refl _, ?_⟩
  exact loop5_ok (L := lt) hin (by omega) ⟨hK, h4, hP, rfl, rfl, by omega, by simp, by simp, by omega, by omega, .inr ⟨rfl, rfl, partsL_zero _ _⟩, rfl⟩

set_option maxRecDepth 100000 in
theorem walkNil5 (pc pt tm lt : Int) (h1 : 0 ≤ pc ∧ pc ≤ 65535) (h2 : 0 ≤ pt ∧ pt ≤ 255) (h3 : 0 ≤ tm ∧ tm ≤ 255) (h4 : 0 ≤ lt ∧ lt ≤ 65535) :
    Walk CL 1 (itemsAt 5) ⟨149, argsT [.int .u16 pc, .int .u8 pt, .sl0, .int .u8 tm, .int .u16 lt] 0 .lf, hOf [tabB], []⟩ (EndsF oqI CL.P [.tmp 10] 0 fun v L => v = .bool true ∧ L = []) := by
  refine Walk.last (X := XN esL) (f := 60) fit orc5_ok (cond5_ok rfl) ?_
  refine Holds.tree (law_tn pc pt tm lt _) ?_
  obtain ⟨N, P, K, hN, hP, hK, eN, eP, eK, e1, e2, e3, g1, g2, d1, d2⟩ := start5 h1 h2 h3 h4
  rw [eN, eP, eK, e1, e2]
  exact ⟨g1, g2, rfl, rfl⟩

end Go.Abs
