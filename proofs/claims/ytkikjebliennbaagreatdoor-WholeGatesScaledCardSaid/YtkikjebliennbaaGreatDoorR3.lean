/-
  WholeGatesScaled: the row. (Helper theorems; each says its own conditions.)
-/
import Derived.Test.YtkikjebliennbaaGreatDoorG4
import Derived.Test.YtkikjebliennbaaGreatDoorCards
import Derived.Test.YtkikjebliennbaaGreatDoorTie
import Derived.WalkKit
import Derived.ProofKit
import Derived.OpenShut
import Derived.Deep.DeepHandedRow
import Derived.Lib.LaidTab
/-! WholeGatesScaled: the row. -/
namespace Go.Proofs.YtkikjebliennbaaGreatDoor.gates
open Go Go.Abs Go.ChangeShapes Go.WideShapes Go.ChangeAt Go.RowKit

theorem own : ownKnob Tryz.prog.godebug = none := by kernel_rfl
theorem laidOut : laidOutB Tryz.prog = true := by kernel_rfl
theorem gTab : Tryz.prog.globalNamed "math/bits.deBruijn32tab" = some 0 := by kernel_rfl
theorem gTabType : (Tryz.prog.globals[0]?).map (·.type) = some 482 := by kernel_rfl
theorem cellsTab : Tryz.prog.cellsOf 482 = 32 := by kernel_rfl
theorem cells5 : Tryz.prog.cellsOf 5 = 1 := by kernel_rfl
theorem cellsEl : Tryz.prog.cellsOf 28 = 3 := by kernel_rfl
theorem paramsOk : Tryz.f3.params.toList.all (fun t => Tryz.prog.readableRec t && decide (t < Tryz.prog.types.size)) = true := by kernel_rfl
theorem result : Tryz.f3.resultTypes = #[4] := by kernel_rfl
theorem oneCell : Deep.oneCellFields Tryz.prog #[{ name := "Kind", type := 5, offset := 0, embedded := false, tag := "", pkgPath := "", byteOffset := 0 }, { name := "Now", type := 3, offset := 1, embedded := false, tag := "", pkgPath := "", byteOffset := 8 }, { name := "N", type := 3, offset := 2, embedded := false, tag := "", pkgPath := "", byteOffset := 16 }] = true := by kernel_rfl
theorem body : Tryz.f3.body = some (bodyAt 3) := by kernel_rfl

/-- What the row's list gives: the table. -/
theorem table {W : World} (h : laidMetH Tryz.prog Rows.wholeGatesScaledRow.laid W) : HR (only0 0) tabH W :=
  tab_world (P := Tryz.prog) (Lib.tabIs_of_head (rest := []) gTab gTabType Tryz.underlying482 Tryz.underlying5 cells5 cellsTab h) gTab

set_option maxRecDepth 100000 in
theorem walk (W : World) (hT : HR (only0 0) tabH W) (p0 p1 p3 p4 : Int) (v : Value) (hp3 : 0 ≤ p3 ∧ p3 ≤ 255) (hp4 : 0 ≤ p4 ∧ p4 ≤ 4294967295)
    (hv : v = .slice none 0 0 ∨ ∃ b o len cap, v = .slice (some ⟨b, o, none⟩) len cap ∧ len ≤ cap ∧ b < W.heap.size ∧ (∀ i, i < cap * 3 → ∃ x, W.cell? ⟨b, o + i, none⟩ = some x) ∧
      ∀ i, i < cap → ∃ x0 x1 x2, W.cell? ⟨b, o + (i * 3 + 0), none⟩ = some (.int .u8 x0) ∧ W.cell? ⟨b, o + (i * 3 + 1), none⟩ = some (.int .i64 x1) ∧ W.cell? ⟨b, o + (i * 3 + 2), none⟩ = some (.int .i64 x2)) :
    Calls Tryz.prog 3 #[.int .i64 p0, .int .i64 p1, v, .int .u8 p3, .int .u32 p4] W fun e w' => e = .returned (.bool true) ∧ Below W.heap.size W w' := by
  obtain ⟨htab, h0⟩ := tab_br (ρ := nth [⟨0, 0, 0⟩]) hT
  rcases hv with rfl | ⟨b, o, len, cap, rfl, hle, hlt, hcells, hels⟩
  · refine AWL.law (C := CL esL) (n := 1) (args := [.int .i64 p0, .int .i64 p1, .sl0, .int .u8 p3, .int .u32 p4]) (bs := [tabB]) Tryz.func3 body (fun j B hj => ?_) (Nat.le_refl _) (show 5 + (Tryz.f3.ntmps - 5) = 146 by rw [Tryz.ntmps3]) rfl (by rw [Tryz.results3]) (walkNil3 p0 p1 p3 p4 hp3 hp4).aw (ρ := nth [⟨0, 0, 0⟩]) (globL rfl) (HR.ro (fun j B hj => ?_) rfl) ⟨_, _, rfl, rfl, _, _, rfl, rfl, _, _, rfl, rfl, _, _, rfl, rfl, _, _, rfl, rfl, rfl⟩
    · match j, hj with
      | 0, hj => injection hj with hj; subst hj; rfl
      | j + 1, hj => simp [nth] at hj
    · match j, hj with
      | 0, hj => injection hj with hj; subst hj; exact ⟨rfl, _, rfl, htab, h0⟩
      | j + 1, hj => simp [nth] at hj
  · have hin : In3 (fun i => cellV (W.cell? ⟨b, o + i, none⟩)) len (cap * 3) (fun i => intOf (cellV (W.cell? ⟨b, o + (i * 3), none⟩))) (fun i => intOf (cellV (W.cell? ⟨b, o + (i * 3 + 1), none⟩))) (fun i => intOf (cellV (W.cell? ⟨b, o + (i * 3 + 2), none⟩))) := by
      refine ⟨by omega, fun j hj => ?_, fun j _ => cellV_closed _⟩
      obtain ⟨x0, x1, x2, c0, c1, c2⟩ := hels j (by omega)
      rw [Nat.add_zero] at c0
      simp only [c0, c1, c2]
      exact ⟨rfl, rfl, rfl⟩
    refine AWL.law (C := CL esL) (n := 1) (args := [.int .i64 p0, .int .i64 p1, .sl 1 0 len cap true, .int .u8 p3, .int .u32 p4]) (bs := [tabB, inB3 (fun i => cellV (W.cell? ⟨b, o + i, none⟩)) (cap * 3)]) Tryz.func3 body (fun j B hj => ?_) (Nat.le_add_left 1 1) (show 5 + (Tryz.f3.ntmps - 5) = 146 by rw [Tryz.ntmps3]) law3_items (by rw [Tryz.results3]) (walk3 p0 p1 p3 p4 len cap (cap * 3) _ _ _ _ hp3 hp4 hin).aw
      (ρ := nth [⟨0, 0, 0⟩, ⟨b, o, 0⟩]) (globL rfl) (HR.ro (fun j B hj => ?_) rfl) ⟨_, _, rfl, rfl, _, _, rfl, rfl, _, _, rfl, ⟨⟨b, o, 0⟩, rfl, rfl⟩, _, _, rfl, rfl, _, _, rfl, rfl, rfl⟩
    · match j, hj with
      | 0, hj => injection hj with hj; subst hj; rfl
      | 1, hj => injection hj with hj; subst hj; rfl
      | j + 2, hj => simp [nth] at hj
    · match j, hj with
      | 0, hj => injection hj with hj; subst hj; exact ⟨rfl, _, rfl, (tab_br hT).1, h0⟩
      | 1, hj => injection hj with hj; subst hj; exact ⟨rfl, _, rfl, seen_br hcells, hlt⟩
      | j + 2, hj => simp [nth] at hj

set_option maxRecDepth 100000 in
theorem contract (H : Type) (enc : TypeId × Value → H) (W : World) (base : Nat) (args : Array Value) (ds gs : List (DataW H)) (before : List MemPlace)
    (hval : ∀ (j : Nat) t v, Tryz.f3.params[j]? = some t → args[j]? = some v → Value.okWide Tryz.prog W .any base t v)
    (hW : DataW.Whole enc Tryz.prog Tryz.f3.params.toList Rows.wholeGatesScaledSpec.vars false W args.toList ds gs before) (hL : laidMetH Tryz.prog Rows.wholeGatesScaledRow.laid W) :
    Calls Tryz.prog 3 args W fun e W' => ∃ v, e = .returned v ∧ Rows.wholeGatesScaledSpec.post enc Tryz.prog Tryz.f3 false true false false W args v W' := by
  have hW' := hW
  obtain ⟨p, q, hA0, hV, rfl, hfz, hnd⟩ := hW
  have hA : DataW.TrodAll enc Tryz.prog W 0 (fun _ => true) true Tryz.f3.params.toList args.toList ds p := hA0
  rw [Tryz.params3] at hA hval
  obtain ⟨v0, vs0, d0, ds0, q0, r0, hargs, rfl, rfl, h0, t0⟩ := trodAll_cons hA
  obtain ⟨v1, vs1, d1, ds1, q1, r1, rfl, rfl, rfl, h1, t1⟩ := trodAll_cons t0
  obtain ⟨v2, vs2, d2, ds2, q2, r2, rfl, rfl, rfl, h2, t2⟩ := trodAll_cons t1
  obtain ⟨v3, vs3, d3, ds3, q3, r3, rfl, rfl, rfl, h3, t3⟩ := trodAll_cons t2
  obtain ⟨v4, vs4, d4, ds4, q4, r4, rfl, rfl, rfl, h4, t4⟩ := trodAll_cons t3
  obtain ⟨rfl, rfl, rfl⟩ := trodAll_nil t4
  obtain rfl : args = #[v0, v1, v2, v3, v4] := by cases args; simp_all
  obtain ⟨p0, rfl, _, _, w0⟩ := open_int Tryz.underlying3 (hval 0 3 v0 rfl rfl) h0
  obtain ⟨p1, rfl, _, _, w1⟩ := open_int Tryz.underlying3 (hval 1 3 v1 rfl rfl) h1
  obtain ⟨p3, rfl, _, _, w3⟩ := open_int Tryz.underlying5 (hval 3 5 v3 rfl rfl) h3
  obtain ⟨p4, rfl, _, _, w4⟩ := open_int Tryz.underlying23 (hval 4 23 v4 rfl rfl) h4
  have hs := slice_in Tryz.underlying22 Tryz.underlying28 oneCell cellsEl (hval 2 22 v2 rfl rfl) h2
  have b3 : 0 ≤ p3 ∧ p3 ≤ 255 := by simpa [Lit.wf, IntKind.min, IntKind.max, IntKind.signed, IntKind.bits] using w3
  have b4 : 0 ≤ p4 ∧ p4 ≤ 4294967295 := by simpa [Lit.wf, IntKind.min, IntKind.max, IntKind.signed, IntKind.bits] using w4
  refine (walk W (table hL) p0 p1 p3 p4 v2 b3 b4 ?_).mono fun e W' ⟨he, hb⟩ => ?_
  · rcases hs with h | ⟨b, o, len, cap, rfl, hle, _, hlt, hc, hf⟩
    · exact .inl h
    · refine .inr ⟨b, o, len, cap, rfl, hle, hlt, hc, fun i hi => ?_⟩
      obtain ⟨y0, z0, m0, hx0, hy0⟩ := hf i 0 _ hi rfl
      obtain ⟨x0, rfl, _⟩ := field_int Tryz.underlying5 hy0
      obtain ⟨y1, z1, m1, hx1, hy1⟩ := hf i 1 _ hi rfl
      obtain ⟨x1, rfl, _⟩ := field_int Tryz.underlying3 hy1
      obtain ⟨y2, z2, m2, hx2, hy2⟩ := hf i 2 _ hi rfl
      obtain ⟨x2, rfl, _⟩ := field_int Tryz.underlying3 hy2
      exact ⟨x0, x1, x2, hx0, hx1, hx2⟩
  · subst he
    exact ⟨_, rfl, law_post laidOut paramsOk result Tryz.underlying4 rfl (fun h => by subst h; rfl) hW' hb⟩

/-- A world for the witness: the settled one, the table laid. -/
noncomputable def laidWorld (os : Os) : World :=
  { World.holding Tryz.prog os ⟨#[], #[], []⟩ with heap := (World.holding Tryz.prog os ⟨#[], #[], []⟩).heap.modify 0 fun
      | .cells _ t frozen => .cells (([0, 1, 28, 2, 29, 14, 24, 3, 30, 22, 20, 15, 25, 17, 4, 8, 31, 27, 13, 23, 21, 19, 16, 7, 26, 12, 18, 6, 11, 5, 10, 9].map fun n => Value.int .u8 n).toArray) t frozen
      | o => o }
def wits : Array Value := #[.int .i64 0, .int .i64 0, .slice none 0 0, .int .u8 0, .int .u32 0]
theorem laid_met (os : Os) : laidMet Tryz.prog Rows.wholeGatesScaledRow.laid ((laidWorld os).forCall (fun _ _ => 0) ⟨#[], wits, []⟩).memory :=
  laidMet_of_run' 8 (by kernel_rfl) (by kernel_rfl)
theorem reads (os : Os) {H : Type} (enc : TypeId × Value → H) : ∃ places, DataW.whole enc Tryz.prog ((laidWorld os).forCall (fun _ _ => 0) ⟨#[], wits, []⟩).memory Tryz.f3.params.toList Rows.wholeGatesScaledSpec.vars false wits.toList 8 =
    some ([.lit (.int .i64 0), .lit (.int .i64 0), .nil, .lit (.int .u8 0), .lit (.int .u32 0)], [], places) :=
  ⟨[], by kernel_rfl⟩

set_option maxRecDepth 100000 in
theorem lifted (os : Os) (started : os.Started) (H : Type) (enc : TypeId × Value → H) (F : Stop.Interp) :
    ReturnsInHanded {} Tryz.checked os 3 .any ((OpenSpec.ofChange Rows.wholeGatesScaledSpec).preRow enc Tryz.prog Tryz.f3 Rows.wholeGatesScaledRow.domain false Rows.wholeGatesScaledRow.laid) (((OpenSpec.ofChange Rows.wholeGatesScaledSpec).at F).post enc Tryz.prog Tryz.f3 false true false false) := by
  obtain ⟨places, hx⟩ := reads os enc
  refine returnsInHanded_of_row (C := Tryz.checked) (s := OpenSpec.ofChange Rows.wholeGatesScaledSpec) own started (by kernel_rfl) Tryz.func3
    (witness_row_at (enc := enc) (C := Tryz.checked) false (laidWorld os) wits rfl (by kernel_rfl) (by kernel_rfl) (by kernel_rfl)
      (OpenSpec.preRow_of_cond 8 hx (by kernel_rfl) (fun k hk => by cases hk) (by kernel_rfl) (laid_met os))) ?_
  intro W base args ds gs before hval hW _ _ _ hL _ _
  exact contract H enc W base args ds gs before hval hW hL

end Go.Proofs.YtkikjebliennbaaGreatDoor.gates
