/-
  WholePiecesScaled: the row. (Helper theorems; each says its own conditions.)
-/
import Derived.Test.YtghcfkgfccmaoaaGreatDoorV11
import Derived.Test.YtghcfkgfccmaoaaGreatDoorCards
import Derived.Test.YtghcfkgfccmaoaaGreatDoorTie
import Derived.WalkKit
import Derived.ProofKit
import Derived.OpenShut
import Derived.Deep.DeepHandedRow
import Derived.Lib.LaidTab
/-! WholePiecesScaled: the row. -/
namespace Go.Abs
open Go Go.Proofs
theorem body5 : Tryz.f5.body = some (bodyAt 5) := by kernel_rfl
theorem glob5 {gs : List Pl} (h : nth gs 0 = some ⟨0, 0, 0⟩) : GlobR CL.gs (nth gs) := by
  intro g b hb
  obtain ⟨rfl, rfl⟩ := gsOf_eq (G := 0) hb
  exact h
end Go.Abs

namespace Go.Proofs.YtghcfkgfccmaoaaGreatDoor.pieces
open Go Go.Abs Go.ChangeShapes Go.WideShapes Go.ChangeAt Go.RowKit

theorem own : ownKnob Tryz.prog.godebug = none := by kernel_rfl
theorem laidOut : laidOutB Tryz.prog = true := by kernel_rfl
theorem gTab : Tryz.prog.globalNamed "math/bits.deBruijn32tab" = some 0 := by kernel_rfl
theorem gTabType : (Tryz.prog.globals[0]?).map (·.type) = some 460 := by kernel_rfl
theorem cellsTab : Tryz.prog.cellsOf 460 = 32 := by kernel_rfl
theorem cells5 : Tryz.prog.cellsOf 5 = 1 := by kernel_rfl
theorem cells66 : Tryz.prog.cellsOf 66 = 4 := by kernel_rfl
theorem paramsOk : Tryz.f5.params.toList.all (fun t => Tryz.prog.readableRec t && decide (t < Tryz.prog.types.size)) = true := by kernel_rfl
theorem result : Tryz.f5.resultTypes = #[4] := by kernel_rfl
theorem oneCell : Deep.oneCellFields Tryz.prog #[{ name := "Kind", type := 5, offset := 0, embedded := false, tag := "", pkgPath := "", byteOffset := 0 }, { name := "Now", type := 3, offset := 1, embedded := false, tag := "", pkgPath := "", byteOffset := 8 }, { name := "N", type := 3, offset := 2, embedded := false, tag := "", pkgPath := "", byteOffset := 16 }, { name := "Most", type := 3, offset := 3, embedded := false, tag := "", pkgPath := "", byteOffset := 24 }] = true := by kernel_rfl

/-- What the row's list gives: the table. -/
theorem table {W : World} (h : laidMetH Tryz.prog Rows.wholePiecesScaledRow.laid W) : HR (only0 0) tabH W :=
  tab_world (P := Tryz.prog) (Lib.tabIs_of_head (rest := []) gTab gTabType Tryz.underlying460 Tryz.underlying5 cells5 cellsTab h) gTab

set_option maxRecDepth 100000 in
theorem walk (W : World) (hT : HR (only0 0) tabH W) (pc pt tm lt : Int) (v : Value) (h1 : 0 ≤ pc ∧ pc ≤ 65535) (h2 : 0 ≤ pt ∧ pt ≤ 255) (h3 : 0 ≤ tm ∧ tm ≤ 255) (h4 : 0 ≤ lt ∧ lt ≤ 65535)
    (hv : v = .slice none 0 0 ∨ ∃ b o len cap, v = .slice (some ⟨b, o, none⟩) len cap ∧ len ≤ cap ∧ b < W.heap.size ∧ (∀ i, i < cap * 4 → ∃ x, W.cell? ⟨b, o + i, none⟩ = some x) ∧
      ∀ i, i < cap → ∃ kd nw nn mo, W.cell? ⟨b, o + (i * 4 + 0), none⟩ = some (.int .u8 kd) ∧ W.cell? ⟨b, o + (i * 4 + 1), none⟩ = some (.int .i64 nw) ∧ W.cell? ⟨b, o + (i * 4 + 2), none⟩ = some (.int .i64 nn) ∧ W.cell? ⟨b, o + (i * 4 + 3), none⟩ = some (.int .i64 mo)) :
    Calls Tryz.prog 5 #[.int .u16 pc, .int .u8 pt, v, .int .u8 tm, .int .u16 lt] W fun e w' => e = .returned (.bool true) ∧ Below W.heap.size W w' := by
  obtain ⟨htab, h0⟩ := tab_br (ρ := nth [⟨0, 0, 0⟩]) hT
  rcases hv with rfl | ⟨b, o, len, cap, rfl, hle, hlt, hcells, hels⟩
  · refine AWL.law (C := CL) (n := 1) (args := [.int .u16 pc, .int .u8 pt, .sl0, .int .u8 tm, .int .u16 lt]) (bs := [tabB]) Tryz.func5 body5 (fun j B hj => ?_) (Nat.le_refl _) (show 5 + (Tryz.f5.ntmps - 5) = 149 by rw [Tryz.ntmps5]) rfl (by rw [Tryz.results5]) (walkNil5 pc pt tm lt h1 h2 h3 h4).aw (ρ := nth [⟨0, 0, 0⟩]) (glob5 rfl) (HR.ro (fun j B hj => ?_) rfl) ⟨_, _, rfl, rfl, _, _, rfl, rfl, _, _, rfl, rfl, _, _, rfl, rfl, _, _, rfl, rfl, rfl⟩
    · match j, hj with
      | 0, hj => injection hj with hj; subst hj; rfl
      | j + 1, hj => simp [nth] at hj
    · match j, hj with
      | 0, hj => injection hj with hj; subst hj; exact ⟨rfl, _, rfl, htab, h0⟩
      | j + 1, hj => simp [nth] at hj
  · have hin : In5 (fun i => cellV (W.cell? ⟨b, o + i, none⟩)) len (cap * 4) (fun i => intOf (cellV (W.cell? ⟨b, o + (i * 4), none⟩))) (fun i => intOf (cellV (W.cell? ⟨b, o + (i * 4 + 1), none⟩)))
        (fun i => intOf (cellV (W.cell? ⟨b, o + (i * 4 + 2), none⟩))) (fun i => intOf (cellV (W.cell? ⟨b, o + (i * 4 + 3), none⟩))) := by
      refine ⟨by omega, fun j hj => ?_, fun j _ => cellV_closed _⟩
      obtain ⟨kd, nw, nn, mo, h1, h2, h3, h4⟩ := hels j (by omega)
      rw [Nat.add_zero] at h1
      simp only [h1, h2, h3, h4]
      exact ⟨rfl, rfl, rfl, rfl⟩
    refine AWL.law (C := CL) (n := 1) (args := [.int .u16 pc, .int .u8 pt, .sl 1 0 len cap true, .int .u8 tm, .int .u16 lt]) (bs := [tabB, inB5 (fun i => cellV (W.cell? ⟨b, o + i, none⟩)) (cap * 4)]) Tryz.func5 body5 (fun j B hj => ?_) (Nat.le_add_left 1 1) (show 5 + (Tryz.f5.ntmps - 5) = 149 by rw [Tryz.ntmps5]) law5_items (by rw [Tryz.results5]) (walk5 pc pt tm lt len cap (cap * 4) _ _ _ _ _ h1 h2 h3 h4 hin).aw
      (ρ := nth [⟨0, 0, 0⟩, ⟨b, o, 0⟩]) (glob5 rfl) (HR.ro (fun j B hj => ?_) rfl) ⟨_, _, rfl, rfl, _, _, rfl, rfl, _, _, rfl, ⟨⟨b, o, 0⟩, rfl, rfl⟩, _, _, rfl, rfl, _, _, rfl, rfl, rfl⟩
    · match j, hj with
      | 0, hj => injection hj with hj; subst hj; rfl
      | 1, hj => injection hj with hj; subst hj; rfl
      | j + 2, hj => simp [nth] at hj
    · match j, hj with
      | 0, hj => injection hj with hj; subst hj; exact ⟨rfl, _, rfl, (tab_br hT).1, h0⟩
      | 1, hj => injection hj with hj; subst hj; exact ⟨rfl, _, rfl, seen_br hcells, hlt⟩
      | j + 2, hj => simp [nth] at hj

set_option maxRecDepth 100000 in
theorem contract (H : Type) (enc : TypeId × Value → H) (W : World) (base : Nat) (args : Array Value) (ds gs : List (DataW H)) (before : List MemPlace)
    (hval : ∀ (j : Nat) t v, Tryz.f5.params[j]? = some t → args[j]? = some v → Value.okWide Tryz.prog W .any base t v)
    (hW : DataW.Whole enc Tryz.prog Tryz.f5.params.toList Rows.wholePiecesScaledSpec.vars false W args.toList ds gs before) (hL : laidMetH Tryz.prog Rows.wholePiecesScaledRow.laid W) :
    Calls Tryz.prog 5 args W fun e W' => ∃ v, e = .returned v ∧ Rows.wholePiecesScaledSpec.post enc Tryz.prog Tryz.f5 false true false false W args v W' := by
  have hW' := hW
  obtain ⟨p, q, hA0, hV, rfl, hfz, hnd⟩ := hW
  have hA : DataW.TrodAll enc Tryz.prog W 0 (fun _ => true) true Tryz.f5.params.toList args.toList ds p := hA0
  rw [Tryz.params5] at hA hval
  obtain ⟨v0, vs0, d0, ds0, p0, q0, hargs, rfl, rfl, h0, r0⟩ := trodAll_cons hA
  obtain ⟨v1, vs1, d1, ds1, p1, q1, rfl, rfl, rfl, h1, r1⟩ := trodAll_cons r0
  obtain ⟨v2, vs2, d2, ds2, p2, q2, rfl, rfl, rfl, h2, r2⟩ := trodAll_cons r1
  obtain ⟨v3, vs3, d3, ds3, p3, q3, rfl, rfl, rfl, h3, r3⟩ := trodAll_cons r2
  obtain ⟨v4, vs4, d4, ds4, p4, q4, rfl, rfl, rfl, h4, r4⟩ := trodAll_cons r3
  obtain ⟨rfl, rfl, rfl⟩ := trodAll_nil r4
  obtain rfl : args = #[v0, v1, v2, v3, v4] := by cases args; simp_all
  obtain ⟨pc, rfl, _, _, w0⟩ := open_int Tryz.underlying39 (hval 0 39 v0 rfl rfl) h0
  obtain ⟨pt, rfl, _, _, w1⟩ := open_int Tryz.underlying5 (hval 1 5 v1 rfl rfl) h1
  obtain ⟨tm, rfl, _, _, w3⟩ := open_int Tryz.underlying5 (hval 3 5 v3 rfl rfl) h3
  obtain ⟨lt, rfl, _, _, w4⟩ := open_int Tryz.underlying39 (hval 4 39 v4 rfl rfl) h4
  have hs := slice_in Tryz.underlying62 Tryz.underlying66 oneCell cells66 (hval 2 62 v2 rfl rfl) h2
  have b0 : 0 ≤ pc ∧ pc ≤ 65535 := by simpa [Lit.wf, IntKind.min, IntKind.max, IntKind.signed, IntKind.bits] using w0
  have b1 : 0 ≤ pt ∧ pt ≤ 255 := by simpa [Lit.wf, IntKind.min, IntKind.max, IntKind.signed, IntKind.bits] using w1
  have b3 : 0 ≤ tm ∧ tm ≤ 255 := by simpa [Lit.wf, IntKind.min, IntKind.max, IntKind.signed, IntKind.bits] using w3
  have b4 : 0 ≤ lt ∧ lt ≤ 65535 := by simpa [Lit.wf, IntKind.min, IntKind.max, IntKind.signed, IntKind.bits] using w4
  refine (walk W (table hL) pc pt tm lt v2 b0 b1 b3 b4 ?_).mono fun e W' ⟨he, hb⟩ => ?_
  · rcases hs with h | ⟨b, o, len, cap, rfl, hle, _, hlt, hc, hf⟩
    · exact .inl h
    · refine .inr ⟨b, o, len, cap, rfl, hle, hlt, hc, fun i hi => ?_⟩
      obtain ⟨x, y, n, hx, hy⟩ := hf i 0 _ hi rfl
      obtain ⟨kd, rfl, _⟩ := field_int Tryz.underlying5 hy
      obtain ⟨x1, y1, n1, hx1, hy1⟩ := hf i 1 _ hi rfl
      obtain ⟨nw, rfl, _⟩ := field_int Tryz.underlying3 hy1
      obtain ⟨x2, y2, n2, hx2, hy2⟩ := hf i 2 _ hi rfl
      obtain ⟨nn, rfl, _⟩ := field_int Tryz.underlying3 hy2
      obtain ⟨x3, y3, n3, hx3, hy3⟩ := hf i 3 _ hi rfl
      obtain ⟨mo, rfl, _⟩ := field_int Tryz.underlying3 hy3
      exact ⟨kd, nw, nn, mo, hx, hx1, hx2, hx3⟩
  · subst he
    exact ⟨_, rfl, law_post laidOut paramsOk result Tryz.underlying4 rfl (fun h => by subst h; rfl) hW' hb⟩

/-- A world for the witness: the settled one, the table laid. -/
noncomputable def laidWorld (os : Os) : World :=
  { World.holding Tryz.prog os ⟨#[], #[], []⟩ with heap := (World.holding Tryz.prog os ⟨#[], #[], []⟩).heap.modify 0 fun
      | .cells _ t frozen => .cells (([0, 1, 28, 2, 29, 14, 24, 3, 30, 22, 20, 15, 25, 17, 4, 8, 31, 27, 13, 23, 21, 19, 16, 7, 26, 12, 18, 6, 11, 5, 10, 9].map fun n => Value.int .u8 n).toArray) t frozen
      | o => o }
def wits : Array Value := #[.int .u16 0, .int .u8 0, .slice none 0 0, .int .u8 0, .int .u16 0]
theorem laid_met (os : Os) : laidMet Tryz.prog Rows.wholePiecesScaledRow.laid ((laidWorld os).forCall (fun _ _ => 0) ⟨#[], wits, []⟩).memory :=
  laidMet_of_run' 8 (by kernel_rfl) (by kernel_rfl)
theorem reads (os : Os) {H : Type} (enc : TypeId × Value → H) : ∃ places, DataW.whole enc Tryz.prog ((laidWorld os).forCall (fun _ _ => 0) ⟨#[], wits, []⟩).memory Tryz.f5.params.toList Rows.wholePiecesScaledSpec.vars false wits.toList 8 =
    some ([.lit (.int .u16 0), .lit (.int .u8 0), .nil, .lit (.int .u8 0), .lit (.int .u16 0)], [], places) :=
  ⟨[], by kernel_rfl⟩

set_option maxRecDepth 100000 in
theorem lifted (os : Os) (started : os.Started) (H : Type) (enc : TypeId × Value → H) (F : Stop.Interp) :
    ReturnsInHanded {} Tryz.checked os 5 .any ((OpenSpec.ofChange Rows.wholePiecesScaledSpec).preRow enc Tryz.prog Tryz.f5 Rows.wholePiecesScaledRow.domain false Rows.wholePiecesScaledRow.laid) (((OpenSpec.ofChange Rows.wholePiecesScaledSpec).at F).post enc Tryz.prog Tryz.f5 false true false false) := by
  obtain ⟨places, hx⟩ := reads os enc
  refine returnsInHanded_of_row (C := Tryz.checked) (s := OpenSpec.ofChange Rows.wholePiecesScaledSpec) own started (by kernel_rfl) Tryz.func5
    (witness_row_at (enc := enc) (C := Tryz.checked) false (laidWorld os) wits rfl (by kernel_rfl) (by kernel_rfl) (by kernel_rfl)
      (OpenSpec.preRow_of_cond 8 hx (by kernel_rfl) (fun k hk => by cases hk) (by kernel_rfl) (laid_met os))) ?_
  intro W base args ds gs before hval hW _ _ _ hL _ _
  exact contract H enc W base args ds gs before hval hW hL


end Go.Proofs.YtghcfkgfccmaoaaGreatDoor.pieces
