/-
  WholeBurstsScaled: the row and the card. (Helper theorems; each says its own conditions.)
-/
import Derived.Test.YtghcfkgfccmaoaaGreatDoorL1d
import Derived.Test.YtghcfkgfccmaoaaGreatDoorL1n
import Derived.Test.YtghcfkgfccmaoaaGreatDoorAbs26
import Derived.Test.YtghcfkgfccmaoaaGreatDoorCards
import Derived.Test.YtghcfkgfccmaoaaGreatDoorTie
import Derived.WalkKit
import Derived.ProofKit
import Derived.OpenShut
import Derived.Deep.DeepHandedRow
import Derived.Lib.LaidTab
/-! WholeBurstsScaled: the row and the card. -/
namespace Go.Abs
open Go Go.Proofs

set_option maxRecDepth 100000 in
theorem walkNil1 (q m t l : Int) (ht : 0 ≤ t ∧ t ≤ 255) :
    AWL Cl 1 items1 ⟨200, argsT [.int .i64 q, .int .i64 m, .sl0, .int .u8 t, .int .u32 l] 0 .lf, hOf [tabB], []⟩ (EndsF noOpq Cl.P rs1 0 fun v L => v = .bool true ∧ L = []) := by
  refine AWL.last (X := XC) (f := 60) fit orc1_ok (cond1_ok rfl) ?_
  rw [show Cl.P = Tryz.prog from rfl, nil_tree]
  have hk1 : t.tmod 4 = t % 4 := Int.tmod_eq_emod_of_nonneg ht.1
  have hk : IntKind.i64.wrap (1 + IntKind.i64.wrap (t.tmod 4)) = 1 + t % 4 := by
    have e : IntKind.i64.wrap (t % 4) = t % 4 := wrap_id (by omega) (by omega)
    rw [hk1, e, wrap_id (by omega) (by omega)]
  have k4 := four (k := 1 + t % 4) ⟨by omega, by omega⟩
  generalize 1 + t % 4 = k at *
  rw [hk]
  have good : ∀ (h1 : 1 ≤ q) (h2 : q ≤ 274877906944) (h3 : m = 0 ∨ q ≤ m ∧ m ≤ 281474976710656),
      bGood q m ∧ bGood (IntKind.i64.wrap (k * q)) (IntKind.i64.wrap (k * m)) ∧ AV.bool true = AV.bool true ∧ ([] : List ABlk) = [] := by
    intro h1 h2 h3
    have e1 : IntKind.i64.wrap (k * q) = k * q := by rcases k4 with rfl | rfl | rfl | rfl <;> exact wrap_id (by omega) (by omega)
    have e2 : IntKind.i64.wrap (k * m) = k * m := by rcases k4 with rfl | rfl | rfl | rfl <;> exact wrap_id (by omega) (by omega)
    rw [e1, e2]
    refine ⟨⟨h1, by omega, by omega⟩, ?_, rfl, rfl⟩
    rcases k4 with rfl | rfl | rfl | rfl <;> exact ⟨by omega, by omega, by omega⟩
  refine splitB_intro (fun _ => ⟨rfl, rfl⟩) (fun h1 => splitB_intro (fun _ => ⟨rfl, rfl⟩) (fun h2 => ?_))
  have h1 : 1 ≤ q := ile_iff.1 (by simpa using h1)
  have h2 : q ≤ 274877906944 := ile_iff.1 (by simpa using h2)
  refine splitB_intro (fun h3 => splitB_intro (fun _ => ⟨rfl, rfl⟩) (fun h4 => splitB_intro (fun _ => ⟨rfl, rfl⟩) (fun h5 => ?_))) (fun h3 => ?_)
  · have h4 : q ≤ m := ile_iff.1 (by simpa using h4)
    have h5 : m ≤ 281474976710656 := ile_iff.1 (by simpa using h5)
    exact good h1 h2 (.inr ⟨h4, h5⟩)
  · have h3 : m = 0 := ieq_iff (by simpa using h3)
    exact good h1 h2 (.inl h3)

theorem body1 : Tryz.f3.body = some (bodyOf Tryz.prog 3) := by kernel_rfl

theorem glob1 {gs : List Pl} (h : nth gs 0 = some ⟨0, 0, 0⟩) : GlobR Cl.gs (nth gs) := by
  intro g b hb
  obtain ⟨rfl, rfl⟩ := gsOf_eq (G := 0) hb
  exact h
end Go.Abs

namespace Go.Proofs.YtghcfkgfccmaoaaGreatDoor.bursts
open Go Go.Abs Go.ChangeShapes Go.WideShapes Go.ChangeAt Go.RowKit

theorem own : ownKnob Tryz.prog.godebug = none := by kernel_rfl
theorem laidOut : laidOutB Tryz.prog = true := by kernel_rfl
theorem gTab : Tryz.prog.globalNamed "math/bits.deBruijn32tab" = some 0 := by kernel_rfl
theorem gTabType : (Tryz.prog.globals[0]?).map (·.type) = some 460 := by kernel_rfl
theorem cellsTab : Tryz.prog.cellsOf 460 = 32 := by kernel_rfl
theorem cells5 : Tryz.prog.cellsOf 5 = 1 := by kernel_rfl
theorem cells28 : Tryz.prog.cellsOf 28 = 2 := by kernel_rfl
theorem paramsOk : Tryz.f3.params.toList.all (fun t => Tryz.prog.readableRec t && decide (t < Tryz.prog.types.size)) = true := by kernel_rfl
theorem result : Tryz.f3.resultTypes = #[4] := by kernel_rfl
theorem oneCell : Deep.oneCellFields Tryz.prog #[{ name := "Kind", type := 5, offset := 0, embedded := false, tag := "", pkgPath := "", byteOffset := 0 }, { name := "Now", type := 3, offset := 1, embedded := false, tag := "", pkgPath := "", byteOffset := 8 }] = true := by kernel_rfl

/-- What the row's list gives: the table. -/
theorem table {W : World} (h : laidMetH Tryz.prog Rows.wholeBurstsScaledRow.laid W) : HR (only0 0) tabH W :=
  tab_world (P := Tryz.prog) (Lib.tabIs_of_head (rest := []) gTab gTabType Tryz.underlying460 Tryz.underlying5 cells5 cellsTab h) gTab

set_option maxRecDepth 100000 in
theorem walk (W : World) (hT : HR (only0 0) tabH W) (q m t l : Int) (v : Value) (ht : 0 ≤ t ∧ t ≤ 255) (hl : 0 ≤ l ∧ l ≤ 4294967295)
    (hv : v = .slice none 0 0 ∨ ∃ b o len cap, v = .slice (some ⟨b, o, none⟩) len cap ∧ len ≤ cap ∧ b < W.heap.size ∧ (∀ i, i < cap * 2 → ∃ x, W.cell? ⟨b, o + i, none⟩ = some x) ∧
      ∀ i, i < cap → ∃ kd nw, W.cell? ⟨b, o + (i * 2 + 0), none⟩ = some (.int .u8 kd) ∧ W.cell? ⟨b, o + (i * 2 + 1), none⟩ = some (.int .i64 nw)) :
    Calls Tryz.prog 3 #[.int .i64 q, .int .i64 m, v, .int .u8 t, .int .u32 l] W fun e w' => e = .returned (.bool true) ∧ Below W.heap.size W w' := by
  obtain ⟨htab, h0⟩ := tab_br (ρ := nth [⟨0, 0, 0⟩]) hT
  rcases hv with rfl | ⟨b, o, len, cap, rfl, hle, hlt, hcells, hels⟩
  · refine AWL.law (C := Cl) (n := 1) (args := [.int .i64 q, .int .i64 m, .sl0, .int .u8 t, .int .u32 l]) (bs := [tabB]) Tryz.func3 body1 (fun j B hj => ?_) (Nat.le_refl _) (by rw [Tryz.ntmps3]; rfl) rfl (by rw [Tryz.results3]; rfl) (walkNil1 q m t l ht) (ρ := nth [⟨0, 0, 0⟩]) (glob1 rfl) (HR.ro (fun j B hj => ?_) rfl) ⟨_, _, rfl, rfl, _, _, rfl, rfl, _, _, rfl, rfl, _, _, rfl, rfl, _, _, rfl, rfl, rfl⟩
    · match j, hj with
      | 0, hj => injection hj with hj; subst hj; rfl
      | j + 1, hj => simp [nth] at hj
    · match j, hj with
      | 0, hj => injection hj with hj; subst hj; exact ⟨rfl, _, rfl, htab, h0⟩
      | j + 1, hj => simp [nth] at hj
  · have hin : In1 (fun i => cellV (W.cell? ⟨b, o + i, none⟩)) len (cap * 2) (fun i => match cellV (W.cell? ⟨b, o + (i * 2), none⟩) with | .int _ n => n | _ => 0) (fun i => match cellV (W.cell? ⟨b, o + (i * 2 + 1), none⟩) with | .int _ n => n | _ => 0) := by
      refine ⟨by omega, fun j hj => ?_, fun j _ => cellV_closed _⟩
      obtain ⟨kd, nw, h1, h2⟩ := hels j (by omega)
      rw [Nat.add_zero] at h1
      simp only [h1, h2]
      exact ⟨rfl, rfl⟩
    refine AWL.law (C := Cl) (n := 1) (args := [.int .i64 q, .int .i64 m, .sl 1 0 len cap true, .int .u8 t, .int .u32 l]) (bs := [tabB, inB1 (fun i => cellV (W.cell? ⟨b, o + i, none⟩)) (cap * 2)]) Tryz.func3 body1 (fun j B hj => ?_) (Nat.le_add_left 1 1) (by rw [Tryz.ntmps3]; rfl) rfl (by rw [Tryz.results3]; rfl) (walk1 q m t l len cap (cap * 2) _ _ _ ht hl hin)
      (ρ := nth [⟨0, 0, 0⟩, ⟨b, o, 0⟩]) (glob1 rfl) (HR.ro (fun j B hj => ?_) rfl) ⟨_, _, rfl, rfl, _, _, rfl, rfl, _, _, rfl, ⟨⟨b, o, 0⟩, rfl, rfl⟩, _, _, rfl, rfl, _, _, rfl, rfl, rfl⟩
    · match j, hj with
      | 0, hj => injection hj with hj; subst hj; rfl
      | 1, hj => injection hj with hj; subst hj; rfl
      | j + 2, hj => simp [nth] at hj
    · match j, hj with
      | 0, hj => injection hj with hj; subst hj; exact ⟨rfl, _, rfl, (tab_br hT).1, h0⟩
      | 1, hj => injection hj with hj; subst hj; exact ⟨rfl, _, rfl, seen_br hcells, hlt⟩
      | j + 2, hj => simp [nth] at hj

set_option maxRecDepth 100000 in
theorem contract (H : Type) (enc : TypeId × Value → H) (W : World) (base : Nat) (args : Array Value) (ds gs : List (DataW H)) (before : List MemPlace)
    (hval : ∀ (j : Nat) t v, Tryz.f3.params[j]? = some t → args[j]? = some v → Value.okWide Tryz.prog W .any base t v)
    (hW : DataW.Whole enc Tryz.prog Tryz.f3.params.toList Rows.wholeBurstsScaledSpec.vars false W args.toList ds gs before) (hL : laidMetH Tryz.prog Rows.wholeBurstsScaledRow.laid W) :
    Calls Tryz.prog 3 args W fun e W' => ∃ v, e = .returned v ∧ Rows.wholeBurstsScaledSpec.post enc Tryz.prog Tryz.f3 false true false false W args v W' := by
  have hW' := hW
  obtain ⟨p, q, hA0, hV, rfl, hfz, hnd⟩ := hW
  have hA : DataW.TrodAll enc Tryz.prog W 0 (fun _ => true) true Tryz.f3.params.toList args.toList ds p := hA0
  rw [Tryz.params3] at hA hval
  obtain ⟨v0, vs0, d0, ds0, p0, q0, hargs, rfl, rfl, h0, r0⟩ := trodAll_cons hA
  obtain ⟨v1, vs1, d1, ds1, p1, q1, rfl, rfl, rfl, h1, r1⟩ := trodAll_cons r0
  obtain ⟨v2, vs2, d2, ds2, p2, q2, rfl, rfl, rfl, h2, r2⟩ := trodAll_cons r1
  obtain ⟨v3, vs3, d3, ds3, p3, q3, rfl, rfl, rfl, h3, r3⟩ := trodAll_cons r2
  obtain ⟨v4, vs4, d4, ds4, p4, q4, rfl, rfl, rfl, h4, r4⟩ := trodAll_cons r3
  obtain ⟨rfl, rfl, rfl⟩ := trodAll_nil r4
  obtain rfl : args = #[v0, v1, v2, v3, v4] := by cases args; simp_all
  obtain ⟨quiet, rfl, _, _, _⟩ := open_int Tryz.underlying3 (hval 0 3 v0 rfl rfl) h0
  obtain ⟨most, rfl, _, _, _⟩ := open_int Tryz.underlying3 (hval 1 3 v1 rfl rfl) h1
  obtain ⟨times, rfl, _, _, w3⟩ := open_int Tryz.underlying5 (hval 3 5 v3 rfl rfl) h3
  obtain ⟨later, rfl, _, _, w4⟩ := open_int Tryz.underlying23 (hval 4 23 v4 rfl rfl) h4
  have hs := slice_in Tryz.underlying22 Tryz.underlying28 oneCell cells28 (hval 2 22 v2 rfl rfl) h2
  have b3 : 0 ≤ times ∧ times ≤ 255 := by simpa [Lit.wf, IntKind.min, IntKind.max, IntKind.signed, IntKind.bits] using w3
  have b4 : 0 ≤ later ∧ later ≤ 4294967295 := by simpa [Lit.wf, IntKind.min, IntKind.max, IntKind.signed, IntKind.bits] using w4
  refine (walk W (table hL) quiet most times later v2 b3 b4 ?_).mono fun e W' ⟨he, hb⟩ => ?_
  · rcases hs with h | ⟨b, o, len, cap, rfl, hle, _, hlt, hc, hf⟩
    · exact .inl h
    · refine .inr ⟨b, o, len, cap, rfl, hle, hlt, hc, fun i hi => ?_⟩
      obtain ⟨x, y, n, hx, hy⟩ := hf i 0 _ hi rfl
      obtain ⟨kd, rfl, _⟩ := field_int Tryz.underlying5 hy
      obtain ⟨x', y', n', hx', hy'⟩ := hf i 1 _ hi rfl
      obtain ⟨nw, rfl, _⟩ := field_int Tryz.underlying3 hy'
      exact ⟨kd, nw, hx, hx'⟩
  · subst he
    exact ⟨_, rfl, law_post laidOut paramsOk result Tryz.underlying4 rfl (fun h => by subst h; rfl) hW' hb⟩

/-- A world for the witness: the settled one, the table laid. -/
noncomputable def laidWorld (os : Os) : World :=
  { World.holding Tryz.prog os ⟨#[], #[], []⟩ with heap := (World.holding Tryz.prog os ⟨#[], #[], []⟩).heap.modify 0 fun
      | .cells _ t frozen => .cells (([0, 1, 28, 2, 29, 14, 24, 3, 30, 22, 20, 15, 25, 17, 4, 8, 31, 27, 13, 23, 21, 19, 16, 7, 26, 12, 18, 6, 11, 5, 10, 9].map fun n => Value.int .u8 n).toArray) t frozen
      | o => o }
def wits : Array Value := #[.int .i64 0, .int .i64 0, .slice none 0 0, .int .u8 0, .int .u32 0]
theorem laid_met (os : Os) : laidMet Tryz.prog Rows.wholeBurstsScaledRow.laid ((laidWorld os).forCall (fun _ _ => 0) ⟨#[], wits, []⟩).memory :=
  laidMet_of_run' 8 (by kernel_rfl) (by kernel_rfl)
theorem reads (os : Os) {H : Type} (enc : TypeId × Value → H) : ∃ places, DataW.whole enc Tryz.prog ((laidWorld os).forCall (fun _ _ => 0) ⟨#[], wits, []⟩).memory Tryz.f3.params.toList Rows.wholeBurstsScaledSpec.vars false wits.toList 8 =
    some ([.lit (.int .i64 0), .lit (.int .i64 0), .nil, .lit (.int .u8 0), .lit (.int .u32 0)], [], places) :=
  ⟨[], by kernel_rfl⟩

set_option maxRecDepth 100000 in
theorem lifted (os : Os) (started : os.Started) (H : Type) (enc : TypeId × Value → H) (F : Stop.Interp) :
    ReturnsInHanded {} Tryz.checked os 3 .any ((OpenSpec.ofChange Rows.wholeBurstsScaledSpec).preRow enc Tryz.prog Tryz.f3 Rows.wholeBurstsScaledRow.domain false Rows.wholeBurstsScaledRow.laid) (((OpenSpec.ofChange Rows.wholeBurstsScaledSpec).at F).post enc Tryz.prog Tryz.f3 false true false false) := by
  obtain ⟨places, hx⟩ := reads os enc
  refine returnsInHanded_of_row (C := Tryz.checked) (s := OpenSpec.ofChange Rows.wholeBurstsScaledSpec) own started (by kernel_rfl) Tryz.func3
    (witness_row_at (enc := enc) (C := Tryz.checked) false (laidWorld os) wits rfl (by kernel_rfl) (by kernel_rfl) (by kernel_rfl)
      (OpenSpec.preRow_of_cond 8 hx (by kernel_rfl) (fun k hk => by cases hk) (by kernel_rfl) (laid_met os))) ?_
  intro W base args ds gs before hval hW _ _ _ hL _ _
  exact contract H enc W base args ds gs before hval hW hL


end Go.Proofs.YtghcfkgfccmaoaaGreatDoor.bursts
