/-
  The closed facts of a row (printed by program). (Helper theorems; each says its own conditions.)
-/
import Derived.Test.YtghcfkgfccmaoaaGreatDoorRows
import Derived.JoinedOf
import Derived.KernelRfl
/-! The closed facts of a row (printed by program). -/
namespace Go.Proofs.YtghcfkgfccmaoaaGreatDoor.bursts
open Go
theorem fact0 : (Rows.wholeBurstsScaledRow.wf (OpenSpec.ofChange Rows.wholeBurstsScaledSpec)) = true := by kernel_rfl
theorem fact1 : (laidOutB Tryz.prog) = true := by kernel_rfl
theorem fact2 : (mapsRowed Tryz.prog) = true := by kernel_rfl
theorem fact3 : (Tryz.f3.params.all (Tryz.prog.readableRec ·)) = true := by kernel_rfl
theorem fact4 : (namedTie Tryz.prog Rows.wholeBurstsScaledRow.named Rows.wholeBurstsScaledSpec.vars) = true := by kernel_rfl
theorem fact5 : ((Rows.wholeBurstsScaledRow.stops == [])) = true := by kernel_rfl
theorem fact6 : ((Tryz.prog.stops == [])) = true := by kernel_rfl
theorem fact7 : ((Rows.wholeBurstsScaledRow.knobs == [])) = true := by kernel_rfl
theorem fact8 : ((Tryz.prog.stopKnobs == [])) = true := by kernel_rfl
theorem fact9 : ((Rows.wholeBurstsScaledRow.inPlace == Tryz.prog.inPlace 3)) = true := by kernel_rfl
theorem fact10 : ((Rows.wholeBurstsScaledRow.unfollowed == Tryz.prog.unfollowed 3)) = true := by kernel_rfl
theorem fact11 : ((Rows.wholeBurstsScaledRow.recurses == Tryz.prog.recurses 3)) = true := by kernel_rfl
theorem fact12 : ((Rows.wholeBurstsScaledRow.named == Tryz.prog.varsNamed 3)) = true := by kernel_rfl
theorem fact13 : ((Rows.wholeBurstsScaledRow.maps == (Tryz.f3.params.toList ++ Rows.wholeBurstsScaledSpec.plain.varTypes Tryz.prog).any (Tryz.prog.mapsRec ·))) = true := by kernel_rfl
theorem fact14 : ((Rows.wholeBurstsScaledRow.ifaces == (Tryz.f3.params.toList ++ Rows.wholeBurstsScaledSpec.plain.varTypes Tryz.prog).any (Tryz.prog.ifacesRec ·))) = true := by kernel_rfl
theorem fact15 : ((Rows.wholeBurstsScaledRow.mapsOut == Tryz.prog.mapsAmong Tryz.f3.resultTypes.toList)) = true := by kernel_rfl
theorem fact16 : ((Rows.wholeBurstsScaledRow.loops == (Tryz.f3.params.toList ++ Rows.wholeBurstsScaledSpec.plain.varTypes Tryz.prog).any (Tryz.prog.loopsFrom ·))) = true := by kernel_rfl
theorem fact17 : ((Rows.wholeBurstsScaledRow.wideKeys == (Tryz.f3.params.toList ++ Rows.wholeBurstsScaledSpec.plain.varTypes Tryz.prog ++ Tryz.f3.resultTypes.toList).any (Tryz.prog.wideKeysFrom ·))) = true := by kernel_rfl
theorem fact18 : (Rows.wholeBurstsScaledSpec.vars.all (Tryz.prog.varReadable ·)) = true := by kernel_rfl
theorem fact19 : (Tryz.f3.resultTypes.all (fun t => Tryz.prog.readableRec t && decide (t < Tryz.prog.types.size))) = true := by kernel_rfl
theorem fact20 : ((Rows.wholeBurstsScaledRow.ifacesOut == Tryz.f3.resultTypes.toList.any (Tryz.prog.ifacesRec ·))) = true := by kernel_rfl
theorem fact21 : ((Rows.wholeBurstsScaledRow.loopsOut == Tryz.f3.resultTypes.toList.any (Tryz.prog.loopsFrom ·))) = true := by kernel_rfl
theorem fact22 : ((Rows.wholeBurstsScaledRow.plainKeys == Tryz.prog.plainKeys)) = true := by kernel_rfl
theorem fact23 : (Rows.wholeBurstsScaledRow.shortTexts.isNone) = true := by kernel_rfl
theorem fact24 : (Tryz.prog.stopsHeard) = true := by kernel_rfl
theorem fact25 : (Tryz.prog.mayEnter) = true := by kernel_rfl
theorem fact26 : ((Rows.wholeBurstsScaledRow.lifted == Tryz.prog.liftsFinal)) = true := by kernel_rfl
theorem fact27 : ((Tryz.prog.make == some Rows.wholeBurstsScaledRow.make)) = true := by kernel_rfl
theorem fact28 : ((Rows.wholeBurstsScaledRow.kinds == (if Rows.wholeBurstsScaledRow.domain.isEmpty then [] else Tryz.f3.params.toList.map fun t => match Tryz.prog.underlying t with | some (.int k) => some k | _ => none))) = true := by kernel_rfl
theorem fact29 : ((Rows.wholeBurstsScaledRow.pinned == Rows.wholeBurstsScaledRow.pinnedBy)) = true := by kernel_rfl
theorem fact30 : ((Rows.wholeBurstsScaledRow.veiled == (Tryz.f3.params.toList ++ Rows.wholeBurstsScaledSpec.plain.varTypes Tryz.prog ++ Tryz.f3.resultTypes.toList).any (Tryz.prog.veiledRec ·))) = true := by kernel_rfl
theorem fact31 : (Rows.wholeBurstsScaledRow.veiledFits Tryz.prog Tryz.f3.params.toList (Tryz.f3.params.toList ++ Rows.wholeBurstsScaledSpec.plain.varTypes Tryz.prog ++ Tryz.f3.resultTypes.toList)) = true := by kernel_rfl
theorem and_t {a b : Bool} (ha : a = true) (hb : b = true) : (a && b) = true := by rw [ha, hb]; rfl
end Go.Proofs.YtghcfkgfccmaoaaGreatDoor.bursts
