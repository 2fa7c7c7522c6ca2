/- Own text of this claim: part CC6c. -/
import Derived.Test.YtjffanafmodhdaaGreatDoorCC6a
import Derived.Test.YtjffanafmodhdaaGreatDoorCC6b
import Derived.SevenTiedAt
set_option linter.unusedVariables false
set_option linter.unusedSimpArgs false
set_option linter.unusedSectionVars false
set_option linter.unnecessarySimpa false
set_option maxRecDepth 100000
namespace Go.Proofs.YtjffanafmodhdaaGreatDoor
open Go Go.Ab Go.ChangeShapes Go.WideShapes Go.ChangeAt Go.RowKit
theorem jf0 : Rows.crewNoneRow.wf (OpenSpec.ofChange Rows.crewNoneSpec) = true := by kernel_rfl
theorem jf3 : Tryz.f3.params.all (Tryz.prog.readableRec ·) = true := by kernel_rfl
theorem jf4 : namedTie Tryz.prog Rows.crewNoneRow.named Rows.crewNoneSpec.vars = true := by kernel_rfl
theorem jf5 : (Rows.crewNoneRow.stops == []) = true := by kernel_rfl
theorem jf6 : (Tryz.prog.stops == []) = true := by kernel_rfl
theorem jf7 : (Rows.crewNoneRow.knobs == []) = true := by kernel_rfl
theorem jf8 : (Tryz.prog.stopKnobs == []) = true := by kernel_rfl
theorem jf13 : (Rows.crewNoneRow.maps == (Tryz.f3.params.toList ++ Rows.crewNoneSpec.plain.varTypes Tryz.prog).any (Tryz.prog.mapsRec ·)) = true := by kernel_rfl
theorem jf14 : (Rows.crewNoneRow.ifaces == (Tryz.f3.params.toList ++ Rows.crewNoneSpec.plain.varTypes Tryz.prog).any (Tryz.prog.ifacesRec ·)) = true := by kernel_rfl
theorem jf15 : (Rows.crewNoneRow.mapsOut == Tryz.prog.mapsAmong Tryz.f3.resultTypes.toList) = true := by kernel_rfl
theorem jf16 : (Rows.crewNoneRow.loops == (Tryz.f3.params.toList ++ Rows.crewNoneSpec.plain.varTypes Tryz.prog).any (Tryz.prog.loopsFrom ·)) = true := by kernel_rfl
theorem jf17 : (Rows.crewNoneRow.wideKeys == (Tryz.f3.params.toList ++ Rows.crewNoneSpec.plain.varTypes Tryz.prog ++ Tryz.f3.resultTypes.toList).any (Tryz.prog.wideKeysFrom ·)) = true := by kernel_rfl
theorem jf18 : Rows.crewNoneSpec.vars.all (Tryz.prog.varReadable ·) = true := by kernel_rfl
theorem jf19 : Tryz.f3.resultTypes.all (fun t => Tryz.prog.readableRec t && decide (t < Tryz.prog.types.size)) = true := by kernel_rfl
theorem jf20 : (Rows.crewNoneRow.ifacesOut == Tryz.f3.resultTypes.toList.any (Tryz.prog.ifacesRec ·)) = true := by kernel_rfl
theorem jf21 : (Rows.crewNoneRow.loopsOut == Tryz.f3.resultTypes.toList.any (Tryz.prog.loopsFrom ·)) = true := by kernel_rfl
theorem jf22 : (Rows.crewNoneRow.plainKeys == Tryz.prog.plainKeys) = true := by kernel_rfl
theorem jf23 : Rows.crewNoneRow.shortTexts.isNone = true := by kernel_rfl
theorem jf24 : Tryz.prog.stopsHeard = true := by kernel_rfl
theorem jf25 : Tryz.prog.mayEnter = true := by kernel_rfl
theorem jf26 : (Rows.crewNoneRow.lifted == Tryz.prog.liftsFinal) = true := by kernel_rfl
theorem jf27 : (Tryz.prog.make == some Rows.crewNoneRow.make) = true := by kernel_rfl
theorem jf29 : (Rows.crewNoneRow.pinned == Rows.crewNoneRow.pinnedBy) = true := by kernel_rfl
theorem jf30 : (Rows.crewNoneRow.veiled == (Tryz.f3.params.toList ++ Rows.crewNoneSpec.plain.varTypes Tryz.prog ++ Tryz.f3.resultTypes.toList).any (Tryz.prog.veiledRec ·)) = true := by kernel_rfl
theorem jf31 : Rows.crewNoneRow.veiledFits Tryz.prog Tryz.f3.params.toList (Tryz.f3.params.toList ++ Rows.crewNoneSpec.plain.varTypes Tryz.prog ++ Tryz.f3.resultTypes.toList) = true := by kernel_rfl
theorem jf28 (x : List (Option IntKind)) : (Rows.crewNoneRow.kinds == (if Rows.crewNoneRow.domain.isEmpty then [] else x)) = true := rfl
theorem closedFacts : joinedFacts Tryz.prog 3 Tryz.f3 Rows.crewNoneSpec Rows.crewNoneRow = true := by
  unfold joinedFacts
  rw [jf0, jf1, jf2, jf3, jf4, jf5, jf6, jf7, jf8, jf9, jf10, jf11, jf12, jf13, jf14, jf15, jf16, jf17, jf18, jf19, jf20, jf21, jf22, jf23, jf24, jf25, jf26, jf27, jf28, jf29, jf30, jf31]
  rfl
end Go.Proofs.YtjffanafmodhdaaGreatDoor

