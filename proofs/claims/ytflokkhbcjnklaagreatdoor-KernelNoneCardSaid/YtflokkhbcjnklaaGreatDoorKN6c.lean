/- Own text of this claim: part KN6c. -/
import Derived.Test.YtflokkhbcjnklaaGreatDoorKN6a
import Derived.Test.YtflokkhbcjnklaaGreatDoorKN6b
import Derived.SevenTiedAt
set_option maxRecDepth 100000
namespace Go.Proofs.YtflokkhbcjnklaaGreatDoor
open Go Go.Ab Go.ChangeShapes Go.WideShapes Go.ChangeAt Go.RowKit
theorem jf0 : Rows.kernelNoneRow.wf (OpenSpec.ofChange Rows.kernelNoneSpec) = true := by kernel_rfl
theorem jf3 : Tryz.f3.params.all (Tryz.prog.readableRec ·) = true := by kernel_rfl
theorem jf4 : namedTie Tryz.prog Rows.kernelNoneRow.named Rows.kernelNoneSpec.vars = true := by kernel_rfl
theorem jf5 : (Rows.kernelNoneRow.stops == []) = true := by kernel_rfl
theorem jf6 : (Tryz.prog.stops == []) = true := by kernel_rfl
theorem jf7 : (Rows.kernelNoneRow.knobs == []) = true := by kernel_rfl
theorem jf8 : (Tryz.prog.stopKnobs == []) = true := by kernel_rfl
theorem jf13 : (Rows.kernelNoneRow.maps == (Tryz.f3.params.toList ++ Rows.kernelNoneSpec.plain.varTypes Tryz.prog).any (Tryz.prog.mapsRec ·)) = true := by kernel_rfl
theorem jf14 : (Rows.kernelNoneRow.ifaces == (Tryz.f3.params.toList ++ Rows.kernelNoneSpec.plain.varTypes Tryz.prog).any (Tryz.prog.ifacesRec ·)) = true := by kernel_rfl
theorem jf15 : (Rows.kernelNoneRow.mapsOut == Tryz.prog.mapsAmong Tryz.f3.resultTypes.toList) = true := by kernel_rfl
theorem jf16 : (Rows.kernelNoneRow.loops == (Tryz.f3.params.toList ++ Rows.kernelNoneSpec.plain.varTypes Tryz.prog).any (Tryz.prog.loopsFrom ·)) = true := by kernel_rfl
theorem jf17 : (Rows.kernelNoneRow.wideKeys == (Tryz.f3.params.toList ++ Rows.kernelNoneSpec.plain.varTypes Tryz.prog ++ Tryz.f3.resultTypes.toList).any (Tryz.prog.wideKeysFrom ·)) = true := by kernel_rfl
theorem jf18 : Rows.kernelNoneSpec.vars.all (Tryz.prog.varReadable ·) = true := by kernel_rfl
theorem jf19 : Tryz.f3.resultTypes.all (fun t => Tryz.prog.readableRec t && decide (t < Tryz.prog.types.size)) = true := by kernel_rfl
theorem jf20 : (Rows.kernelNoneRow.ifacesOut == Tryz.f3.resultTypes.toList.any (Tryz.prog.ifacesRec ·)) = true := by kernel_rfl
theorem jf21 : (Rows.kernelNoneRow.loopsOut == Tryz.f3.resultTypes.toList.any (Tryz.prog.loopsFrom ·)) = true := by kernel_rfl
theorem jf22 : (Rows.kernelNoneRow.plainKeys == Tryz.prog.plainKeys) = true := by kernel_rfl
theorem jf23 : Rows.kernelNoneRow.shortTexts.isNone = true := by kernel_rfl
theorem jf24 : Tryz.prog.stopsHeard = true := by kernel_rfl
theorem jf25 : Tryz.prog.mayEnter = true := by kernel_rfl
theorem jf26 : (Rows.kernelNoneRow.lifted == Tryz.prog.liftsFinal) = true := by kernel_rfl
theorem jf27 : (Tryz.prog.make == some Rows.kernelNoneRow.make) = true := by kernel_rfl
theorem jf29 : (Rows.kernelNoneRow.pinned == Rows.kernelNoneRow.pinnedBy) = true := by kernel_rfl
theorem jf30 : (Rows.kernelNoneRow.veiled == (Tryz.f3.params.toList ++ Rows.kernelNoneSpec.plain.varTypes Tryz.prog ++ Tryz.f3.resultTypes.toList).any (Tryz.prog.veiledRec ·)) = true := by kernel_rfl
theorem jf31 : Rows.kernelNoneRow.veiledFits Tryz.prog Tryz.f3.params.toList (Tryz.f3.params.toList ++ Rows.kernelNoneSpec.plain.varTypes Tryz.prog ++ Tryz.f3.resultTypes.toList) = true := by kernel_rfl
theorem jf28 (x : List (Option IntKind)) : (Rows.kernelNoneRow.kinds == (if Rows.kernelNoneRow.domain.isEmpty then [] else x)) = true := rfl
theorem closedFacts : joinedFacts Tryz.prog 3 Tryz.f3 Rows.kernelNoneSpec Rows.kernelNoneRow = true := by
  unfold joinedFacts
  rw [jf0, jf1, jf2, jf3, jf4, jf5, jf6, jf7, jf8, jf9, jf10, jf11, jf12, jf13, jf14, jf15, jf16, jf17, jf18, jf19, jf20, jf21, jf22, jf23, jf24, jf25, jf26, jf27, jf28, jf29, jf30, jf31]
  rfl
end Go.Proofs.YtflokkhbcjnklaaGreatDoor
