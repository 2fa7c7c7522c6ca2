/- Own text of this claim: part CC6b. -/
import Derived.Test.YtjffanafmodhdaaGreatDoorCC3
import Derived.SevenTiedAt
set_option linter.unusedVariables false
set_option linter.unusedSimpArgs false
set_option linter.unusedSectionVars false
set_option linter.unnecessarySimpa false
set_option maxRecDepth 100000
namespace Go.Proofs.YtjffanafmodhdaaGreatDoor
open Go Go.Ab Go.ChangeShapes Go.WideShapes Go.ChangeAt Go.RowKit
theorem jf10 : (Rows.crewNoneRow.unfollowed == Tryz.prog.unfollowed 3) = true := by kernel_rfl
theorem jf11 : (Rows.crewNoneRow.recurses == Tryz.prog.recurses 3) = true := by kernel_rfl
theorem jf12 : (Rows.crewNoneRow.named == Tryz.prog.varsNamed 3) = true := by kernel_rfl
end Go.Proofs.YtjffanafmodhdaaGreatDoor

