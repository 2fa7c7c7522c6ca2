/- Own text of this claim: part KN6b. -/
import Derived.Test.YtflokkhbcjnklaaGreatDoorKN3
import Derived.SevenTiedAt
set_option maxRecDepth 100000
namespace Go.Proofs.YtflokkhbcjnklaaGreatDoor
open Go Go.Ab Go.ChangeShapes Go.WideShapes Go.ChangeAt Go.RowKit
theorem jf10 : (Rows.kernelNoneRow.unfollowed == Tryz.prog.unfollowed 3) = true := by kernel_rfl
theorem jf11 : (Rows.kernelNoneRow.recurses == Tryz.prog.recurses 3) = true := by kernel_rfl
theorem jf12 : (Rows.kernelNoneRow.named == Tryz.prog.varsNamed 3) = true := by kernel_rfl
end Go.Proofs.YtflokkhbcjnklaaGreatDoor
