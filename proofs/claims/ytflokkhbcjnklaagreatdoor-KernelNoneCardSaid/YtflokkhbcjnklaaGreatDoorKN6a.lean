/- Own text of this claim: part KN6a. -/
import Derived.Test.YtflokkhbcjnklaaGreatDoorKN3
import Derived.SevenTiedAt
set_option maxRecDepth 100000
namespace Go.Proofs.YtflokkhbcjnklaaGreatDoor
open Go Go.Ab Go.ChangeShapes Go.WideShapes Go.ChangeAt Go.RowKit
theorem jf1 : laidOutB Tryz.prog = true := by kernel_rfl
theorem jf2 : mapsRowed Tryz.prog = true := by kernel_rfl
theorem jf9 : (Rows.kernelNoneRow.inPlace == Tryz.prog.inPlace 3) = true := by kernel_rfl
end Go.Proofs.YtflokkhbcjnklaaGreatDoor
