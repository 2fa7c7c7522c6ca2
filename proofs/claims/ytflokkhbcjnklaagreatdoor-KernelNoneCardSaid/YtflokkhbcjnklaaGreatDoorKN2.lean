/- Own text of this claim: part KN2. -/
import Derived.Test.YtflokkhbcjnklaaGreatDoorKN1
set_option maxRecDepth 100000
namespace Go.Proofs.YtflokkhbcjnklaaGreatDoor
open Go Go.Ab
theorem run0 : isDone (stepF Tryz.prog (runO Tryz.prog [k33] 20000) (.call 3 [] (startA vars0))) = true := by kernel_rfl
end Go.Proofs.YtflokkhbcjnklaaGreatDoor
