/- Own text of this claim: part KP75. -/
import Derived.Test.YtflokkhbcjnklaaGreatDoorAb26
import Derived.KernelRfl
import Derived.Test.YtflokkhbcjnklaaGreatDoorProg
import Derived.Test.YtflokkhbcjnklaaGreatDoorKD
set_option maxRecDepth 100000
namespace Go.Ab
open Go Go.Proofs
noncomputable section
theorem h75 : k75.holds Tryz.prog [] 20000 = true := by kernel_rfl
end
end Go.Ab
