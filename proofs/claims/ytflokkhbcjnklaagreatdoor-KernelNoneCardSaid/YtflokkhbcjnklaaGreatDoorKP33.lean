/- Own text of this claim: part KP33. -/
import Derived.Test.YtflokkhbcjnklaaGreatDoorAb26
import Derived.KernelRfl
import Derived.Test.YtflokkhbcjnklaaGreatDoorProg
import Derived.Test.YtflokkhbcjnklaaGreatDoorKD
set_option maxRecDepth 100000
namespace Go.Ab
open Go Go.Proofs
noncomputable section
theorem h33 : k33.holds Tryz.prog [k75, k78] 20000 = true := by kernel_rfl
end
end Go.Ab
