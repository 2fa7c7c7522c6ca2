/- Own text of this claim: part CKP1. -/
import Derived.Test.YtjffanafmodhdaaGreatDoorAb51
import Derived.KernelRfl
import Derived.Test.YtjffanafmodhdaaGreatDoorCN1
import Derived.Test.YtjffanafmodhdaaGreatDoorCKD
set_option linter.unusedVariables false
set_option linter.unusedSimpArgs false
set_option linter.unusedSectionVars false
set_option linter.unnecessarySimpa false
set_option maxRecDepth 100000
namespace Go.Ab
open Go Go.Proofs
noncomputable section
theorem ch1 : ck1.holdsS Tryz.prog [] 20000 = true := by kernel_rfl
end
end Go.Ab

