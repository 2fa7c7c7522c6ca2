/- Own text of this claim: part CW. -/
import Derived.Test.YtjffanafmodhdaaGreatDoorCPL
set_option linter.unusedVariables false
set_option linter.unusedSimpArgs false
set_option linter.unusedSectionVars false
set_option linter.unnecessarySimpa false
set_option maxRecDepth 100000
namespace Go.Ab
open Go Go.Proofs
theorem okCC_true : okCC = true := by kernel_rfl
end Go.Ab

