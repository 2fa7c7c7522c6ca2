/- Own text of this claim: part CC1. -/
import Derived.Test.YtjffanafmodhdaaGreatDoorCPL
import Derived.Test.YtjffanafmodhdaaGreatDoorAb28
import Derived.KernelRfl
import Derived.Test.YtjffanafmodhdaaGreatDoorRows
set_option linter.unusedVariables false
set_option linter.unusedSimpArgs false
set_option linter.unusedSectionVars false
set_option linter.unnecessarySimpa false
set_option maxRecDepth 100000
namespace Go.Proofs.YtjffanafmodhdaaGreatDoor
open Go Go.Ab

theorem fol : Tryz.prog.follows .mixedOrders = true := by kernel_rfl
theorem noNum : (Tryz.prog.funcs.all fun fn => !(fn.name == "runtime.NumGoroutine")) = true := by kernel_rfl
theorem gFine : Tryz.prog.globalNamed "bulkhead/admit.fine" = some 0 := by kernel_rfl
theorem gNowhere : Tryz.prog.globalNamed "bulkhead/admit.nowhere" = some 1 := by kernel_rfl
theorem gRows : Tryz.prog.globalNamed "bulkhead/isa.rows" = some 2 := by kernel_rfl
theorem tFine : (Tryz.prog.globals[0]?).map (·.type) = some 294 := by kernel_rfl
theorem tNowhere : (Tryz.prog.globals[1]?).map (·.type) = some 213 := by kernel_rfl
theorem tRows : (Tryz.prog.globals[2]?).map (·.type) = some 425 := by kernel_rfl
theorem lFine : mapO (fun p : Nat × Value => ofCell p.2) (leaves Tryz.prog 5 294 Rows.laid_bulkhead_admit_fine 0) = some [.int .i64 0, .int .i64 0, .int .i64 0] := by kernel_rfl
theorem lNowhere : mapO (fun p : Nat × Value => ofCell p.2) (leaves Tryz.prog 5 213 Rows.laid_bulkhead_admit_nowhere 0) = some [.int .i64 (.negSucc 0), .int .i64 (.negSucc 0)] := by kernel_rfl
theorem lRows : mapO (fun p : Nat × Value => ofCell p.2) (leaves Tryz.prog 5 425 Rows.laid_bulkhead_isa_rows 0) = some rowsv := by kernel_rfl
theorem iFine : (leaves Tryz.prog 5 294 Rows.laid_bulkhead_admit_fine 0).map (·.1) = List.range 3 := by kernel_rfl
theorem iNowhere : (leaves Tryz.prog 5 213 Rows.laid_bulkhead_admit_nowhere 0).map (·.1) = List.range 2 := by kernel_rfl
theorem nRows : rowsv.length = 93 := by kernel_rfl
theorem iRows : (leaves Tryz.prog 5 425 Rows.laid_bulkhead_isa_rows 0).map (·.1) = List.range 93 := by kernel_rfl
theorem zFine : (((begin Tryz.prog (fun _ _ => 0) default).world.heap[0]?).bind Obj.row?).map (fun r => (r.1.size, r.2)) = some (3, 294) := by kernel_rfl
theorem zNowhere : (((begin Tryz.prog (fun _ _ => 0) default).world.heap[1]?).bind Obj.row?).map (fun r => (r.1.size, r.2)) = some (2, 213) := by kernel_rfl
theorem zRows : (((begin Tryz.prog (fun _ _ => 0) default).world.heap[2]?).bind Obj.row?).map (fun r => (r.1.size, r.2)) = some (93, 425) := by kernel_rfl

end Go.Proofs.YtjffanafmodhdaaGreatDoor

