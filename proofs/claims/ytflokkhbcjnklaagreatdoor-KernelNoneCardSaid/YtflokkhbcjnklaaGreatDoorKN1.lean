/- Own text of this claim: part KN1. -/
import Derived.Test.YtflokkhbcjnklaaGreatDoorKD
import Derived.Test.YtflokkhbcjnklaaGreatDoorAb30
import Derived.KernelRfl
import Derived.Test.YtflokkhbcjnklaaGreatDoorRows
set_option maxRecDepth 100000
namespace Go.Proofs.YtflokkhbcjnklaaGreatDoor
open Go Go.Ab

noncomputable section
def rowsv : List AV := ([([],0,0),([110,111,112],1,1),([109,111,118],3,1),([108,105],5,1),([104,105],5,1),([97,100,100],4,1),([115,117,98],4,1),([109,117,108],4,3),([100,105,118],4,8),([114,101,109],4,8),([97,110,100],4,1),([111,114],4,1),([120,111,114],4,1),([115,104,108],4,1),([115,104,114],4,1),([115,97,114],4,1),([115,108,116],4,1),([115,108,116,117],4,1),([97,100,100,105],6,1),([108,100],6,1),([115,116],6,1),([98,101,113],6,1),([98,110,101],6,1),([98,108,116],6,1),([98,103,101],6,1),([98,108,116,117],6,1),([106,109,112],7,1),([106,97,108],5,1),([106,114],2,1),([99,121,99],2,1),([104,121,112],7,24)] : List (List Nat × Int × Int)).flatMap fun (n, f, c) => [AV.str (b n), .int .i64 f, .int .i64 c]
/-- The three package-level variables, with what they hold. -/
def vars0 : List (List AV × TypeId) := [([.int .i64 0, .int .i64 0, .int .i64 0], 352), ([.int .i64 (.negSucc 0), .int .i64 (.negSucc 0)], 287), (rowsv, 412)]

def endOk (s : St) : Nat → List (List AV × TypeId) → Bool
  | _, [] => true
  | g, r :: rest => optSame (s.get g) (some (.cells r.1 r.2)) && endOk s (g + 1) rest

def isDone (r : Option Res) : Bool :=
  match r with
  | some (.val (.bool b) s) => b && endOk s 0 vars0
  | _ => false
end

theorem fol : Tryz.prog.follows .mixedOrders = true := by kernel_rfl
theorem noNum : (Tryz.prog.funcs.all fun fn => !(fn.name == "runtime.NumGoroutine")) = true := by kernel_rfl
theorem gFine : Tryz.prog.globalNamed "bulkhead/admit.fine" = some 0 := by kernel_rfl
theorem gNowhere : Tryz.prog.globalNamed "bulkhead/admit.nowhere" = some 1 := by kernel_rfl
theorem gRows : Tryz.prog.globalNamed "bulkhead/isa.rows" = some 2 := by kernel_rfl
theorem tFine : (Tryz.prog.globals[0]?).map (·.type) = some 352 := by kernel_rfl
theorem tNowhere : (Tryz.prog.globals[1]?).map (·.type) = some 287 := by kernel_rfl
theorem tRows : (Tryz.prog.globals[2]?).map (·.type) = some 412 := by kernel_rfl
theorem lFine : mapO (fun p : Nat × Value => ofCell p.2) (leaves Tryz.prog 5 352 Rows.laid_bulkhead_admit_fine 0) = some [.int .i64 0, .int .i64 0, .int .i64 0] := by kernel_rfl
theorem lNowhere : mapO (fun p : Nat × Value => ofCell p.2) (leaves Tryz.prog 5 287 Rows.laid_bulkhead_admit_nowhere 0) = some [.int .i64 (.negSucc 0), .int .i64 (.negSucc 0)] := by kernel_rfl
theorem lRows : mapO (fun p : Nat × Value => ofCell p.2) (leaves Tryz.prog 5 412 Rows.laid_bulkhead_isa_rows 0) = some rowsv := by kernel_rfl
theorem iFine : (leaves Tryz.prog 5 352 Rows.laid_bulkhead_admit_fine 0).map (·.1) = List.range 3 := by kernel_rfl
theorem iNowhere : (leaves Tryz.prog 5 287 Rows.laid_bulkhead_admit_nowhere 0).map (·.1) = List.range 2 := by kernel_rfl
theorem nRows : rowsv.length = 93 := by kernel_rfl
theorem iRows : (leaves Tryz.prog 5 412 Rows.laid_bulkhead_isa_rows 0).map (·.1) = List.range 93 := by kernel_rfl
theorem zFine : (((begin Tryz.prog (fun _ _ => 0) default).world.heap[0]?).bind Obj.row?).map (fun r => (r.1.size, r.2)) = some (3, 352) := by kernel_rfl
theorem zNowhere : (((begin Tryz.prog (fun _ _ => 0) default).world.heap[1]?).bind Obj.row?).map (fun r => (r.1.size, r.2)) = some (2, 287) := by kernel_rfl
theorem zRows : (((begin Tryz.prog (fun _ _ => 0) default).world.heap[2]?).bind Obj.row?).map (fun r => (r.1.size, r.2)) = some (93, 412) := by kernel_rfl

end Go.Proofs.YtflokkhbcjnklaaGreatDoor
