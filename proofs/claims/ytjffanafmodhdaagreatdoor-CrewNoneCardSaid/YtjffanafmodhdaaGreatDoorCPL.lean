/- Own text of this claim: part CPL. -/
import Derived.Test.YtjffanafmodhdaaGreatDoorAb51
import Derived.KernelRfl
import Derived.Test.YtjffanafmodhdaaGreatDoorCN1
import Derived.Test.YtjffanafmodhdaaGreatDoorCKD
import Derived.Test.YtjffanafmodhdaaGreatDoorAb28
set_option linter.unusedVariables false
set_option linter.unusedSimpArgs false
set_option linter.unusedSectionVars false
set_option linter.unnecessarySimpa false
set_option maxRecDepth 100000
namespace Go.Ab
open Go Go.Proofs
noncomputable section
def ccU (g : FuncId) : Bool := Nat.beq g 5 || Nat.beq g 7
def ccHasU : Code → Bool
  | .seq .. | .cond .. | .block .. | .loop .. | .scope .. => true
  | .region _ _ d => !d
  | _ => false
def ccPlan : Plan := { fid := 3, a := [(193, none)], b := [(42, none)], g := [(3, none)], q1 := [1383], n1 := 2386, p1 := [(57, none)], k1 := [(13, none)], rounds := [{ D := false, q := [2, 1, 0, 1380, 1336, 1337, 1338, 1334, 1335, 1332, 1333, 1330, 1331, 1328, 1329, 1327, 1339, 1340, 1342, 1294, 1301, 1296, 978, 968, 974, 972, 969, 1143, 1136, 1148, 1149, 997, 990, 1302, 687, 694, 689, 541, 531, 537, 535, 532, 163, 164, 1324, 1326, 1320, 1313, 382, 384, 379, 377, 375, 373, 380, 1358, 1383], n1 := 3386, sp := [(46, none)], sk := [(21, none)] }, { D := true, q := [], n1 := 4440, sp := [(114, none)], sk := [(5, none)] }, { D := false, q := [2, 1, 0, 3439, 1380, 3412, 1336, 1337, 1338, 1334, 1335, 1332, 1333, 1330, 1331, 3419, 1328, 1329, 1327, 1339, 1340, 1342, 1294, 1301, 1296, 978, 968, 974, 972, 969, 1143, 1136, 1148, 1149, 997, 990, 1302, 687, 694, 689, 541, 531, 537, 535, 532, 163, 164, 1324, 1326, 1320, 1313, 382, 384, 379, 377, 375, 373, 380, 1358, 1383], n1 := 5440, sp := [(46, none)], sk := [(21, none)] }, { D := true, q := [], n1 := 6534, sp := [(141, none)], sk := [(5, none)] }, { D := false, q := [2, 1, 0, 5484, 5533, 1380, 3412, 1336, 1337, 1338, 1334, 1335, 1332, 1333, 1330, 1331, 3419, 1328, 1329, 1327, 1339, 1340, 1342, 1294, 1301, 1296, 978, 968, 974, 972, 969, 1143, 1136, 1148, 1149, 997, 990, 1302, 687, 694, 689, 541, 531, 537, 535, 532, 163, 164, 1324, 1326, 1320, 1313, 382, 384, 379, 377, 375, 373, 380, 1358, 1383], n1 := 7534, sp := [(46, none)], sk := [(21, none)] }, { D := true, q := [], n1 := 8581, sp := [(114, none)], sk := [(5, none)] }, { D := false, q := [2, 1, 0, 7580, 1380, 3412, 1336, 1337, 1338, 1334, 1335, 1332, 1333, 1330, 1331, 3419, 1328, 1329, 1327, 1339, 1340, 1342, 1294, 1301, 1296, 978, 968, 974, 972, 969, 1143, 1136, 1148, 1149, 997, 990, 1302, 687, 694, 689, 541, 531, 537, 535, 532, 163, 164, 1324, 1326, 1320, 1313, 382, 384, 379, 377, 375, 373, 380, 1358, 1383], n1 := 9581, sp := [(46, none)], sk := [(21, none)] }], co := 1381, ct := 1382, cb := 1383, close := [(112, none)], nC := 16, rest := [(109, none)], nK := 5, nQ := 6 }
def rowsv : List AV := ([([],0,0),([110,111,112],1,1),([109,111,118],3,1),([108,105],5,1),([104,105],5,1),([97,100,100],4,1),([115,117,98],4,1),([109,117,108],4,3),([100,105,118],4,8),([114,101,109],4,8),([97,110,100],4,1),([111,114],4,1),([120,111,114],4,1),([115,104,108],4,1),([115,104,114],4,1),([115,97,114],4,1),([115,108,116],4,1),([115,108,116,117],4,1),([97,100,100,105],6,1),([108,100],6,1),([115,116],6,1),([98,101,113],6,1),([98,110,101],6,1),([98,108,116],6,1),([98,103,101],6,1),([98,108,116,117],6,1),([106,109,112],7,1),([106,97,108],5,1),([106,114],2,1),([99,121,99],2,1),([104,121,112],7,24)] : List (List Nat × Int × Int)).flatMap fun (n, f, c) => [AV.str (b n), .int .i64 f, .int .i64 c]
/-- The three package-level variables, with what they hold. -/
def vars0 : List (List AV × TypeId) := [([.int .i64 0, .int .i64 0, .int .i64 0], 294), ([.int .i64 (.negSucc 0), .int .i64 (.negSucc 0)], 213), (rowsv, 425)]
def okWhole (gs : List (List AV × TypeId)) (r : Option (AV × St)) (s0 : St) : Bool :=
  match r with
  | some (.bool true, s) => (List.range gs.length).all fun g => optSame (s.get g) (s0.get g)
  | _ => false
def okCC : Bool := okWhole vars0 (wholeO Tryz.prog ccLink (runO Tryz.prog [ck2] 20000) ccU ccHasU ccPlan (startA vars0)) (startA vars0)
end
end Go.Ab

