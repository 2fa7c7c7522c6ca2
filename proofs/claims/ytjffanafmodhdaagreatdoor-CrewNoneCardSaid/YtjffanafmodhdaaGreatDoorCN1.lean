/- Own text of this claim: part CN1. -/
import Derived.Test.YtjffanafmodhdaaGreatDoorProg
import Derived.Conc.WgLib
import Derived.KernelRfl
set_option linter.unusedVariables false
set_option linter.unusedSimpArgs false
set_option linter.unusedSectionVars false
set_option linter.unnecessarySimpa false
/-
  CrewNone: the numbers under which the seat's program holds the library's WaitGroup.
-/
namespace Go.Ab
open Go.Proofs
abbrev ccLink : Go.Conc.Lib.WgLink := { add := 16, done := 18, wait := 23, relMerge := 37, disable := 38, enable := 39, inBubble := 40, associate := 41, fatal := 42, uOr := 43, uAdd := 44, raceRead := 45, uLoad := 46, uStore := 47, disassociate := 48, semrelease := 49, acquire := 51, isAssociated := 52, uCas := 53, raceWrite := 54, semacquire := 55, orU64 := 73, addU64 := 74, loadU64 := 75, storeU64 := 76, casU64 := 82, tWgP := 134, tUP := 136, tAssoc := 137, tWg := 62, tAU := 59, tU64 := 57, tUint := 141, tU32 := 60, tPU32 := 142, tPAU := 204, tPU64 := 206, tNoCopy := 54, tANoCopy := 55, tAlign64 := 56 }
theorem ccLib : Go.Conc.Lib.WgLib Tryz.prog ccLink :=
  ⟨Tryz.func16, Tryz.func18, Tryz.func23, Tryz.func37, Tryz.func38, Tryz.func39, Tryz.func40, Tryz.func41, Tryz.func42, Tryz.func43, Tryz.func44, Tryz.func45, Tryz.func46, Tryz.func47, Tryz.func48, Tryz.func49, Tryz.func51, Tryz.func52, Tryz.func53, Tryz.func54, Tryz.func55, Tryz.func73, Tryz.func74, Tryz.func75, Tryz.func76, Tryz.func82, Tryz.underlying134, Tryz.runUnderlying134, Tryz.sizeOf134, Tryz.isAgg134, Tryz.zeroValue134, Tryz.underlying136, Tryz.runUnderlying136, Tryz.sizeOf136, Tryz.isAgg136, Tryz.zeroValue136, Tryz.underlying137, Tryz.runUnderlying137, Tryz.sizeOf137, Tryz.isAgg137, Tryz.zeroValue137, Tryz.underlying62, Tryz.runUnderlying62, Tryz.sizeOf62, Tryz.isAgg62, Tryz.zeroValue62, Tryz.underlying59, Tryz.runUnderlying59, Tryz.sizeOf59, Tryz.isAgg59, Tryz.zeroValue59, Tryz.underlying57, Tryz.runUnderlying57, Tryz.sizeOf57, Tryz.isAgg57, Tryz.zeroValue57, Tryz.underlying141, Tryz.runUnderlying141, Tryz.sizeOf141, Tryz.isAgg141, Tryz.zeroValue141, Tryz.underlying60, Tryz.runUnderlying60, Tryz.sizeOf60, Tryz.isAgg60, Tryz.zeroValue60, Tryz.underlying142, Tryz.runUnderlying142, Tryz.sizeOf142, Tryz.isAgg142, Tryz.zeroValue142, Tryz.underlying204, Tryz.runUnderlying204, Tryz.sizeOf204, Tryz.isAgg204, Tryz.zeroValue204, Tryz.underlying206, Tryz.runUnderlying206, Tryz.sizeOf206, Tryz.isAgg206, Tryz.zeroValue206, Tryz.underlying0, Tryz.runUnderlying0, Tryz.sizeOf0, Tryz.isAgg0, Tryz.zeroValue0, Tryz.underlying3, Tryz.runUnderlying3, Tryz.sizeOf3, Tryz.isAgg3, Tryz.zeroValue3, Tryz.underlying4, Tryz.runUnderlying4, Tryz.sizeOf4, Tryz.isAgg4, Tryz.zeroValue4, Tryz.underlying9, Tryz.runUnderlying9, Tryz.sizeOf9, Tryz.isAgg9, Tryz.zeroValue9, Tryz.underlying20, Tryz.runUnderlying20, Tryz.sizeOf20, Tryz.isAgg20, Tryz.zeroValue20, Tryz.underlying21, Tryz.runUnderlying21, Tryz.sizeOf21, Tryz.isAgg21, Tryz.zeroValue21, (by kernel_rfl), (by kernel_rfl)⟩
end Go.Ab

