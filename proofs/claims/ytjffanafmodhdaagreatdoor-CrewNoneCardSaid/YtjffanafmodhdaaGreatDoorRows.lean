/-
  NARROWER THAN 'FOR EVERY INPUT', by the rows' own cells (each row's printed sentence says how): CrewNone: laid · CrewRefuses: laid.
  DERIVED. THE GIVEN ROWS OF THIS SEAT. 2 by the template 'for every input the law returns true; each argument reads behind the call as it read before'; 0 by the template 'total and deterministic' (their statements: YtjffanafmodhdaaGreatDoorTotals.lean).
  GIVEN WITH THE SEED: the statements are not yours to turn. If you find one false, say at which input.
  Laid BY PROGRAM, IN A SANDBOX (cutbox-rows.mjs): the forced cells as the released guide's own fill.sh prints them over the translation 0a362f59ffd5269c… (all of the seat's roots in one cut). By AI agents, Wed Nov 11 2026. No macro, syntax, notation, axiom, sorry.
-/
import Derived.Test.YtjffanafmodhdaaGreatDoorChecked
import GoSem.Claim
import GoSem.ClaimJoined
import GoSem.ClaimMapViews
import Derived.JoinedTies
import Derived.KernelRfl
namespace Go.Proofs.YtjffanafmodhdaaGreatDoor
/- THE CELL 'sum', in the pinned program and in every row, IS THE sha256 OF THE DUMP (.gsa) THAT YtjffanafmodhdaaGreatDoorProg.lean LOADS. Nothing in Lean hashes anything: it is a label: what it is worth is what the hold of that sum in a sandbox is worth. -/
noncomputable def Tryz.pinned : Pinned := { name := "ytjffanafmodhdaagreatdoor", sum := "0a362f59ffd5269c9a7b598eba0b5b7b16c7a5a30b3c2cfcd6607310d0d34226", checked := Tryz.checked }
namespace Rows
def none {H : Type} : Left H := { results := [], args := [] }

/- WHAT THE LISTED PACKAGE-LEVEL VARIABLES READ AS WHEN THE CALL BEGINS. Each datum BY PROGRAM (the guide's laid-datum.mjs) off the statement by which the dump's own 'gosem.cut.vars' lays the variable. In a bare row this is a premise. The card (YtjffanafmodhdaaGreatDoorCards.lean) ties it to the program's text. -/
def laid_bulkhead_isa_rows {H : Type} : DataW H := .agg [.agg [.lit (.string []), .lit (.int .i64 0), .lit (.int .i64 0)], .agg [.lit (.string [110, 111, 112]), .lit (.int .i64 1), .lit (.int .i64 1)], .agg [.lit (.string [109, 111, 118]), .lit (.int .i64 3), .lit (.int .i64 1)], .agg [.lit (.string [108, 105]), .lit (.int .i64 5), .lit (.int .i64 1)], .agg [.lit (.string [104, 105]), .lit (.int .i64 5), .lit (.int .i64 1)], .agg [.lit (.string [97, 100, 100]), .lit (.int .i64 4), .lit (.int .i64 1)], .agg [.lit (.string [115, 117, 98]), .lit (.int .i64 4), .lit (.int .i64 1)], .agg [.lit (.string [109, 117, 108]), .lit (.int .i64 4), .lit (.int .i64 3)], .agg [.lit (.string [100, 105, 118]), .lit (.int .i64 4), .lit (.int .i64 8)], .agg [.lit (.string [114, 101, 109]), .lit (.int .i64 4), .lit (.int .i64 8)], .agg [.lit (.string [97, 110, 100]), .lit (.int .i64 4), .lit (.int .i64 1)], .agg [.lit (.string [111, 114]), .lit (.int .i64 4), .lit (.int .i64 1)], .agg [.lit (.string [120, 111, 114]), .lit (.int .i64 4), .lit (.int .i64 1)], .agg [.lit (.string [115, 104, 108]), .lit (.int .i64 4), .lit (.int .i64 1)], .agg [.lit (.string [115, 104, 114]), .lit (.int .i64 4), .lit (.int .i64 1)], .agg [.lit (.string [115, 97, 114]), .lit (.int .i64 4), .lit (.int .i64 1)], .agg [.lit (.string [115, 108, 116]), .lit (.int .i64 4), .lit (.int .i64 1)], .agg [.lit (.string [115, 108, 116, 117]), .lit (.int .i64 4), .lit (.int .i64 1)], .agg [.lit (.string [97, 100, 100, 105]), .lit (.int .i64 6), .lit (.int .i64 1)], .agg [.lit (.string [108, 100]), .lit (.int .i64 6), .lit (.int .i64 1)], .agg [.lit (.string [115, 116]), .lit (.int .i64 6), .lit (.int .i64 1)], .agg [.lit (.string [98, 101, 113]), .lit (.int .i64 6), .lit (.int .i64 1)], .agg [.lit (.string [98, 110, 101]), .lit (.int .i64 6), .lit (.int .i64 1)], .agg [.lit (.string [98, 108, 116]), .lit (.int .i64 6), .lit (.int .i64 1)], .agg [.lit (.string [98, 103, 101]), .lit (.int .i64 6), .lit (.int .i64 1)], .agg [.lit (.string [98, 108, 116, 117]), .lit (.int .i64 6), .lit (.int .i64 1)], .agg [.lit (.string [106, 109, 112]), .lit (.int .i64 7), .lit (.int .i64 1)], .agg [.lit (.string [106, 97, 108]), .lit (.int .i64 5), .lit (.int .i64 1)], .agg [.lit (.string [106, 114]), .lit (.int .i64 2), .lit (.int .i64 1)], .agg [.lit (.string [99, 121, 99]), .lit (.int .i64 2), .lit (.int .i64 1)], .agg [.lit (.string [104, 121, 112]), .lit (.int .i64 7), .lit (.int .i64 24)]]
def laid_bulkhead_admit_nowhere {H : Type} : DataW H := .agg [.lit (.int .i64 (-1)), .lit (.int .i64 (-1))]
def laid_bulkhead_admit_fine {H : Type} : DataW H := .agg [.lit (.int .i64 0), .agg [.lit (.int .i64 0), .lit (.int .i64 0)]]

/-- 'bulkheadlaw30.CrewNone': WHATEVER THE INPUT: true; the input reads as it did. -/
def crewNoneSpec : ChangeSpec := { name := "crewNone", fn := fun _ => fun
  | [] => { results := [.lit (.bool true)], args := [] }
  | _ => none }
def crewNoneRow : OpenClaim := { program := "ytjffanafmodhdaagreatdoor", sum := "0a362f59ffd5269c9a7b598eba0b5b7b16c7a5a30b3c2cfcd6607310d0d34226", func := "bulkhead/bulkheadlaw30.CrewNone", spec := "crewNone", inPlace := ["(*sync.WaitGroup).Add", "internal/race.ReleaseMerge", "internal/race.Disable", "internal/race.Enable", "internal/synctest.IsInBubble", "internal/synctest.Associate[sync.WaitGroup]", "sync.fatal", "sync/atomic.OrUint64", "sync/atomic.AddUint64", "internal/race.Read", "sync/atomic.LoadUint64", "sync/atomic.StoreUint64", "internal/synctest.Disassociate[sync.WaitGroup]", "sync.runtime_Semrelease", "(*sync.WaitGroup).Done", "(*sync.WaitGroup).Wait", "internal/race.Acquire", "internal/synctest.IsAssociated[sync.WaitGroup]", "sync/atomic.CompareAndSwapUint64", "internal/race.Write", "sync.runtime_SemacquireWaitGroup"], unfollowed := true, recurses := true, named := ["bulkhead/admit.fine", "bulkhead/admit.nowhere", "bulkhead/isa.rows"], plainKeys := false, leaving := true, apart := false, laid := [("bulkhead/isa.rows", laid_bulkhead_isa_rows), ("bulkhead/admit.nowhere", laid_bulkhead_admit_nowhere), ("bulkhead/admit.fine", laid_bulkhead_admit_fine)] }
def CrewNoneSaid : Prop := crewNoneRow.holds Tryz.pinned (OpenSpec.ofChange crewNoneSpec)

/-- ITS FALSE NEIGHBOUR: 'it returns false'. Refute it at one input. -/
def crewNoneWrong : ChangeSpec := { name := "crewNone", fn := fun _ => fun
  | [] => { results := [.lit (.bool false)], args := [] }
  | _ => none }
def CrewNoneWrongFalsely : Prop := crewNoneRow.holds Tryz.pinned (OpenSpec.ofChange crewNoneWrong)

/-- 'bulkheadlaw30.CrewRefuses': WHATEVER THE INPUT: true; the input reads as it did. -/
def crewRefusesSpec : ChangeSpec := { name := "crewRefuses", fn := fun _ => fun
  | [d1, d2, d3, d4] => { results := [.lit (.bool true)], args := [d1, d2, d3, d4] }
  | _ => none }
def crewRefusesRow : OpenClaim := { program := "ytjffanafmodhdaagreatdoor", sum := "0a362f59ffd5269c9a7b598eba0b5b7b16c7a5a30b3c2cfcd6607310d0d34226", func := "bulkhead/bulkheadlaw30.CrewRefuses", spec := "crewRefuses", inPlace := ["(*sync.WaitGroup).Add", "internal/race.ReleaseMerge", "internal/race.Disable", "internal/race.Enable", "internal/synctest.IsInBubble", "internal/synctest.Associate[sync.WaitGroup]", "sync.fatal", "sync/atomic.OrUint64", "sync/atomic.AddUint64", "internal/race.Read", "sync/atomic.LoadUint64", "sync/atomic.StoreUint64", "internal/synctest.Disassociate[sync.WaitGroup]", "sync.runtime_Semrelease", "(*sync.WaitGroup).Done", "(*sync.WaitGroup).Wait", "internal/race.Acquire", "internal/synctest.IsAssociated[sync.WaitGroup]", "sync/atomic.CompareAndSwapUint64", "internal/race.Write", "sync.runtime_SemacquireWaitGroup"], unfollowed := true, recurses := true, named := ["bulkhead/admit.fine", "bulkhead/admit.nowhere", "bulkhead/isa.rows"], plainKeys := false, leaving := true, apart := false, laid := [("bulkhead/isa.rows", laid_bulkhead_isa_rows), ("bulkhead/admit.nowhere", laid_bulkhead_admit_nowhere), ("bulkhead/admit.fine", laid_bulkhead_admit_fine)] }
def CrewRefusesSaid : Prop := crewRefusesRow.holds Tryz.pinned (OpenSpec.ofChange crewRefusesSpec)

/-- ITS FALSE NEIGHBOUR: 'it returns false'. Refute it at one input. -/
def crewRefusesWrong : ChangeSpec := { name := "crewRefuses", fn := fun _ => fun
  | [d1, d2, d3, d4] => { results := [.lit (.bool false)], args := [d1, d2, d3, d4] }
  | _ => none }
def CrewRefusesWrongFalsely : Prop := crewRefusesRow.holds Tryz.pinned (OpenSpec.ofChange crewRefusesWrong)

/- THE SECOND FORM. 'bulk': how many values and letters a reading holds, each counted each time it is reached (what is shared counts as often as it is met; a slice's spare places count too). A statement '..UptoSaid' is the law's where the arguments, and the package variables that the reading takes, are together of bulk at most 1048576: NARROWER than '..Said'. Prove '..Said' where nothing that the law and all that it calls make is longer than what came in: it says more and counts as full. Else prove '..UptoSaid'. A law counts once. -/
mutual
def uptoBulk {H : Type} : DataW H → Nat
  | .lit (.string bytes) => bytes.length + 1
  | .lit _ => 1
  | .nil => 1
  | .ptr d => uptoBulk d + 1
  | .slice elems spare => uptoBulkAll elems + uptoBulkAll spare + 1
  | .agg parts => uptoBulkAll parts + 1
  | .iface _ d => uptoBulk d + 1
  | .map entries => uptoBulkEntries entries + 1
  | .held _ => 1
def uptoBulkAll {H : Type} : List (DataW H) → Nat
  | [] => 0
  | d :: r => uptoBulk d + uptoBulkAll r
def uptoBulkEntries {H : Type} : List (Lit × DataW H) → Nat
  | [] => 0
  | x :: r => uptoBulkEntry x + uptoBulkEntries r
def uptoBulkEntry {H : Type} : Lit × DataW H → Nat
  | (.string bytes, d) => bytes.length + uptoBulk d + 1
  | (_, d) => uptoBulk d + 1
 end
def uptoSmall : (H : Type) → List (DataW H) → Bool := fun _ ds => decide (uptoBulkAll ds ≤ 1048576)
def OpenSpec.upto (s : _root_.Go.ChangeSpec) : _root_.Go.OpenSpec := { _root_.Go.OpenSpec.ofChange s with cond := some uptoSmall }

/-- 'bulkheadlaw30.CrewNone', WHERE WHAT IT READS IS OF BULK AT MOST 1048576: true; the input reads as it did. -/
def crewNoneUptoRow : OpenClaim := { program := "ytjffanafmodhdaagreatdoor", sum := "0a362f59ffd5269c9a7b598eba0b5b7b16c7a5a30b3c2cfcd6607310d0d34226", func := "bulkhead/bulkheadlaw30.CrewNone", spec := "crewNone", inPlace := ["(*sync.WaitGroup).Add", "internal/race.ReleaseMerge", "internal/race.Disable", "internal/race.Enable", "internal/synctest.IsInBubble", "internal/synctest.Associate[sync.WaitGroup]", "sync.fatal", "sync/atomic.OrUint64", "sync/atomic.AddUint64", "internal/race.Read", "sync/atomic.LoadUint64", "sync/atomic.StoreUint64", "internal/synctest.Disassociate[sync.WaitGroup]", "sync.runtime_Semrelease", "(*sync.WaitGroup).Done", "(*sync.WaitGroup).Wait", "internal/race.Acquire", "internal/synctest.IsAssociated[sync.WaitGroup]", "sync/atomic.CompareAndSwapUint64", "internal/race.Write", "sync.runtime_SemacquireWaitGroup"], unfollowed := true, recurses := true, named := ["bulkhead/admit.fine", "bulkhead/admit.nowhere", "bulkhead/isa.rows"], plainKeys := false, leaving := true, apart := false, laid := [("bulkhead/isa.rows", laid_bulkhead_isa_rows), ("bulkhead/admit.nowhere", laid_bulkhead_admit_nowhere), ("bulkhead/admit.fine", laid_bulkhead_admit_fine)], narrowed := true }
def CrewNoneUptoSaid : Prop := crewNoneUptoRow.holds Tryz.pinned (OpenSpec.upto crewNoneSpec)

/-- 'bulkheadlaw30.CrewRefuses', WHERE WHAT IT READS IS OF BULK AT MOST 1048576: true; the input reads as it did. -/
def crewRefusesUptoRow : OpenClaim := { program := "ytjffanafmodhdaagreatdoor", sum := "0a362f59ffd5269c9a7b598eba0b5b7b16c7a5a30b3c2cfcd6607310d0d34226", func := "bulkhead/bulkheadlaw30.CrewRefuses", spec := "crewRefuses", inPlace := ["(*sync.WaitGroup).Add", "internal/race.ReleaseMerge", "internal/race.Disable", "internal/race.Enable", "internal/synctest.IsInBubble", "internal/synctest.Associate[sync.WaitGroup]", "sync.fatal", "sync/atomic.OrUint64", "sync/atomic.AddUint64", "internal/race.Read", "sync/atomic.LoadUint64", "sync/atomic.StoreUint64", "internal/synctest.Disassociate[sync.WaitGroup]", "sync.runtime_Semrelease", "(*sync.WaitGroup).Done", "(*sync.WaitGroup).Wait", "internal/race.Acquire", "internal/synctest.IsAssociated[sync.WaitGroup]", "sync/atomic.CompareAndSwapUint64", "internal/race.Write", "sync.runtime_SemacquireWaitGroup"], unfollowed := true, recurses := true, named := ["bulkhead/admit.fine", "bulkhead/admit.nowhere", "bulkhead/isa.rows"], plainKeys := false, leaving := true, apart := false, laid := [("bulkhead/isa.rows", laid_bulkhead_isa_rows), ("bulkhead/admit.nowhere", laid_bulkhead_admit_nowhere), ("bulkhead/admit.fine", laid_bulkhead_admit_fine)], narrowed := true }
def CrewRefusesUptoSaid : Prop := crewRefusesUptoRow.holds Tryz.pinned (OpenSpec.upto crewRefusesSpec)

end Rows
end Go.Proofs.YtjffanafmodhdaaGreatDoor
