/-
  DERIVED. GIVEN WITH THE SEED: THE CARDS: each row of YtjffanafmodhdaaGreatDoorRows.lean that lists a variable, with what it lists TIED to the program's text (the seventh form; the later family's looks); each row that meets fmt, with fmt's text TOLD by the authors' own Lean function (tested against real Go, not proved from fmt's source: count such statements apart). THE CARD IS WHAT COUNTS. Prove the row's statement (the work); the ties are given (YtjffanafmodhdaaGreatDoorTie.lean); close each card by the builder's one call (the guide's Derived/Test/ToyasCard.lean, 'card_holds'). Laid BY PROGRAM, IN A SANDBOX (cutbox-door.mjs). By AI agents, Wed Nov 11 2026. No macro, syntax, notation, axiom, sorry.
-/
import Derived.Test.YtjffanafmodhdaaGreatDoorRows
import GoSem.ClaimSeven
namespace Go.Proofs.YtjffanafmodhdaaGreatDoor
namespace Rows

/-- THE TIED CARD OF 'bulkheadlaw30.CrewNone'. -/
def crewNoneCard : Claim7 := { stood := { row := crewNoneRow, standIns := [], harness := (true, "f852558898b99c2bb52d2112b3d6d3c1790a7945eaf61b6407ddad03dc9da64f"), looks := true }, kinds := [], alts := [], goes := true, laidByText := true, laidKinds := [.data, .data, .data], laidTests := true, laidLooks := .later }
def CrewNoneCardSaid : Prop := Claim7.holds Tryz.pinned (.plain (OpenSpec.ofChange crewNoneSpec)) crewNoneCard

/-- THE TIED CARD OF 'bulkheadlaw30.CrewRefuses'. -/
def crewRefusesCard : Claim7 := { stood := { row := crewRefusesRow, standIns := [], harness := (true, "f852558898b99c2bb52d2112b3d6d3c1790a7945eaf61b6407ddad03dc9da64f"), looks := true }, kinds := [], alts := [], goes := true, laidByText := true, laidKinds := [.data, .data, .data], laidTests := true, laidLooks := .later }
def CrewRefusesCardSaid : Prop := Claim7.holds Tryz.pinned (.plain (OpenSpec.ofChange crewRefusesSpec)) crewRefusesCard

/-- THE SECOND FORM's CARD OF 'bulkheadlaw30.CrewNone'. -/
def crewNoneUptoCard : Claim7 := { stood := { row := crewNoneUptoRow, standIns := [], harness := (true, "f852558898b99c2bb52d2112b3d6d3c1790a7945eaf61b6407ddad03dc9da64f"), looks := true }, kinds := [], alts := [], goes := true, laidByText := true, laidKinds := [.data, .data, .data], laidTests := true, laidLooks := .later }
def CrewNoneUptoCardSaid : Prop := Claim7.holds Tryz.pinned (.plain (OpenSpec.upto crewNoneSpec)) crewNoneUptoCard

/-- THE SECOND FORM's CARD OF 'bulkheadlaw30.CrewRefuses'. -/
def crewRefusesUptoCard : Claim7 := { stood := { row := crewRefusesUptoRow, standIns := [], harness := (true, "f852558898b99c2bb52d2112b3d6d3c1790a7945eaf61b6407ddad03dc9da64f"), looks := true }, kinds := [], alts := [], goes := true, laidByText := true, laidKinds := [.data, .data, .data], laidTests := true, laidLooks := .later }
def CrewRefusesUptoCardSaid : Prop := Claim7.holds Tryz.pinned (.plain (OpenSpec.upto crewRefusesSpec)) crewRefusesUptoCard
end Rows
end Go.Proofs.YtjffanafmodhdaaGreatDoor
