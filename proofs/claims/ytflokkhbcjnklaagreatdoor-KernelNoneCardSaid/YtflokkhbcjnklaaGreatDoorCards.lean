/-
  DERIVED. GIVEN WITH THE SEED: THE CARDS: each row of YtflokkhbcjnklaaGreatDoorRows.lean that lists a variable, with what it lists TIED to the program's text (the seventh form; the later family's looks); each row that meets fmt, with fmt's text TOLD by the authors' own Lean function (tested against real Go, not proved from fmt's source: count such statements apart). THE CARD IS WHAT COUNTS. Prove the row's statement (the work); the ties are given (YtflokkhbcjnklaaGreatDoorTie.lean); close each card by the builder's one call (the guide's Derived/Test/ToyasCard.lean, 'card_holds'). Laid BY PROGRAM, IN A SANDBOX (cutbox-door.mjs). By AI agents, Wed Nov 11 2026. No macro, syntax, notation, axiom, sorry.
-/
import Derived.Test.YtflokkhbcjnklaaGreatDoorRows
import GoSem.ClaimSeven
namespace Go.Proofs.YtflokkhbcjnklaaGreatDoor
namespace Rows

/-- THE TIED CARD OF 'bulkheadlaw26.KernelNone'. -/
def kernelNoneCard : Claim7 := { stood := { row := kernelNoneRow, standIns := [], harness := (true, "e1b158b8baae43719429242ce80c0c2f933b162f630b3233b139c5a0ad72da7d"), looks := true }, kinds := [], alts := [], laidByText := true, laidKinds := [.data, .data, .data], laidTests := true, laidLooks := .later }
def KernelNoneCardSaid : Prop := Claim7.holds Tryz.pinned (.plain (OpenSpec.ofChange kernelNoneSpec)) kernelNoneCard

/-- THE SECOND FORM's CARD OF 'bulkheadlaw26.KernelNone'. -/
def kernelNoneUptoCard : Claim7 := { stood := { row := kernelNoneUptoRow, standIns := [], harness := (true, "e1b158b8baae43719429242ce80c0c2f933b162f630b3233b139c5a0ad72da7d"), looks := true }, kinds := [], alts := [], laidByText := true, laidKinds := [.data, .data, .data], laidTests := true, laidLooks := .later }
def KernelNoneUptoCardSaid : Prop := Claim7.holds Tryz.pinned (.plain (OpenSpec.upto kernelNoneSpec)) kernelNoneUptoCard
end Rows
end Go.Proofs.YtflokkhbcjnklaaGreatDoor
