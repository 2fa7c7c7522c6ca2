/-
  Proved here: the card of bulkheadlaw30.CrewNone: on every input (there is none), in whatever memory in which the three listed package-level variables read as listed, on whatever tape, the call returns true, all goroutines that it started only leave, and all that was there is as it was. No further condition.
-/
import Derived.Test.YtjffanafmodhdaaGreatDoorCC5
import Derived.Test.YtjffanafmodhdaaGreatDoorCC6c
import Derived.SevenTiedAt
set_option linter.unusedVariables false
set_option linter.unusedSimpArgs false
set_option linter.unusedSectionVars false
set_option linter.unnecessarySimpa false
/-
  Proved here: the card of 'bulkheadlaw30.CrewNone': on every input (there is none), in whatever memory in which the three listed package-level variables read as listed, the call returns true, and all that was there is as it was. No further condition.
-/
set_option maxRecDepth 100000
namespace Go.Proofs.YtjffanafmodhdaaGreatDoor
open Go Go.Ab Go.ChangeShapes Go.WideShapes Go.ChangeAt Go.RowKit

theorem row_holds : Rows.CrewNoneSaid :=
  OpenClaim.holds_of_wide_leaving 3 Tryz.f3 rfl rfl rfl rfl rfl rfl rfl ⟨rfl, rfl, rfl, rfl, rfl⟩ rfl rfl rfl rfl rfl (by kernel_rfl) Tryz.func3 closedFacts
    (of_decide_eq_true (by kernel_rfl)) (by unfold Func.isWrapper; first | (rw [if_pos (by decide +kernel)]; kernel_rfl) | (rw [if_neg (by decide +kernel)]; exact ⟨rfl, rfl⟩))
    (fun os started H enc _ => law_lifted os started H enc)

theorem sixth_no : Claim7.isSixth { stood := { row := Rows.crewNoneRow, standIns := [], harness := (true, "f852558898b99c2bb52d2112b3d6d3c1790a7945eaf61b6407ddad03dc9da64f"), looks := true }, kinds := [] } = false := by simp [Claim7.isSixth]

theorem card_holds : Rows.CrewNoneCardSaid := by
  refine ⟨Claim7.tied_new_at .later [.data, .data, .data] true (Claim7.new_of_sixth row_holds (true, "f852558898b99c2bb52d2112b3d6d3c1790a7945eaf61b6407ddad03dc9da64f") true rfl ⟨rfl, rfl⟩ (by kernel_rfl) sixth_no ?_) (by kernel_rfl), (fun D hD => by cases hD), crewNone_row_tie, (fun h => by cases h), (by kernel_rfl)⟩
  intro f fn hf hfn
  obtain rfl : f = 3 := Option.some.inj ((show Tryz.prog.funcNamed "bulkhead/bulkheadlaw30.CrewNone" = some 3 by kernel_rfl).symm.trans hf) |>.symm
  obtain rfl : fn = Tryz.f3 := (Option.some.inj (Tryz.func3.symm.trans hfn)).symm
  exact ⟨by kernel_rfl, fun j t ht => by
    rw [Tryz.params3] at ht
    simp at ht⟩
#print axioms card_holds
end Go.Proofs.YtjffanafmodhdaaGreatDoor

