/- Own text of this claim: part CC3. -/
import Derived.Test.YtjffanafmodhdaaGreatDoorCC1
import Derived.Test.YtjffanafmodhdaaGreatDoorTie
import Derived.ProofKit
import Derived.ChangeVars
import Derived.JoinedOf
import Derived.LaidLaws
import Derived.Handed
import Derived.Conc.LeavingOf
set_option linter.unusedVariables false
set_option linter.unusedSimpArgs false
set_option linter.unusedSectionVars false
set_option linter.unnecessarySimpa false
set_option maxRecDepth 100000
namespace Go.Proofs.YtjffanafmodhdaaGreatDoor
open Go Go.Ab Go.ChangeShapes Go.WideShapes Go.ChangeAt Go.RowKit

theorem own : ownKnob Tryz.prog.godebug = none := by kernel_rfl

theorem holds0 {W : World} (hS : W.ShapedOpen Tryz.prog) (hl : laidMetH Tryz.prog Rows.crewNoneRow.laid W) : Holds vars0 W := by
  have hl : laidMet Tryz.prog Rows.crewNoneRow.laid W := hl
  have z : ∀ {g n : Nat} {e : TypeId}, (((begin Tryz.prog (fun _ _ => 0) default).world.heap[g]?).bind Obj.row?).map (fun r => (r.1.size, r.2)) = some (n, e) → ∃ zero, ((begin Tryz.prog (fun _ _ => 0) default).world.heap[g]?).bind Obj.row? = some (zero, e) ∧ zero.size = n := by
    intro g n e h
    cases hx : ((begin Tryz.prog (fun _ _ => 0) default).world.heap[g]?).bind Obj.row? with
    | none => rw [hx] at h; cases h
    | some r =>
      rw [hx] at h
      obtain ⟨a, b⟩ := r
      cases h
      exact ⟨a, rfl, rfl⟩
  intro g cs e hg
  match g with
  | 0 =>
    cases hg
    obtain ⟨zero, h1, h2⟩ := z zFine
    exact holds_one hS h1 h2 gFine tFine hl (by simp [Rows.crewNoneRow]) lFine iFine
  | 1 =>
    cases hg
    obtain ⟨zero, h1, h2⟩ := z zNowhere
    exact holds_one hS h1 h2 gNowhere tNowhere hl (by simp [Rows.crewNoneRow]) lNowhere iNowhere
  | 2 =>
    cases hg
    obtain ⟨zero, h1, h2⟩ := z zRows
    exact holds_one hS h1 (by rw [h2, nRows]) gRows tRows hl (by simp [Rows.crewNoneRow]) lRows (by rw [nRows]; exact iRows)
  | n + 3 => cases hg

end Go.Proofs.YtjffanafmodhdaaGreatDoor

