/- Own text of this claim: part KN3. -/
import Derived.Test.YtflokkhbcjnklaaGreatDoorKN1
import Derived.Test.YtflokkhbcjnklaaGreatDoorTie
import Derived.ProofKit
import Derived.ChangeVars
import Derived.JoinedOf
import Derived.LaidLaws
import Derived.Handed
set_option maxRecDepth 100000
namespace Go.Proofs.YtflokkhbcjnklaaGreatDoor
open Go Go.Ab Go.ChangeShapes Go.WideShapes Go.ChangeAt Go.RowKit

theorem own : ownKnob Tryz.prog.godebug = none := by kernel_rfl

theorem holds0 {W : World} (hS : W.ShapedOpen Tryz.prog) (hl : laidMetH Tryz.prog Rows.kernelNoneRow.laid W) : Holds vars0 W := by
  have hl : laidMet Tryz.prog Rows.kernelNoneRow.laid W := hl
  have z : ∀ {g n : Nat} {e : TypeId}, (((begin Tryz.prog (fun _ _ => 0) default).world.heap[g]?).bind Obj.row?).map (fun r => (r.1.size, r.2)) = some (n, e) → ∃ zero, ((begin Tryz.prog (fun _ _ => 0) default).world.heap[g]?).bind Obj.row? = some (zero, e) ∧ zero.size = n := by
    intro g n e h
    cases hx : ((begin Tryz.prog (fun _ _ => 0) default).world.heap[g]?).bind Obj.row? with
    | none => rw [hx] at h; cases h
    | some r =>
      rw [hx] at h
      obtain ⟨a, b⟩ := r
      cases h
      exact ⟨a, rfl, rfl⟩
  intro g cs e hg
  match g with
  | 0 =>
    cases hg
    obtain ⟨zero, h1, h2⟩ := z zFine
    exact holds_one hS h1 h2 gFine tFine hl (by simp [Rows.kernelNoneRow]) lFine iFine
  | 1 =>
    cases hg
    obtain ⟨zero, h1, h2⟩ := z zNowhere
    exact holds_one hS h1 h2 gNowhere tNowhere hl (by simp [Rows.kernelNoneRow]) lNowhere iNowhere
  | 2 =>
    cases hg
    obtain ⟨zero, h1, h2⟩ := z zRows
    exact holds_one hS h1 (by rw [h2, nRows]) gRows tRows hl (by simp [Rows.kernelNoneRow]) lRows (by rw [nRows]; exact iRows)
  | n + 3 => cases hg

end Go.Proofs.YtflokkhbcjnklaaGreatDoor
