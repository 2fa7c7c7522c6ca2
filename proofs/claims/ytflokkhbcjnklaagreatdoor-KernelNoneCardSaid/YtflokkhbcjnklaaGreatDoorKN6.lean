/-
  Proved here: the card of 'bulkheadlaw26.KernelNone': on every input (there is none), in whatever memory in which the three listed package-level variables read as listed, the call returns true, and all that was there is as it was. No further condition.
-/
import Derived.Test.YtflokkhbcjnklaaGreatDoorKN5
import Derived.Test.YtflokkhbcjnklaaGreatDoorKN6c
import Derived.Test.YtflokkhbcjnklaaGreatDoorKP75
import Derived.Test.YtflokkhbcjnklaaGreatDoorKP78
import Derived.Test.YtflokkhbcjnklaaGreatDoorKP33
import Derived.SevenTiedAt
set_option maxRecDepth 100000
namespace Go.Proofs.YtflokkhbcjnklaaGreatDoor
open Go Go.Ab Go.ChangeShapes Go.WideShapes Go.ChangeAt Go.RowKit

theorem good0 : Go.Ab.Good Tryz.prog Eq DA := alone_good fol fun f fn hf => by
  have := Array.all_eq_true'.1 noNum fn (Array.mem_of_getElem? hf)
  simpa using this

theorem known75 : KnownOk Tryz.prog true Eq DA k75 := Known.ok good0 (l := []) (fun _ h => by cases h) h75
theorem known78 : KnownOk Tryz.prog true Eq DA k78 := Known.ok good0 (l := []) (fun _ h => by cases h) h78
theorem known33 : KnownOk Tryz.prog true Eq DA k33 := Known.ok good0 (l := [k75, k78]) (fun k h => by
  rcases List.mem_cons.1 h with rfl | h
  · exact known75
  · rw [List.mem_singleton.1 h]; exact known78) h33

theorem row_holds : Rows.KernelNoneSaid :=
  OpenClaim.holds_of_wide 3 Tryz.f3 rfl rfl rfl rfl rfl rfl rfl ⟨rfl, rfl, rfl, rfl, rfl⟩ rfl rfl rfl rfl rfl (by kernel_rfl) Tryz.func3 closedFacts
    (of_decide_eq_true (by kernel_rfl)) (by unfold Func.isWrapper; first | (rw [if_pos (by decide +kernel)]; kernel_rfl) | (rw [if_neg (by decide +kernel)]; exact ⟨rfl, rfl⟩))
    (fun os started H enc _ => law_lifted known33 os started H enc)

theorem card_holds : Rows.KernelNoneCardSaid :=
  Claim7.holds_tied_plain_at .later [] [.data, .data, .data] true (true, "e1b158b8baae43719429242ce80c0c2f933b162f630b3233b139c5a0ad72da7d") true
    row_holds (fun _ h => by cases h) (by kernel_rfl) (fun _ h => by cases h) kernelNone_row_tie rfl ⟨rfl, rfl⟩ (by kernel_rfl) rfl
    (fun f fn hf hfn => by
      obtain rfl : f = 3 := Option.some.inj ((show Tryz.prog.funcNamed "bulkhead/bulkheadlaw26.KernelNone" = some 3 by kernel_rfl).symm.trans hf) |>.symm
      obtain rfl : fn = Tryz.f3 := (Option.some.inj (Tryz.func3.symm.trans hfn)).symm
      exact ⟨by kernel_rfl, fun j t ht => by
        rw [Tryz.params3] at ht
        simp at ht⟩)
    (by kernel_rfl)
#print axioms card_holds
end Go.Proofs.YtflokkhbcjnklaaGreatDoor
