/- Own text of this claim: part CC4. -/
import Derived.Test.YtjffanafmodhdaaGreatDoorCC3
import Derived.Test.YtjffanafmodhdaaGreatDoorCW
import Derived.Test.YtjffanafmodhdaaGreatDoorCKP0
import Derived.Test.YtjffanafmodhdaaGreatDoorCKP1
import Derived.Test.YtjffanafmodhdaaGreatDoorCKP2
set_option linter.unusedVariables false
set_option linter.unusedSimpArgs false
set_option linter.unusedSectionVars false
set_option linter.unnecessarySimpa false
set_option maxRecDepth 100000
namespace Go.Proofs.YtjffanafmodhdaaGreatDoor
open Go Go.Ab Go.Conc Go.ChangeShapes Go.WideShapes Go.ChangeAt Go.RowKit

theorem good0 : Go.Ab.Good Tryz.prog := ⟨fol, fun f fn hf => by
  have := Array.all_eq_true'.1 noNum fn (Array.mem_of_getElem? hf)
  simpa using this⟩

theorem known0 (main : Bool) : KnownOk Tryz.prog main ck0 := Known.okS good0 (l := []) (fun _ h => by cases h) ch0
theorem known1 (main : Bool) : KnownOk Tryz.prog main ck1 := Known.okS good0 (l := []) (fun _ h => by cases h) ch1
theorem known2 (main : Bool) : KnownOk Tryz.prog main ck2 := Known.okS good0 (l := [ck0, ck1]) (fun k h => by
  rcases List.mem_cons.1 h with rfl | h
  · exact known0 main
  · rw [List.mem_singleton.1 h]; exact known1 main) ch2

/-- What the kernel ran, as a fact on every call. -/
theorem law_of {W : World} (h : Holds vars0 W) (x : Option (AV × St)) (hx : wholeO Tryz.prog ccLink (runO Tryz.prog [ck2] 20000) ccU ccHasU ccPlan (startA vars0) = x) (hr : okWhole vars0 x (startA vars0) = true) :
    Go.Ab.Ends Tryz.prog (solo (G (Frame.enter Tryz.prog 3 #[] .normal) []) W) #[] fun v W' => v = .bool true ∧ ∀ may, W.keptBut W' may := by
  unfold okWhole at hr
  split at hr
  · rename_i s
    have hrec : ∀ main, RecOk Tryz.prog main (runO Tryz.prog [ck2] 20000) := fun main => runO_sound good0 (by intro k hk; rw [List.mem_singleton.1 hk]; exact known2 main) 20000
    have hsz : vars0.length = Tryz.prog.globals.size := by kernel_rfl
    obtain ⟨N, last, o, w', t', h1, h2, h3, h4⟩ := wholeO_sound ccLib good0 (hrec true) (hrec false) hx (start_rel (P := Tryz.prog) hsz h) start_free
    refine ⟨N, last, o, w', t', h1, h2, h3, h4.mono fun v hp => ?_⟩
    obtain ⟨hS, ρ, F, hR, hv⟩ := hp
    cases hv
    refine ⟨rfl, fun may => kept_of hsz h (by intro r hr; exact List.all_eq_true.1 (show (vars0.all fun r => scalarsSame r.1 r.1) = true by kernel_rfl) r hr) hS hR (fun g r hg => ?_) may⟩
    have hlt : g < vars0.length := by
      rcases Nat.lt_or_ge g vars0.length with h | h
      · exact h
      · rw [List.getElem?_eq_none h] at hg; cases hg
    have := optSame_eq _ _ (List.all_eq_true.1 hr g (List.mem_range.2 hlt))
    rw [this, startA_get, hg]
    rfl
  · cases hr

theorem law_any {W : World} (h : Holds vars0 W) : Go.Ab.Ends Tryz.prog (solo (G (Frame.enter Tryz.prog 3 #[] .normal) []) W) #[] fun v W' => v = .bool true ∧ ∀ may, W.keptBut W' may := law_of h _ rfl okCC_true

end Go.Proofs.YtjffanafmodhdaaGreatDoor

