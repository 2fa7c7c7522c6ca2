/- Own text of this claim: part KN4. -/
import Derived.Test.YtflokkhbcjnklaaGreatDoorKN3
import Derived.Test.YtflokkhbcjnklaaGreatDoorKN2
set_option maxRecDepth 100000
namespace Go.Proofs.YtflokkhbcjnklaaGreatDoor
open Go Go.Ab Go.ChangeShapes Go.WideShapes Go.ChangeAt Go.RowKit

/-- What the kernel ran, as a fact on every call. -/
theorem law_of (hl : KnownOk Tryz.prog true Eq DA k33) {W : World} (h : Holds vars0 W) (x : Option Res) (hx : stepF Tryz.prog (runO Tryz.prog [k33] 20000) (.call 3 [] (startA vars0)) = x) (hr : isDone x = true) :
    Calls Tryz.prog 3 #[] W fun e W' => e = .returned (.bool true) ∧ ∀ may, W.keptBut W' may := by
  have hn : ∀ (f : Nat) (fn : Func), Tryz.prog.funcs[f]? = some fn → (fn.name == "runtime.NumGoroutine") = false := by
    intro f fn hf
    have := Array.all_eq_true'.1 noNum fn (Array.mem_of_getElem? hf)
    simpa using this
  unfold isDone at hr
  split at hr
  · rename_i b s
    simp only [Bool.and_eq_true] at hr
    obtain ⟨rfl, he⟩ := hr
    have hend : ∀ (l : List (List AV × TypeId)) (k : Nat), endOk s k l = true → ∀ (g : Nat) (r : List AV × TypeId), l[g]? = some r → s.get (k + g) = some (.cells r.1 r.2) := by
      intro l
      induction l with
      | nil => intro k _ g r hg; cases hg
      | cons a l ih =>
        intro k h g r hg
        simp only [endOk, Bool.and_eq_true] at h
        cases g with
        | zero => cases hg; exact optSame_eq _ _ h.1
        | succ g =>
          have := ih (k + 1) h.2 g r (by simpa using hg)
          rw [← this]
          congr 1
          omega
    have hc := calls_of (P := Tryz.prog) fol hn (l := [k33]) (by intro k hk; rw [List.mem_singleton.1 hk]; exact hl) hx (start_rel (P := Tryz.prog) (by kernel_rfl) h) start_free (args' := #[]) .nil
    refine hc.mono fun e W' ⟨v', ρ', he', hS, hv, hA⟩ => ?_
    cases hv
    refine ⟨he', fun may => kept_of h (by intro r hr; exact List.all_eq_true.1 (show (vars0.all fun r => scalarsSame r.1 r.1) = true by kernel_rfl) r hr) hS hA (fun g r hg => ?_) may⟩
    have := hend vars0 0 he g r hg
    rwa [Nat.zero_add] at this
  · cases hr

theorem law_any (hl : KnownOk Tryz.prog true Eq DA k33) {W : World} (h : Holds vars0 W) :
    Calls Tryz.prog 3 #[] W fun e W' => e = .returned (.bool true) ∧ ∀ may, W.keptBut W' may := law_of hl h _ rfl run0

end Go.Proofs.YtflokkhbcjnklaaGreatDoor
