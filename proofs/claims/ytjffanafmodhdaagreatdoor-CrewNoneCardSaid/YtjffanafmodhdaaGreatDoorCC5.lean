/- Own text of this claim: part CC5. -/
import Derived.Test.YtjffanafmodhdaaGreatDoorCC4
import Derived.Test.YtjffanafmodhdaaGreatDoorCards
set_option linter.unusedVariables false
set_option linter.unusedSimpArgs false
set_option linter.unusedSectionVars false
set_option linter.unnecessarySimpa false
set_option maxRecDepth 100000
namespace Go.Proofs.YtjffanafmodhdaaGreatDoor
open Go Go.Ab Go.Conc Go.ChangeShapes Go.WideShapes Go.ChangeAt Go.RowKit

noncomputable def layC (cs : Array Value) : Obj → Obj
  | .cells _ t fz => .cells cs t fz
  | o => o
noncomputable def laidWorld (os : Os) : World :=
  let w0 := World.holding Tryz.prog os ⟨#[], #[], []⟩
  { w0 with heap := ((w0.heap.modify 0 (layC ((leaves Tryz.prog 5 294 Rows.laid_bulkhead_admit_fine 0).map (·.2)).toArray)).modify 1 (layC ((leaves Tryz.prog 5 213 Rows.laid_bulkhead_admit_nowhere 0).map (·.2)).toArray)).modify 2 (layC ((leaves Tryz.prog 5 425 Rows.laid_bulkhead_isa_rows 0).map (·.2)).toArray) }
theorem laidWorld_met (os : Os) (args : Array Value) : laidMetH Tryz.prog Rows.crewNoneRow.laid ((laidWorld os).forCall (fun _ _ => 0) ⟨#[], args, []⟩).memory := by
  show laidMet Tryz.prog Rows.crewNoneRow.laid ((laidWorld os).forCall (fun _ _ => 0) ⟨#[], args, []⟩).memory
  exact laidMet_of_run' 8 (by kernel_rfl) (by kernel_rfl)

theorem law_lifted (os : Os) (started : os.Started) (H : Type) (enc : TypeId × Value → H) :
    ReturnsInLeavingWide {} Tryz.checked os 3 .any (fun w args => (Rows.crewNoneSpec.pre enc Tryz.prog Tryz.f3 [] false w args ∧ laidMetH Tryz.prog Rows.crewNoneRow.laid w) ∧ sizedMet enc Tryz.prog Tryz.f3 (OpenSpec.ofChange Rows.crewNoneSpec) false w args)
      (Rows.crewNoneSpec.post enc Tryz.prog Tryz.f3 false true false false) := by
  refine returnsInLeavingWide_of_good (C := Tryz.checked) own started
    (ChangeSpec.witness_at (enc := enc) (C := Tryz.checked) (os := os) (X := fun w _ => laidMetH Tryz.prog Rows.crewNoneRow.laid w) false (laidWorld os) #[] 8 rfl (by kernel_rfl) (by kernel_rfl) (by kernel_rfl) (by kernel_rfl) (by kernel_rfl) (laidWorld_met os _)) ?_
  intro w tape i _ hsh _ _ hpre _
  obtain ⟨⟨⟨ds, gs, before, hW, _⟩, hl⟩, _⟩ := hpre
  have hW := DataW.Whole.of_heap (w' := w.forCall tape i) (by rfl) hW
  have hl' : laidMetH Tryz.prog Rows.crewNoneRow.laid (w.forCall tape i) := laidMetH.of_heap (w := (w.forCall tape i).memory) (by rfl) hl
  have hargs : i.args = #[] := by
    obtain ⟨p, q, hA, _⟩ := hW
    have hA : DataW.TrodAll enc Tryz.prog (w.forCall tape i) 0 (fun _ => true) true Tryz.f3.params.toList i.args.toList ds p := hA
    rw [Tryz.params3] at hA
    cases ha : i.args.toList with
    | nil => simpa using ha
    | cons v vs => rw [ha] at hA; cases ds <;> exact hA.elim
  have hds : ds = [] ∧ gs = [] := by
    obtain ⟨p, q, hA, hV, _⟩ := hW
    have hA : DataW.TrodAll enc Tryz.prog (w.forCall tape i) 0 (fun _ => true) true Tryz.f3.params.toList i.args.toList ds p := hA
    have hV : DataW.TrodVars enc Tryz.prog (w.forCall tape i) (fun _ => true) [] gs q := hV
    rw [Tryz.params3, hargs] at hA
    constructor
    · cases ds with
      | nil => rfl
      | cons d r => exact hA.elim
    · cases gs with
      | nil => rfl
      | cons g r => exact hV.elim
  obtain ⟨rfl, rfl⟩ := hds
  rw [hargs] at hW ⊢
  obtain ⟨N, last, o, w', t', r1, r2, r3, r4⟩ := law_any (holds0 hsh hl')
  refine ⟨N, last, o, w', t', r1, r2, r3, r4.mono fun v hp => ?_⟩
  obtain ⟨rfl, hkept⟩ := hp
  refine ChangeSpec.post_blind ⟨[], [], before, [], [], [], hW, ?_, ?_, ?_, hkept _, fun h => by cases h⟩
  · exact trodAll_mk1 (shut_bool Tryz.underlying4 true)
  · exact rfl
  · exact rfl

end Go.Proofs.YtjffanafmodhdaaGreatDoor

