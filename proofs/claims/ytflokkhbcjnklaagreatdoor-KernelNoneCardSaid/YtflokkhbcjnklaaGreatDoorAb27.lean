/-
  Own library, part 27: a call alone: the walk's own form.
-/
import Derived.Test.YtflokkhbcjnklaaGreatDoorAb26
import Derived.Conc.Fork
namespace Go.Ab
open Go.Conc (G Goes)

/-- What is asked of a step of a call alone. -/
abbrev DA (w w' : World) (_ : Array Event) : Prop := Aside w w'

theorem alone_goes {P : Program} {Stop : Goroutine → World → Prop} : ∀ {n : Nat} {a : Goroutine} {w : World}, Goes P true Eq DA Stop n a w →
    ∃ k a' w', runN P k (Conc.solo a w) = .next (Conc.solo a' w') ∧ Stop a' w' ∧ Aside w w' := by
  intro n
  induction n with
  | zero => exact fun {a w} h => ⟨0, a, w, rfl, h w rfl, Aside.refl w⟩
  | succ n ih =>
    intro a w h
    rcases h with h | ⟨hs, h⟩
    · exact ⟨0, a, w, rfl, h w rfl, Aside.refl w⟩
    · obtain ⟨a₁, w₁, es, hgo, hd, hg⟩ := Conc.goes_elim (h w rfl)
      obtain ⟨k, a', w', hrun, hstop, ha⟩ := ih hg
      refine ⟨k + 1, a', w', ?_, hstop, Aside.trans hd ha⟩
      have : Go.step P (Conc.solo a w) = .next (Conc.solo a₁ w₁) := by
        rw [Go.step, (Conc.stepT_solo hs).trans (Conc.runT_solo_go hgo)]
      simp only [runN, this]
      exact hrun

theorem alone_good {P : Program} (hm : P.follows .mixedOrders = true) (hn : ∀ (f : Nat) (fn : Func), P.funcs[f]? = some fn → (fn.name == "runtime.NumGoroutine") = false) : Good P Eq DA :=
  ⟨fun _ _ h => by rw [h], fun _ _ _ h h' => h.trans h', fun _ _ _ h => h, hm, hn⟩

section
variable {P : Program} {R : World → World → Prop} {D : World → World → Array Event → Prop}

theorem call_leaves {main : Bool} (C : Good P R D) {rec : Task → Option Res} (hrec : RecOk P main R D rec) {f : FuncId} {args : List AV} {s s' : St} {v : AV} (h : stepT P rec (.call f args s) = some (.val v s')) :
    s.next ≤ s'.next ∧ ∃ N, ∀ (ρ : Map) (w : World) (args' : Array Value) (cs : List Frame), Rel P ρ s w.heap → Fresh ρ s.next s'.next → VL ρ args args'.toList →
      Goes P main R D (fun g w' => ∃ fr v' ρ', g = G fr cs ∧ fr.fn = f ∧ fr.leaving P w' (.returned v') ∧ Step P ρ s w.heap ρ' s' w'.heap ∧ V ρ' v v') N (G (Frame.enter P f args' .normal) cs) w := by
  unfold stepT at h
  simp only at h
  split at h
  · cases h
  · rename_i fn hfn
    split at h
    · cases h
    · rename_i c hc
      split at h
      · rename_i e fr s1 hr
        have main' : ∀ (hne : e = .normal ∨ e = .ret) (h : ((runDefers rec fr.ds s1).bind fun s2 => (readRes P fr.ts s2 fn.results.toList).bind fun vs => some (Res.val (oneOf vs) s2)) = some (.val v s')),
            s.next ≤ s'.next ∧ ∃ N, ∀ (ρ : Map) (w : World) (args' : Array Value) (cs : List Frame), Rel P ρ s w.heap → Fresh ρ s.next s'.next → VL ρ args args'.toList →
              Goes P main R D (fun g w' => ∃ fr v' ρ', g = G fr cs ∧ fr.fn = f ∧ fr.leaving P w' (.returned v') ∧ Step P ρ s w.heap ρ' s' w'.heap ∧ V ρ' v v') N (G (Frame.enter P f args' .normal) cs) w := by
          intro hne h
          obtain ⟨s2, hd, h1⟩ := bind_some h
          obtain ⟨vs, hv, h2⟩ := bind_some h1
          cases h2
          obtain ⟨n1, N1, hN1⟩ := hrec.1 _ _ _ _ _ _ _ hr
          obtain ⟨n2, N2, hN2⟩ := defers_sound C hrec _ _ _ hd
          refine ⟨Nat.le_trans n1 n2, 0 + (1 + N2) + N1, ?_⟩
          intro ρ w args' cs hR hF ha
          have hframe : Frame.enter P f args' .normal = mk f none .normal (args' ++ Array.replicate (fn.ntmps - args'.size) undef) [] .run [.code c] := by
            simp only [Frame.enter, hfn, Option.map_some, Option.getD_some, Option.bind_some, hc, mk]
          rw [hframe]
          refine hN1 ρ w none .normal _ [] [] cs _ (0 + (1 + N2)) _ (.inl rfl) hR (hF.left n2) ⟨enter_TR ha fn.ntmps, trivial, trivial⟩ (by simp) fun ρ1 w1 t1 d1 S1 F1 => ?_
          have unw : ∀ todo, Goes P main R D (fun g w' => ∃ fr v' ρ', g = G fr cs ∧ fr.fn = f ∧ fr.leaving P w' (.returned v') ∧ Step P ρ s w.heap ρ' s' w'.heap ∧ V ρ' (oneOf vs) v') (0 + N2) (G (mk f none .normal t1 d1 .returning todo) cs) w1 := by
            intro todo
            refine hN2 ρ1 w1 f .normal t1 d1 todo cs _ 0 S1.rel (S1.fresh (c := s'.next) hF) F1.ds fun ρ2 w2 S2 => ?_
            refine Goes.stop fun w₁ hw₁ => ?_
            have hw₁ := C.heap _ _ hw₁
            have hR2 : Rel P ρ2 s' w₁.heap := by rw [hw₁]; exact S2.rel
            obtain ⟨v', h3, h4⟩ := results_sound hR2 (F1.tr.mono S2.le) hv
            refine ⟨_, v', ρ2, rfl, rfl, ⟨rfl, rfl, rfl, fn, hfn, h3⟩, ?_, h4⟩
            rw [hw₁]
            exact S1.trans S2
          have eq : 0 + (1 + N2) = (0 + N2) + 1 := by omega
          rw [eq]
          rcases hne with rfl | rfl
          · exact C.idle rfl (fun w₁ => st_end) (unw [])
          · intro k'
            exact C.idle rfl (fun w₁ => st_ret) (unw _)
        cases e with
        | normal => exact main' (.inl rfl) h
        | ret => exact main' (.inr rfl) h
        | exit i => cases h
      · cases h

/-- A call alone, by the evaluator. -/
theorem calls_of (hm : P.follows .mixedOrders = true) (hn : ∀ (f : Nat) (fn : Func), P.funcs[f]? = some fn → (fn.name == "runtime.NumGoroutine") = false)
    {l : List Known} (hl : ∀ k ∈ l, KnownOk P true Eq DA k) {n : Nat} {f : FuncId} {args : List AV} {s s' : St} {v : AV} (h : stepF P (runO P l n) (.call f args s) = some (.val v s'))
    {ρ : Map} {w : World} {args' : Array Value} (hR : Rel P ρ s w.heap) (hF : ∀ id, s.next ≤ id → ρ id = none) (ha : VL ρ args args'.toList) :
    Calls P f args' w fun e w' => ∃ v' ρ', e = .returned v' ∧ Step P ρ s w.heap ρ' s' w'.heap ∧ V ρ' v v' ∧ Aside w w' := by
  have C := alone_good (P := P) hm hn
  rw [stepF_eq] at h
  obtain ⟨_, N, hN⟩ := call_leaves C (runO_sound C hl n) h
  intro cs
  obtain ⟨k, a', w', hrun, ⟨fr, v', ρ', rfl, hfn, hlv, hS, hv⟩, hA⟩ := alone_goes (hN ρ w args' cs hR (fun id h1 _ => hF id h1) ha)
  exact ⟨.returned v', w', fr, ⟨v', ρ', rfl, hS, hv, hA⟩, ⟨k, hrun⟩, hfn, hlv⟩

end
end Go.Ab
