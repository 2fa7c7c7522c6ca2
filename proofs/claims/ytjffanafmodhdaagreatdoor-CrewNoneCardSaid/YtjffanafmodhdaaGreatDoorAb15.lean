/- Own text of this claim: part Ab15. -/
import Derived.Test.YtjffanafmodhdaaGreatDoorAb14
set_option linter.unusedVariables false
set_option linter.unusedSimpArgs false
set_option linter.unusedSectionVars false
set_option linter.unnecessarySimpa false
/-
  Own library, part 15: function values are called; rounds of a range over a function.
-/
namespace Go.Ab
open Go.Conc (G)

section
variable {A : Nat → Prop} {P : Program} {main : Bool}

/-- A round is left. -/
theorem st_leave {fn : FuncId} {b : Nat} {kind : CallKind} {tmps : Array Value} {defers : List Deferred} {caller : Frame} {cs : List Frame} {w w' : World} {v : Value} {todo : List Item} {jump : Option Code} (hk : KindOk kind caller)
    (ht : (todo = [] ∧ jump = none) ∨ (∃ k, todo = .code .ret :: k ∧ jump = some .ret) ∨ (∃ i k, todo = .code (.exit i) :: k ∧ exitTo i k = none ∧ jump = some (.exit i)))
    (h : (Instr.endRound b jump).runL A P w = .ok v w') :
    ∃ es, stepG P main (G (mk fn (some b) kind tmps defers .run todo) (caller :: cs)) w = .go (G (back kind caller v) cs) w' es ∧ EvAll A w' es := by
  have hret : ∀ (fr : Frame) (w : World), fr.kind = kind → doReturn P main fr (caller :: cs) none v w = .go (G (back kind caller v) cs) w #[] := by
    intro fr w e
    unfold doReturn
    rcases hk with rfl | ⟨rfl, hm⟩
    · simp only [e]; rfl
    · simp only [e, hm]; rfl
  rcases ht with ⟨rfl, rfl⟩ | ⟨k, rfl, rfl⟩ | ⟨i, k, rfl, hx, rfl⟩
  · simp only [stepG, G, mk, stepG.exec, Sem.runT_eq, runL_run h]
    rw [hret _ _ rfl]
    exact ⟨_, rfl, (ev_seen h).append EvAll.nil⟩
  · simp only [stepG, G, mk, stepG.exec, Sem.runT_eq, runL_run h]
    rw [hret _ _ rfl]
    exact ⟨_, rfl, (ev_seen h).append EvAll.nil⟩
  · simp only [stepG, G, mk, stepG.exec, hx, Option.elim, Sem.runT_eq, runL_run h]
    rw [hret _ _ rfl]
    exact ⟨_, rfl, (ev_seen h).append EvAll.nil⟩

/-- The begin of a round's body. -/
theorem st_begin {fn : FuncId} {b : Nat} {kind : CallKind} {tmps : Array Value} {defers : List Deferred} {cs : List Frame} {w w' : World} {k : List Item} (h : (Instr.beginRound b).runL A P w = .ok () w') :
    ∃ es, stepG P main (G (mk fn (some b) kind tmps defers .run (.beginRound :: k)) cs) w = .go (G (mk fn (some b) kind tmps defers .run k) cs) w' es ∧ EvAll A w' es := by
  have h1 : (do (some b : Option Nat).elim (stuck "beginRound: no round") Instr.beginRound; pure .skip : Sem Next).runL A P w = .ok .skip w' := by
    simp only [Option.elim, runL_bind, h, Result.andThen_ok, runL_pure]
  obtain ⟨es, e, he⟩ := ap_skip (cs := cs) (fr := mk fn (some b) kind tmps defers .run (.beginRound :: k)) h1
  refine ⟨es, ?_, he⟩
  have : stepG P main (G (mk fn (some b) kind tmps defers .run (.beginRound :: k)) cs) w = stepG.apply P true (mk fn (some b) kind tmps defers .run (.beginRound :: k)) cs none (do (some b : Option Nat).elim (stuck "beginRound: no round") Instr.beginRound; pure .skip) w := by
    simp only [stepG, G, mk, stepG.exec]
  rw [this, e]
  rfl

theorem loop_get {ρ : Map} {s : St} {w : World} (hR : Rel A P ρ s w.heap) {l : Nat} {r : ALoop} {pl : Pl} (hg : s.get l = some (.loop r)) (hl : ρ l = some pl) : ∃ r', w.heap[pl.b]? = some (.loop r') ∧ LRel ρ r r' ∧ (Instr.getLoop pl.b).runL A P w = .ok r' w := by
  obtain ⟨l', hl', r', h1, h2⟩ := hR.obj _ _ hg
  rw [hl] at hl'; cases hl'
  refine ⟨r', h1, h2, ?_⟩
  unfold Instr.getLoop
  have : (getObj pl.b).runL A P w = .ok (.loop r') w := runL_getObj w h1 (hR.own _ _ (by rw [hg]; rfl) hl) rfl
  simp only [runL_bind, this, Result.andThen_ok, runL_pure]

theorem loop_set {ρ : Map} {s : St} {w : World} (hR : Rel A P ρ s w.heap) {l : Nat} {r r₂ : ALoop} {r' r₂' : Loop} {pl : Pl} (hg : s.get l = some (.loop r)) (hl : ρ l = some pl) (h1 : w.heap[pl.b]? = some (.loop r')) (h2 : LRel ρ r₂ r₂') :
    ∃ w', (setObj pl.b (.loop r₂')).runL A P w = .ok () w' ∧ Step A P ρ s w.heap ρ (s.set l (.loop r₂)) w'.heap ∧ Aside w w' := by
  have hlt : pl.b < w.heap.size := by
    rcases Nat.lt_or_ge pl.b w.heap.size with h | h
    · exact h
    · rw [Array.getElem?_eq_none h] at h1; cases h1
  refine ⟨_, setObj_run h1 (hR.own _ _ (by rw [hg]; rfl) hl) rfl rfl, Step.set hR hg hl (by simp) (fun B hB => ?_) ⟨r₂', ?_, h2⟩, Aside.set h1 (fun _ _ _ h => by cases h)⟩
  · exact Array.getElem?_setIfInBounds_ne (fun e => hB e.symm)
  · exact Array.getElem?_setIfInBounds_self_of_lt hlt

/-- The variables of a round. -/
theorem params_TR {ρ : Map} {nt : Nat} : ∀ (ps : List Tmp) (args : List AV) (args' : List Value) (ts : T AV) (tmps : Array Value), VL ρ args args' → TR ρ ts nt tmps →
    TR ρ ((ps.zip args).foldl (fun ts (p : Tmp × AV) => bif Nat.blt p.1 nt then ts.put p.1 (some p.2) else ts) ts) nt ((ps.zip args').foldl (fun tmps (p : Tmp × Value) => tmps.setIfInBounds p.1 p.2) tmps)
  | [], _, _, ts, tmps, _, h => by simpa using h
  | _ :: _, [], [], ts, tmps, .nil, h => by simpa using h
  | p :: ps, a :: as, a' :: as', ts, tmps, .cons hv hs, h => by
    simp only [List.zip_cons_cons, List.foldl_cons]
    refine params_TR ps as as' _ _ hs ?_
    by_cases hp : p < nt
    · rw [show Nat.blt p nt = true from by rw [Nat.blt_eq]; exact hp]
      exact h.put hp hv
    · rw [show Nat.blt p nt = false from by
        cases hb : Nat.blt p nt with
        | false => rfl
        | true => rw [Nat.blt_eq] at hb; exact absurd hb hp]
      have : tmps.setIfInBounds p a' = tmps := Array.setIfInBounds_eq_of_size_le (by rw [h.size]; exact Nat.le_of_not_lt hp)
      rw [this]
      exact h

theorem inv_sound (C : Good P) {rec : Task → Option Res} (hrec : RecOk P main rec) {fn : Fn} {captured args : List AV} {s s' : St} {v : AV} (h : invA rec fn captured args s = some (v, s')) :
    s.next ≤ s'.next ∧ ∃ N, InvSem P main fn captured args s v s' N := by
  unfold invA at h
  split at h
  · -- a function
    rename_i f
    split at h
    · rename_i v₀ s₀ hr
      cases h
      obtain ⟨⟨fnc, c, hfn, hb⟩, hn, N, hN⟩ := hrec.2 _ _ _ _ _ hr
      refine ⟨hn, N, ?_⟩
      intro ρ w fn' captured' args' hR hF hfn' hc ha
      cases hfn'
      refine ⟨.enter f (args' ++ captured'), ?_, trivial, ?_⟩
      · simp only [invoke, callFunc, runL_bind, runL_program, Result.andThen_ok, hfn, C.names f fnc hfn, Bool.false_eq_true, if_false, hb, Option.isNone_some, runL_pure]
      · intro kind caller cs Stop m hk hK
        exact hN ρ w (args' ++ captured') kind caller cs Stop m hR hF (by rw [Array.toList_append]; exact ha.append hc) hk hK
    · cases h
  · -- a round
    rename_i l
    split at h
    · rename_i r hg
      obtain ⟨hq, h_⟩ := bif_some h; clear h; have h := h_; clear h_
      simp only [Bool.and_eq_true] at hq
      obtain ⟨hlen, hst⟩ := hq
      have hlen := of_beqT hlen
      have hst : r.state = .ready := by
        revert hst
        cases r.state <;> simp
      simp only at h
      split at h
      · rename_i fr1 s1 hr1
        split at h
        · rename_i r1 hg1
          split at h
          · rename_i hst1
            split at h
            · rename_i e fr' s3 hr3
              split at h
              · rename_i r3 hg3 hds
                obtain ⟨n1, N1, hN1⟩ := hrec.1 _ _ _ _ _ _ _ hr1
                obtain ⟨n3, N3, hN3⟩ := hrec.1 _ _ _ _ _ _ _ hr3
                have n3 : s1.next ≤ s3.next := n3
                have fin : s'.next = s3.next ∧ ∃ b j st, v = .bool b ∧ s' = s3.set l (.loop { r3 with state := st, pending := j }) ∧ ((e = .normal ∧ b = true ∧ j = none ∧ st = .ready) ∨ (∃ i, e = .exit i ∧ b = false ∧ j = some (.exit i) ∧ st = .done) ∨ (e = .ret ∧ b = false ∧ j = some .ret ∧ st = .done)) := by
                  split at h <;> cases h
                  · exact ⟨rfl, _, _, _, rfl, rfl, .inl ⟨rfl, rfl, rfl, rfl⟩⟩
                  · exact ⟨rfl, _, _, _, rfl, rfl, .inr (.inl ⟨_, rfl, rfl, rfl, rfl⟩)⟩
                  · exact ⟨rfl, _, _, _, rfl, rfl, .inr (.inr ⟨rfl, rfl, rfl, rfl⟩)⟩
                obtain ⟨hnx, b, j, st, rfl, hs', hcase⟩ := fin
                refine ⟨by rw [hnx]; omega, N1 + (N3 + 1) + 1, ?_⟩
                intro ρ w fn' captured' args' hR hF hfn' hc ha
                cases hfn'; rename_i pl hl
                obtain ⟨r', o1, o2, o3⟩ := loop_get hR hg hl
                have hsz : args'.size = r'.params.size := by
                  rw [← VL_size ha, hlen, ← o2.params]; simp
                have hfold : (r'.params.zip args').foldl (fun tmps (x : Tmp × Value) => match x with | (t, a) => tmps.setIfInBounds t a) r'.tmps = (r.params.zip args'.toList).foldl (fun tmps (p : Tmp × Value) => tmps.setIfInBounds p.1 p.2) r'.tmps := by
                  rw [← Array.foldl_toList, Array.toList_zip, o2.params]
                refine ⟨.round pl.b r'.fn ((r'.params.zip args').foldl (fun tmps (x : Tmp × Value) => match x with | (t, a) => tmps.setIfInBounds t a) r'.tmps) r'.assign r'.body, ?_, trivial, ?_⟩
                · simp only [invoke, Instr.yield, runL_bind, o3, Result.andThen_ok]
                  rw [if_neg (by simp [hsz])]
                  rfl
                · intro kind caller cs Stop m hk hK
                  rw [hfold]
                  have htr := params_TR r.params args args'.toList r.ts r'.tmps ha o2.tmps
                  have hkind : kind ≠ .early := by rcases hk with rfl | ⟨rfl, _⟩ <;> simp
                  have hframe : frameOf P (.round pl.b r'.fn ((r.params.zip args'.toList).foldl (fun tmps (p : Tmp × Value) => tmps.setIfInBounds p.1 p.2) r'.tmps) r'.assign r'.body) kind =
                      mk r.fn (some pl.b) kind ((r.params.zip args'.toList).foldl (fun tmps (p : Tmp × Value) => tmps.setIfInBounds p.1 p.2) r'.tmps) [] .run [.code r.assign, .beginRound, .code r.body] := by
                    simp only [frameOf, Frame.round, mk, o2.fn, o2.assign, o2.body]
                  rw [hframe]
                  have hF1 : Fresh ρ s.next s1.next := hF.left (by rw [hnx]; exact n3)
                  have e1 : m + (N1 + (N3 + 1) + 1) = (m + (N3 + 1) + 1) + N1 := by omega
                  rw [e1]
                  refine hN1 ρ w (some pl.b) kind _ [] [.beginRound, .code r.body] (caller :: cs) Stop (m + (N3 + 1) + 1) _ (.inl rfl) hR hF1 ⟨htr, trivial, pl, hl, rfl⟩ hkind ?_
                  intro ρ1 w1 tmps1 defers1 S1 F1
                  have hl1 := S1.le _ _ hl
                  refine C.step rfl fun w1' hw1 => ?_
                  have hR1 : Rel w1'.A P ρ1 s1 w1'.heap := S1.rel.rely hw1
                  obtain ⟨r1', p1, p2, p3⟩ := loop_get hR1 hg1 hl1
                  have hst1' : r1'.state = .ready := by rw [p2.state]; exact hst1
                  obtain ⟨w2, q1, q2, q3⟩ := loop_set (r₂ := { r1 with state := .busy }) (r₂' := { r1' with state := .busy }) hR1 hg1 hl1 p1 ⟨rfl, p2.pending, p2.fn, p2.tmps, p2.params, p2.assign, p2.body, p2.defers⟩
                  have hb : (Instr.beginRound pl.b).runL w1'.A P w1'.w = .ok () w2 := by
                    unfold Instr.beginRound
                    simp only [runL_bind, p3, Result.andThen_ok, q1, hst1', runL_pure]
                  obtain ⟨es, st1, hes1⟩ := st_begin (main := main) (fn := r.fn) (kind := kind) (tmps := tmps1) (defers := defers1) (cs := caller :: cs) (k := [.code r.body]) hb
                  refine ⟨_, w2, es, st1, ?_, Guar.of hR1 q2 q3 hes1⟩
                  have S2 : StepF P ρ s w ρ1 (s1.set l (.loop { r1 with state := .busy })) (w1'.next w2) := S1.trans ((StepF.of q2).pre hw1)
                  have hF2 : Fresh ρ1 s1.next s3.next := S1.fresh (c := s3.next) (by rw [← hnx]; exact hF)
                  have e2 : m + (N3 + 1) = (m + 1) + N3 := by omega
                  rw [e2]
                  refine hN3 ρ1 (w1'.next w2) (some pl.b) kind tmps1 defers1 [] (caller :: cs) Stop (m + 1) _ (.inl rfl) q2.rel.next hF2 F1 hkind ?_
                  intro ρ3 w3 tmps3 defers3 S3 F3
                  have hl3 := S3.le _ _ hl1
                  have last : ∀ (todo : List Item) (jump : Option Code), jump = j → ((todo = [] ∧ jump = none) ∨ (∃ k, todo = .code .ret :: k ∧ jump = some .ret) ∨ (∃ i k, todo = .code (.exit i) :: k ∧ exitTo i k = none ∧ jump = some (.exit i))) → (st = (if jump.isNone then .ready else .done) ∧ b = jump.isNone) →
                      GoF P main Stop (m + 1) (G (mk r.fn (some pl.b) kind tmps3 defers3 .run todo) (caller :: cs)) w3 := by
                    intro todo jump ej ht hjb
                    refine C.step rfl fun w3' hw3 => ?_
                    have hR3 : Rel w3'.A P ρ3 s3 w3'.heap := S3.rel.rely hw3
                    obtain ⟨r3', u1, u2, u3⟩ := loop_get hR3 hg3 hl3
                    obtain ⟨w4, v1, v2, v3⟩ := loop_set (r₂ := { r3 with state := st, pending := j }) (r₂' := { r3' with state := (if jump.isNone then .ready else .done), pending := jump }) hR3 hg3 hl3 u1 ⟨hjb.1.symm, ej, u2.fn, u2.tmps, u2.params, u2.assign, u2.body, u2.defers⟩
                    have he : (Instr.endRound pl.b jump).runL w3'.A P w3'.w = .ok (.bool jump.isNone) w4 := by
                      unfold Instr.endRound
                      simp only [runL_bind, u3, Result.andThen_ok, v1, runL_pure]
                    obtain ⟨es, st3, hes3⟩ := st_leave (main := main) (fn := r.fn) (tmps := tmps3) (defers := defers3) (cs := cs) hk ht he
                    refine ⟨_, w4, es, st3, hK ρ3 (w3'.next w4) _ ?_ ?_, Guar.of hR3 v2 v3 hes3⟩
                    · rw [hs']
                      exact (S2.trans S3).trans ((StepF.of v2).pre hw3)
                    · rw [← hjb.2]; exact .bool _
                  rcases hcase with ⟨rfl, hb1, hj1, hs1⟩ | ⟨i, rfl, hb1, hj1, hs1⟩ | ⟨rfl, hb1, hj1, hs1⟩
                  · exact last [] none hj1.symm (.inl ⟨rfl, rfl⟩) ⟨hs1, hb1⟩
                  · intro k' hk'
                    exact last _ (some (.exit i)) hj1.symm (.inr (.inr ⟨i, k', rfl, hk', rfl⟩)) ⟨hs1, hb1⟩
                  · intro k'
                    exact last _ (some .ret) hj1.symm (.inr (.inl ⟨k', rfl, rfl⟩)) ⟨hs1, hb1⟩
              · cases h
            · cases h
          · cases h
        · cases h
      · cases h
    · cases h
  · cases h

end
end Go.Ab

