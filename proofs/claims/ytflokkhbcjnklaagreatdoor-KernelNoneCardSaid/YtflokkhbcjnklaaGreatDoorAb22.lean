/-
  Own library, part 22: deferred calls, returns, calls.
-/
import Derived.Test.YtflokkhbcjnklaaGreatDoorAb21
namespace Go.Ab
open Go.Conc (G Goes)

section
variable {P : Program} {main : Bool} {R : World → World → Prop} {D : World → World → Array Event → Prop}

section steps
variable {fn : FuncId} {kind : CallKind} {tmps : Array Value} {ds : List Deferred} {todo : List Item} {cs : List Frame} {w w' : World}

theorem st_collected {B : Nat} {calls : List Deferred} (h : (Instr.takeDeferred B).run P w = .ok calls w') :
    ∃ es, stepG P main (G (mk fn none kind tmps ({ target := .collected B, args := #[] } :: ds) .returning todo) cs) w = .go (G (mk fn none kind tmps (calls ++ ds) .returning todo) cs) w' es := by
  simp only [stepG, G, mk, unwind, Sem.runT_eq, h]
  exact ⟨_, rfl⟩

theorem st_calldef {fn' : Fn} {c' args : Array Value} {nx : Next} (h : (invoke (.fn fn' c') args).run P w = .ok nx w') (he : isEnter nx) :
    ∃ es, stepG P main (G (mk fn none kind tmps ({ target := .fn fn' c', args } :: ds) .returning todo) cs) w = .go (G (frameOf P nx .deferred) (mk fn none kind tmps ds .returning todo :: cs)) w' es := by
  cases nx <;> simp only [isEnter] at he
  · simp only [stepG, G, mk, unwind, callDeferred, Sem.runT_eq, h, Bool.false_and, Bool.false_eq_true, if_false]
    exact ⟨_, rfl⟩
  · simp only [stepG, G, mk, unwind, callDeferred, Sem.runT_eq, h, Bool.false_and, Bool.false_eq_true, if_false]
    exact ⟨_, rfl⟩

theorem st_result {f : Func} {v : Value} {caller : Frame} (hf : P.funcs[fn]? = some f) (h : (results f tmps).run P w = .ok v w') (hk : KindOk kind caller) :
    ∃ es, stepG P main (G (mk fn none kind tmps [] .returning todo) (caller :: cs)) w = .go (G (back kind caller v) cs) w' es := by
  have hret : ∀ (fr : Frame) (w : World), fr.kind = kind → doReturn P main fr (caller :: cs) none v w = .go (G (back kind caller v) cs) w #[] := by
    intro fr w e
    unfold doReturn
    rcases hk with rfl | ⟨rfl, hm⟩
    · simp only [e]; rfl
    · simp only [e, hm]; rfl
  simp only [stepG, G, mk, unwind, hf, Sem.runT_eq, h]
  rw [hret _ _ rfl]
  exact ⟨_, rfl⟩

end steps

theorem def_get {ρ : Map} {s : St} {w : World} (hR : Rel P ρ s w.heap) {i : Nat} {pl : Pl} (hg : s.get i = some (.deferred true)) (hl : ρ i = some pl) :
    ∃ w', (Instr.takeDeferred pl.b).run P w = .ok [] w' ∧ Step P ρ s w.heap ρ (s.set i (.deferred false)) w'.heap ∧ Aside w w' := by
  obtain ⟨l', hl', h1⟩ := hR.obj _ _ hg
  rw [hl] at hl'; cases hl'
  have h1 : w.heap[pl.b]? = some (.deferred (some [])) := h1
  have hlt : pl.b < w.heap.size := by
    rcases Nat.lt_or_ge pl.b w.heap.size with h | h
    · exact h
    · rw [Array.getElem?_eq_none h] at h1; cases h1
  have hget : (getObj pl.b).run P w = .ok (.deferred (some [])) w := by simp [getObj, Sem.run, h1]
  have hset := setObj_run (P := P) (o' := .deferred none) h1 (fun _ _ _ h => by cases h)
  refine ⟨{ w with heap := w.heap.setIfInBounds pl.b (.deferred none) }, ?_, Step.set hR hg hl (by simp) (fun B hB => ?_) ?_, Aside.set h1 (fun _ _ _ h => by cases h)⟩
  · unfold Instr.takeDeferred
    simp only [Sem.run_bind, hget, Result.andThen_ok, hset, Sem.run_pure]
  · exact Array.getElem?_setIfInBounds_ne (fun e => hB e.symm)
  · exact Array.getElem?_setIfInBounds_self_of_lt hlt

theorem defers_sound (C : Good P R D) {rec : Task → Option Res} (hrec : RecOk P main R D rec) : ∀ (ds : List (ADef ⊕ Nat)) (s s' : St), runDefers rec ds s = some s' → s.next ≤ s'.next ∧ ∃ N,
    ∀ (ρ : Map) (w : World) (fn : FuncId) (kind : CallKind) (tmps : Array Value) (defers : List Deferred) (todo : List Item) (cs : List Frame) (Stop : Goroutine → World → Prop) (m : Nat),
      Rel P ρ s w.heap → Fresh ρ s.next s'.next → DsRel ρ ds defers →
      (∀ ρ' w', Step P ρ s w.heap ρ' s' w'.heap → Goes P main R D Stop m (G (mk fn none kind tmps [] .returning todo) cs) w') →
      Goes P main R D Stop (m + N) (G (mk fn none kind tmps defers .returning todo) cs) w := by
  intro ds
  induction ds with
  | nil =>
    intro s s' h
    cases h
    refine ⟨Nat.le_refl _, 0, fun ρ w fn kind tmps defers todo cs Stop m hR _ hd hK => ?_⟩
    cases defers with
    | nil => exact hK ρ w (Step.refl hR)
    | cons => exact hd.elim
  | cons d ds ih =>
    intro s s' h
    cases d with
    | inr i =>
      unfold runDefers at h
      split at h
      · rename_i hg
        obtain ⟨hn, N, hN⟩ := ih _ _ h
        have hn : s.next ≤ s'.next := hn
        refine ⟨hn, N + 1, fun ρ w fn kind tmps defers todo cs Stop m hR hF hd hK => ?_⟩
        cases defers with
        | nil => exact hd.elim
        | cons d' ds' =>
          obtain ⟨⟨l, hl, rfl⟩, hds⟩ := hd
          rw [← Nat.add_assoc]
          refine C.step rfl fun w₁ hw₁ => ?_
          obtain ⟨w2, h1, h2, h4⟩ := def_get (by rw [hw₁]; exact hR : Rel P ρ s w₁.heap) hg hl
          obtain ⟨es, h3⟩ := st_collected (main := main) (fn := fn) (kind := kind) (tmps := tmps) (ds := ds') (todo := todo) (cs := cs) h1
          refine ⟨_, w2, es, h3, ?_, h4⟩
          refine hN ρ w2 fn kind tmps _ todo cs Stop m h2.rel hF hds fun ρ' w' hS => hK ρ' w' ?_
          rw [hw₁] at h2
          exact h2.trans hS
      · cases h
    | inl d =>
      unfold runDefers at h
      obtain ⟨r, hr, h1⟩ := bind_some h
      obtain ⟨v, s1⟩ := r
      obtain ⟨n1, N1, hN1⟩ := inv_sound C hrec hr
      obtain ⟨n2, N2, hN2⟩ := ih _ _ h1
      have n2 : s1.next ≤ s'.next := n2
      refine ⟨Nat.le_trans n1 n2, N2 + N1 + 1, fun ρ w fn kind tmps defers todo cs Stop m hR hF hd hK => ?_⟩
      cases defers with
      | nil => exact hd.elim
      | cons d' ds' =>
        obtain ⟨⟨fn', c', ht, hfn, hc, ha⟩, hds⟩ := hd
        have e : m + (N2 + N1 + 1) = (m + N2) + N1 + 1 := by omega
        rw [e]
        refine C.step rfl fun w₁ hw₁ => ?_
        have hR₁ : Rel P ρ s w₁.heap := by rw [hw₁]; exact hR
        obtain ⟨nx, h2, h3, h4⟩ := hN1 ρ w₁ fn' c' d'.args hR₁ (hF.left n2) hfn hc ha
        obtain ⟨es, h5⟩ := st_calldef (main := main) (fn := fn) (kind := kind) (tmps := tmps) (ds := ds') (todo := todo) (cs := cs) h2 h3
        have ed : d' = { target := .fn fn' c', args := d'.args } := by cases d'; simp only at ht; rw [ht]
        refine ⟨_, w₁, es, by rw [ed]; exact h5, ?_, Aside.refl w₁⟩
        refine h4 .deferred _ cs Stop (m + N2) (.inr ⟨rfl, rfl⟩) fun ρ1 w1 v' hS hv => ?_
        refine hN2 ρ1 w1 fn kind tmps ds' todo cs Stop m hS.rel (hS.fresh (c := s'.next) hF) (hds.mono hS.le) fun ρ' w' hS' => hK ρ' w' ?_
        rw [hw₁] at hS
        exact hS.trans hS'

theorem enter_TR {ρ : Map} {args : List AV} {args' : Array Value} (h : VL ρ args args'.toList) (n : Nat) : TR ρ (T.ofListFrom 0 args .leaf) (args.length + (n - args.length)) (args' ++ Array.replicate (n - args'.size) undef) := by
  have hl : args.length = args'.size := VL_size h
  refine ⟨by simp [hl], fun t => ?_⟩
  rw [T.get_ofListFrom, if_pos (Nat.zero_le _), Nat.sub_zero, Array.getD_eq_getD_getElem?]
  cases hx : args[t]? with
  | some x =>
    obtain ⟨y, hy, hv⟩ := h.get t x hx
    have hlt : t < args'.size := by
      have := (List.getElem?_eq_some_iff.1 hx).1; omega
    rw [Array.getElem?_append_left hlt]
    have : args'[t]? = some y := by simpa using hy
    rw [this]
    exact hv
  | none =>
    have hge : args'.size ≤ t := by
      rw [← hl]; exact List.getElem?_eq_none_iff.1 hx
    rw [Array.getElem?_append_right hge, Array.getElem?_replicate]
    simp only [T.get_leaf, Option.getD_none]
    split <;> exact .tuple .nil

theorem call_sound (C : Good P R D) {rec : Task → Option Res} (hrec : RecOk P main R D rec) {f : FuncId} {args : List AV} {s s' : St} {v : AV} (h : stepT P rec (.call f args s) = some (.val v s')) :
    (∃ fn c, P.funcs[f]? = some fn ∧ fn.body = some c) ∧ s.next ≤ s'.next ∧ ∃ N, CallSem P main R D f args s v s' N := by
  unfold stepT at h
  simp only at h
  split at h
  · cases h
  · rename_i fn hfn
    split at h
    · cases h
    · rename_i c hc
      refine ⟨⟨fn, c, hfn, hc⟩, ?_⟩
      split at h
      · rename_i e fr s1 hr
        have main' : ∀ (hne : e = .normal ∨ e = .ret) (h : ((runDefers rec fr.ds s1).bind fun s2 => (readRes P fr.ts s2 fn.results.toList).bind fun vs => some (Res.val (oneOf vs) s2)) = some (.val v s')), s.next ≤ s'.next ∧ ∃ N, CallSem P main R D f args s v s' N := by
          intro hne h
          obtain ⟨s2, hd, h1⟩ := bind_some h
          obtain ⟨vs, hv, h2⟩ := bind_some h1
          cases h2
          obtain ⟨n1, N1, hN1⟩ := hrec.1 _ _ _ _ _ _ _ hr
          obtain ⟨n2, N2, hN2⟩ := defers_sound C hrec _ _ _ hd
          refine ⟨Nat.le_trans n1 n2, 1 + N2 + 1 + N1, ?_⟩
          intro ρ w args' kind caller cs Stop m hR hF ha hk hK
          have hframe : Frame.enter P f args' kind = mk f none kind (args' ++ Array.replicate (fn.ntmps - args'.size) undef) [] .run [.code c] := by
            simp only [Frame.enter, hfn, Option.map_some, Option.getD_some, Option.bind_some, hc, mk]
          rw [hframe, ← Nat.add_assoc]
          refine hN1 ρ w none kind _ [] [] (caller :: cs) Stop (m + (1 + N2 + 1)) _ (.inl rfl) hR (hF.left n2) ⟨enter_TR ha fn.ntmps, trivial, trivial⟩ (by rcases hk with rfl | ⟨rfl, _⟩ <;> simp) fun ρ1 w1 t1 d1 S1 F1 => ?_
          have unw : ∀ todo, Goes P main R D Stop (m + 1 + N2) (G (mk f none kind t1 d1 .returning todo) (caller :: cs)) w1 := by
            intro todo
            refine hN2 ρ1 w1 f kind t1 d1 todo (caller :: cs) Stop (m + 1) S1.rel (S1.fresh (c := s'.next) hF) F1.ds fun ρ2 w2 S2 => ?_
            refine C.step rfl fun w₁ hw₁ => ?_
            have hR2 : Rel P ρ2 s' w₁.heap := by rw [hw₁]; exact S2.rel
            obtain ⟨v', h3, h4⟩ := results_sound hR2 (F1.tr.mono S2.le) hv
            obtain ⟨es, h5⟩ := st_result (main := main) (kind := kind) (todo := todo) (cs := cs) hfn h3 hk
            refine ⟨_, w₁, es, h5, hK ρ2 w₁ v' ?_ h4, Aside.refl w₁⟩
            rw [hw₁]
            exact S1.trans S2
          have eq : m + (1 + N2 + 1) = (m + 1 + N2) + 1 := by omega
          rw [eq]
          rcases hne with rfl | rfl
          · exact C.idle rfl (fun w₁ => st_end) (unw [])
          · intro k'
            exact C.idle rfl (fun w₁ => st_ret) (unw _)
        cases e with
        | normal => exact main' (.inl rfl) h
        | ret => exact main' (.inr rfl) h
        | exit i => cases h
      · cases h

end
end Go.Ab
