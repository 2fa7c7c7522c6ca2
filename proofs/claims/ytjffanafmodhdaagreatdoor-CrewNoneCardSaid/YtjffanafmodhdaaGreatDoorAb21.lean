/- Own text of this claim: part Ab21. -/
import Derived.Test.YtjffanafmodhdaaGreatDoorAb17
set_option linter.unusedVariables false
set_option linter.unusedSimpArgs false
set_option linter.unusedSectionVars false
set_option linter.unnecessarySimpa false
/-
  Own library, part 21: regions that draw their order, whole; the statements of the language.
-/
namespace Go.Ab
open Go.Conc (G)

section
variable {P : Program} {main : Bool}

theorem loud_bound (C : Good P) {rec : Task → Option Res} (hrec : RecOk P main rec) {ops : Array Oper} {nt : Nat} {rest : List Oper} {l : List TE} {s sN : St} {t0 tN : T AV} (T : TrOk P rec ops nt rest l s sN t0 tN) :
    ∃ N, ∀ (i : Nat) (e : TE), l[i]? = some e → e.kind = .loud → OpSem P main e.o (evR P ops e.o e.ts) e.s e.v e.s' N := by
  have key : ∀ k, ∃ N, ∀ (i : Nat) (e : TE), i < k → l[i]? = some e → e.kind = .loud → OpSem P main e.o (evR P ops e.o e.ts) e.s e.v e.s' N := by
    intro k
    induction k with
    | zero => exact ⟨0, fun i e h => by omega⟩
    | succ k ih =>
      obtain ⟨N, hN⟩ := ih
      cases he : l[k]? with
      | none =>
        refine ⟨N, fun i e hi h hk => ?_⟩
        by_cases x : i = k
        · subst x; rw [he] at h; cases h
        · exact hN i e (by omega) h hk
      | some e0 =>
        cases one_is (T.run1 k e0 he) with
        | skip hk0 =>
          refine ⟨N, fun i e hi h hk => ?_⟩
          by_cases x : i = k
          · subst x; rw [he] at h; cases h; rw [hk0] at hk; cases hk
          · exact hN i e (by omega) h hk
        | quiet hk0 =>
          refine ⟨N, fun i e hi h hk => ?_⟩
          by_cases x : i = k
          · subst x; rw [he] at h; cases h; rw [hk0] at hk; cases hk
          · exact hN i e (by omega) h hk
        | birth _ hk0 =>
          refine ⟨N, fun i e hi h hk => ?_⟩
          by_cases x : i = k
          · subst x; rw [he] at h; cases h; rw [hk0] at hk; cases hk
          · exact hN i e (by omega) h hk
        | loud _ _ hx =>
          obtain ⟨_, M, hM⟩ := stepOp_sound C hrec hx
          refine ⟨N + M, fun i e hi h hk => ?_⟩
          by_cases x : i = k
          · subst x; rw [he] at h; cases h; exact hM.more (by omega)
          · exact (hN i e (by omega) h hk).more (by omega)
  obtain ⟨N, hN⟩ := key l.length
  exact ⟨N, fun i e h => hN i e (List.getElem?_eq_some_iff.1 h).1 h⟩

theorem draw_sound (C : Good P) {rec : Task → Option Res} (hrec : RecOk P main rec) {cx : Cx} {ops : Array Oper} {fr fr' : Fr} {s s' : St} (h : drawA P rec cx ops fr s = some (fr', s')) :
    s.next ≤ s'.next ∧ ∃ N, ∀ (id : Nat) (ρ : Map) (w : FW) (rd : Option Nat) (kind : CallKind) (tmps : Array Value) (defers : List Deferred) (k : List Item) (cs : List Frame) (Stop : Goroutine → FW → Prop) (m : Nat),
      Rel w.A P ρ s w.heap → Fresh ρ s.next s'.next → FrOk ρ cx fr rd tmps defers →
      (∀ ρ' w' tmps' defers', StepF P ρ s w ρ' s' w' → FrOk ρ' cx fr' rd tmps' defers' → GoF P main Stop m (G (mk cx.fn rd kind tmps' defers' .run k) cs) w') →
      GoF P main Stop (m + N) (G (mk cx.fn rd kind tmps defers .run (.code (.region id ops true) :: k)) cs) w := by
  unfold drawA at h
  simp only at h
  obtain ⟨hok, h1⟩ := bif_some h
  obtain ⟨r, hr, h2⟩ := bind_some h1
  obtain ⟨l, fr₂, s₂⟩ := r
  obtain ⟨hall, h3⟩ := bif_some h2
  cases h3
  obtain ⟨hds, T⟩ := trace_ok _ _ _ _ _ _ hr
  obtain ⟨N, hN⟩ := loud_bound C hrec T
  have hlen : l.length = ops.size := by simpa using T.len
  have hlast : stA l s' l.length = s' := by unfold stA; simp
  have hmono : s.next ≤ s'.next := by
    have := T.mono C hrec 0 l.length (Nat.zero_le _) (Nat.le_refl _)
    rwa [T.first, hlast] at this
  refine ⟨hmono, 1 + ops.size * (N + 1) + 1, fun id ρ w rd kind tmps defers k cs Stop m hR hF hfr hK => ?_⟩
  have e : m + (1 + ops.size * (N + 1) + 1) = (m + 1 + ops.size * (N + 1)) + 1 := by omega
  rw [e]
  refine C.step rfl fun w₁ hw₁ => ⟨_, { w₁.w with drawn := w₁.w.drawn + 1 }, #[], st_draw, ?_, Aside.of_heap rfl rfl rfl, Nat.le_refl _, fun _ _ _ => rfl, EvAll.nil⟩
  rw [FW.next_heap (y := w₁) (w' := { w₁.w with drawn := w₁.w.drawn + 1 }) rfl]
  have hx : Rely w ⟨{ w₁.w with drawn := w₁.w.drawn + 1 }, w₁.F⟩ := hw₁.trans (Rely.heap rfl)
  generalize (⟨{ w₁.w with drawn := w₁.w.drawn + 1 }, w₁.F⟩ : FW) = w₂ at hx
  generalize w₁.w.tape w₁.w.drawn (Question.order cx.fn id) = t
  have hsch : Region.schedule (P.follows .mixedOrders) ops t = Region.linearise .any ops t := by
    unfold Region.schedule
    rw [C.mixed]
    simp
  rw [hsch]
  have hle : (Region.linearise .any ops t).length ≤ ops.size := go_length _ _ _ _ _
  have hmul := Nat.mul_le_mul_right (N + 1) hle
  refine GoF.more' (n := m + 1 + (Region.linearise .any ops t).length * (N + 1)) ?_ (by omega)
  refine sched_sound C hrec hok T hall hN (ρ₀ := ρ) (H₀ := w₂) (fun ρ' w' tmps' hS hT => ?_) _ _ (sched_any (drawOk_spec hok).1 t) 0 ρ { heap := s.heap, next := s'.next } _ tmps ?_
  · refine hK ρ' w' tmps' defers (hS.pre hx) ⟨hT, ?_, hfr.rd.mono hS.le⟩
    rw [hds]
    exact hfr.ds.mono hS.le
  · have hR₁ : Rel w₂.A P ρ s w₂.heap := hR.rely hx
    have hbound : ∀ (j : Nat) (e : TE), l[j]? = some e → s.next ≤ e.s.next ∧ e.s'.next ≤ s'.next := by
      intro j e he
      have hj := (List.getElem?_eq_some_iff.1 he).1
      have h1 := T.mono C hrec 0 j (Nat.zero_le _) (by omega)
      have h2 := T.mono C hrec (j + 1) l.length (by omega) (Nat.le_refl _)
      rw [T.first, stA_of he] at h1
      rw [T.next j e he, hlast] at h2
      exact ⟨h1, h2⟩
    refine ⟨⟨hR₁.sub fun _ _ h => h, Map.le_refl ρ, hmono, fun _ _ => rfl, fun id l h h' => .inr ⟨id, l, h, h', rfl⟩, Nat.le_refl _, fun _ h => h, fun _ _ _ _ => rfl⟩, rfl, .inl rfl, ?_, ?_, ?_, ?_, ?_, ?_, ?_, hfr.tr.size, ?_⟩
    · intro j e _ _; simp
    · intro i hi; cases hi
    · intro i hi; cases hi
    · intro id o h; rw [T.first] at h; exact h
    · intro j e x _ _ _ hd; cases hd
    · intro j e x _ he hk
      rw [T.first]
      have hb := hbound j e he
      have hlt : e.s.next < e.s'.next := by
        cases one_is (T.run1 j e he) with
        | birth x' _ _ _ _ hs' => rw [hs']; exact Nat.lt_succ_self _
        | skip hk2 => rw [hk2] at hk; cases hk
        | quiet hk2 => rw [hk2] at hk; cases hk
        | loud hk2 => rw [hk2] at hk; cases hk
      cases hg : s.get e.s.next with
      | none => rfl
      | some o =>
        obtain ⟨p, hp, _⟩ := hR₁.obj _ _ hg
        rw [hF _ hb.1 (by omega)] at hp
        cases hp
    · intro j e he _ id h1 h2
      have hb := hbound j e he
      exact hF id (by omega) (by omega)
    · intro t
      exact .inr ⟨fun i e _ hd => (by cases hd), hfr.tr.at_ t⟩

/-! ### Results, deferred calls -/

theorem run_asAddr' {A : Nat → Prop} (P : Program) (a : Addr) (w : World) : (asAddr (.pointer (some a))).runL A P w = .ok a w := rfl

theorem res_sound {A : Nat → Prop} {ρ : Map} {s : St} {w : World} (hR : Rel A P ρ s w.heap) {ts : T AV} {nt : Nat} {tmps : Array Value} (ht : TR ρ ts nt tmps) : ∀ (rs : List ResultVar) (vs : List AV), readRes P ts s rs = some vs →
    ∃ ys, (rs.mapM fun | .tmp t => pure (tmps.getD t undef) | .cell a t => do loadVar t (← asAddr (tmps.getD a undef)) : Sem (List Value)).runL A P w = .ok ys w ∧ VL ρ vs ys
  | [], vs, h => by cases h; exact ⟨[], by simp, .nil⟩
  | .tmp t :: rest, vs, h => by
    unfold readRes at h
    obtain ⟨l, hl, h1⟩ := bind_some h
    cases h1
    obtain ⟨ys, h2, h3⟩ := res_sound hR ht rest l hl
    refine ⟨tmps.getD t undef :: ys, ?_, .cons (ht.at_ t) h3⟩
    simp only [List.mapM_cons, runL_bind, runL_pure, Result.andThen_ok, h2]
  | .cell a t :: rest, vs, h => by
    unfold readRes at h
    obtain ⟨ty, hty, h1⟩ := bind_some h
    obtain ⟨v, hv, h2⟩ := bind_some h1
    obtain ⟨l, hl, h3⟩ := bind_some h2
    cases h3
    obtain ⟨ys, h4, h5⟩ := res_sound hR ht rest l hl
    have va := ht.at_ a
    split at hv
    · rename_i id off heq
      rw [heq] at va
      generalize hca : tmps.getD a undef = ca at va
      cases va
      rename_i pl hpl
      obtain ⟨v', h6, h7⟩ := var_sound hR (tyOf_ok hty) hpl hv
      refine ⟨v' :: ys, ?_, .cons h7 h5⟩
      simp only [List.mapM_cons, runL_bind, hca, run_asAddr', runL_pure, Result.andThen_ok, h6, h4]
    · cases hv

theorem results_sound {A : Nat → Prop} {ρ : Map} {s : St} {w : World} (hR : Rel A P ρ s w.heap) {ts : T AV} {nt : Nat} {tmps : Array Value} (ht : TR ρ ts nt tmps) {fn : Func} {vs : List AV} (h : readRes P ts s fn.results.toList = some vs) :
    ∃ v', (results fn tmps).runL A P w = .ok v' w ∧ V ρ (oneOf vs) v' := by
  obtain ⟨ys, h1, h2⟩ := res_sound hR ht _ _ h
  have hrun : (results fn tmps).runL A P w = .ok (if h : ys.toArray.size = 1 then ys.toArray[0] else .tuple ys.toArray) w := by
    unfold results
    rw [runL_bind, Array.mapM_eq_mapM_toList]
    rw [runL_map]
    erw [h1]
    rfl
  refine ⟨_, hrun, ?_⟩
  match vs, ys, h2 with
  | [], [], _ => exact .tuple .nil
  | [v], [y], .cons h _ => exact h
  | v :: v₂ :: vs, y :: y₂ :: ys, h =>
    rw [dif_neg (by simp)]
    exact .tuple h

end
end Go.Ab

/-
  Own library, part 22: deferred calls, returns, calls.
-/
namespace Go.Ab
open Go.Conc (G)

section
variable {A : Nat → Prop} {P : Program} {main : Bool}

section steps
variable {fn : FuncId} {kind : CallKind} {tmps : Array Value} {ds : List Deferred} {todo : List Item} {cs : List Frame} {w w' : World}

theorem st_collected {B : Nat} {calls : List Deferred} (h : (Instr.takeDeferred B).runL A P w = .ok calls w') :
    ∃ es, stepG P main (G (mk fn none kind tmps ({ target := .collected B, args := #[] } :: ds) .returning todo) cs) w = .go (G (mk fn none kind tmps (calls ++ ds) .returning todo) cs) w' es ∧ EvAll A w' es := by
  simp only [stepG, G, mk, unwind, Sem.runT_eq, runL_run h]
  exact ⟨_, rfl, ev_seen h⟩

theorem st_calldef {fn' : Fn} {c' args : Array Value} {nx : Next} (h : (invoke (.fn fn' c') args).runL A P w = .ok nx w') (he : isEnter nx) :
    ∃ es, stepG P main (G (mk fn none kind tmps ({ target := .fn fn' c', args } :: ds) .returning todo) cs) w = .go (G (frameOf P nx .deferred) (mk fn none kind tmps ds .returning todo :: cs)) w' es ∧ EvAll A w' es := by
  cases nx <;> simp only [isEnter] at he
  · simp only [stepG, G, mk, unwind, callDeferred, Sem.runT_eq, runL_run h, Bool.false_and, Bool.false_eq_true, if_false]
    exact ⟨_, rfl, (ev_seen h).append EvAll.nil⟩
  · simp only [stepG, G, mk, unwind, callDeferred, Sem.runT_eq, runL_run h, Bool.false_and, Bool.false_eq_true, if_false]
    exact ⟨_, rfl, (ev_seen h).append EvAll.nil⟩

theorem st_result {f : Func} {v : Value} {caller : Frame} (hf : P.funcs[fn]? = some f) (h : (results f tmps).runL A P w = .ok v w') (hk : KindOk kind caller) :
    ∃ es, stepG P main (G (mk fn none kind tmps [] .returning todo) (caller :: cs)) w = .go (G (back kind caller v) cs) w' es ∧ EvAll A w' es := by
  have hret : ∀ (fr : Frame) (w : World), fr.kind = kind → doReturn P main fr (caller :: cs) none v w = .go (G (back kind caller v) cs) w #[] := by
    intro fr w e
    unfold doReturn
    rcases hk with rfl | ⟨rfl, hm⟩
    · simp only [e]; rfl
    · simp only [e, hm]; rfl
  simp only [stepG, G, mk, unwind, hf, Sem.runT_eq, runL_run h]
  rw [hret _ _ rfl]
  exact ⟨_, rfl, (ev_seen h).append EvAll.nil⟩

end steps

theorem def_get {ρ : Map} {s : St} {w : World} (hR : Rel A P ρ s w.heap) {i : Nat} {pl : Pl} (hg : s.get i = some (.deferred true)) (hl : ρ i = some pl) :
    ∃ w', (Instr.takeDeferred pl.b).runL A P w = .ok [] w' ∧ Step A P ρ s w.heap ρ (s.set i (.deferred false)) w'.heap ∧ Aside w w' := by
  obtain ⟨l', hl', h1⟩ := hR.obj _ _ hg
  rw [hl] at hl'; cases hl'
  have h1 : w.heap[pl.b]? = some (.deferred (some [])) := h1
  have hlt : pl.b < w.heap.size := by
    rcases Nat.lt_or_ge pl.b w.heap.size with h | h
    · exact h
    · rw [Array.getElem?_eq_none h] at h1; cases h1
  have hget : (getObj pl.b).runL A P w = .ok (.deferred (some [])) w := runL_getObj w h1 (hR.own _ _ (by rw [hg]; rfl) hl) rfl
  have hset := setObj_run (A := A) (P := P) (o' := .deferred none) h1 (hR.own _ _ (by rw [hg]; rfl) hl) rfl rfl
  refine ⟨{ w with heap := w.heap.setIfInBounds pl.b (.deferred none) }, ?_, Step.set hR hg hl (by simp) (fun B hB => ?_) ?_, Aside.set h1 (fun _ _ _ h => by cases h)⟩
  · unfold Instr.takeDeferred
    simp only [runL_bind, hget, Result.andThen_ok, hset, runL_pure]
  · exact Array.getElem?_setIfInBounds_ne (fun e => hB e.symm)
  · exact Array.getElem?_setIfInBounds_self_of_lt hlt

theorem defers_sound (C : Good P) {rec : Task → Option Res} (hrec : RecOk P main rec) : ∀ (ds : List (ADef ⊕ Nat)) (s s' : St), runDefers rec ds s = some s' → s.next ≤ s'.next ∧ ∃ N,
    ∀ (ρ : Map) (w : FW) (fn : FuncId) (kind : CallKind) (tmps : Array Value) (defers : List Deferred) (todo : List Item) (cs : List Frame) (Stop : Goroutine → FW → Prop) (m : Nat),
      Rel w.A P ρ s w.heap → Fresh ρ s.next s'.next → DsRel ρ ds defers →
      (∀ ρ' w', StepF P ρ s w ρ' s' w' → GoF P main Stop m (G (mk fn none kind tmps [] .returning todo) cs) w') →
      GoF P main Stop (m + N) (G (mk fn none kind tmps defers .returning todo) cs) w := by
  intro ds
  induction ds with
  | nil =>
    intro s s' h
    cases h
    refine ⟨Nat.le_refl _, 0, fun ρ w fn kind tmps defers todo cs Stop m hR _ hd hK => ?_⟩
    cases defers with
    | nil => exact hK ρ w (StepF.refl hR)
    | cons => exact hd.elim
  | cons d ds ih =>
    intro s s' h
    cases d with
    | inr i =>
      unfold runDefers at h
      split at h
      · rename_i hg
        obtain ⟨hn, N, hN⟩ := ih _ _ h
        have hn : s.next ≤ s'.next := hn
        refine ⟨hn, N + 1, fun ρ w fn kind tmps defers todo cs Stop m hR hF hd hK => ?_⟩
        cases defers with
        | nil => exact hd.elim
        | cons d' ds' =>
          obtain ⟨⟨l, hl, rfl⟩, hds⟩ := hd
          rw [← Nat.add_assoc]
          refine C.step rfl fun w₁ hw₁ => ?_
          obtain ⟨w2, h1, h2, h4⟩ := def_get (hR.rely hw₁) hg hl
          obtain ⟨es, h3, hes⟩ := st_collected (main := main) (fn := fn) (kind := kind) (tmps := tmps) (ds := ds') (todo := todo) (cs := cs) h1
          refine ⟨_, w2, es, h3, ?_, Guar.of (hR.rely hw₁) h2 h4 hes⟩
          exact hN ρ (w₁.next w2) fn kind tmps _ todo cs Stop m h2.rel.next hF hds fun ρ' w' hS => hK ρ' w' (((StepF.of h2).pre hw₁).trans hS)
      · cases h
    | inl d =>
      unfold runDefers at h
      obtain ⟨r, hr, h1⟩ := bind_some h
      obtain ⟨v, s1⟩ := r
      obtain ⟨n1, N1, hN1⟩ := inv_sound C hrec hr
      obtain ⟨n2, N2, hN2⟩ := ih _ _ h1
      have n2 : s1.next ≤ s'.next := n2
      refine ⟨Nat.le_trans n1 n2, N2 + N1 + 1, fun ρ w fn kind tmps defers todo cs Stop m hR hF hd hK => ?_⟩
      cases defers with
      | nil => exact hd.elim
      | cons d' ds' =>
        obtain ⟨⟨fn', c', ht, hfn, hc, ha⟩, hds⟩ := hd
        have e : m + (N2 + N1 + 1) = (m + N2) + N1 + 1 := by omega
        rw [e]
        refine C.step0 rfl fun w₁ hw₁ => ?_
        have hR₁ : Rel w₁.A P ρ s w₁.heap := hR.rely hw₁
        obtain ⟨nx, h2, h3, h4⟩ := hN1 ρ w₁ fn' c' d'.args hR₁ (hF.left n2) hfn hc ha
        obtain ⟨es, h5, hes⟩ := st_calldef (main := main) (fn := fn) (kind := kind) (tmps := tmps) (ds := ds') (todo := todo) (cs := cs) h2 h3
        have ed : d' = { target := .fn fn' c', args := d'.args } := by cases d'; simp only at ht; rw [ht]
        refine ⟨_, es, by rw [ed]; exact h5, ?_, hes⟩
        refine h4 .deferred _ cs Stop (m + N2) (.inr ⟨rfl, rfl⟩) fun ρ1 w1 v' hS hv => ?_
        refine hN2 ρ1 w1 fn kind tmps ds' todo cs Stop m hS.rel (hS.fresh (c := s'.next) hF) (hds.mono hS.le) fun ρ' w' hS' => hK ρ' w' ((hS.pre hw₁).trans hS')

theorem enter_TR {ρ : Map} {args : List AV} {args' : Array Value} (h : VL ρ args args'.toList) (n : Nat) : TR ρ (T.ofListFrom 0 args .leaf) (args.length + (n - args.length)) (args' ++ Array.replicate (n - args'.size) undef) := by
  have hl : args.length = args'.size := VL_size h
  refine ⟨by simp [hl], fun t => ?_⟩
  rw [T.get_ofListFrom, if_pos (Nat.zero_le _), Nat.sub_zero, Array.getD_eq_getD_getElem?]
  cases hx : args[t]? with
  | some x =>
    obtain ⟨y, hy, hv⟩ := h.get t x hx
    have hlt : t < args'.size := by
      have := (List.getElem?_eq_some_iff.1 hx).1; omega
    rw [Array.getElem?_append_left hlt]
    have : args'[t]? = some y := by simpa using hy
    rw [this]
    exact hv
  | none =>
    have hge : args'.size ≤ t := by
      rw [← hl]; exact List.getElem?_eq_none_iff.1 hx
    rw [Array.getElem?_append_right hge, Array.getElem?_replicate]
    simp only [T.get_leaf, Option.getD_none]
    split <;> exact .tuple .nil

theorem call_sound (C : Good P) {rec : Task → Option Res} (hrec : RecOk P main rec) {f : FuncId} {args : List AV} {s s' : St} {v : AV} (h : stepT P rec (.call f args s) = some (.val v s')) :
    (∃ fn c, P.funcs[f]? = some fn ∧ fn.body = some c) ∧ s.next ≤ s'.next ∧ ∃ N, CallSem P main f args s v s' N := by
  unfold stepT at h
  simp only at h
  split at h
  · cases h
  · rename_i fn hfn
    split at h
    · cases h
    · rename_i c hc
      refine ⟨⟨fn, c, hfn, hc⟩, ?_⟩
      split at h
      · rename_i e fr s1 hr
        have main' : ∀ (hne : e = .normal ∨ e = .ret) (h : ((runDefers rec fr.ds s1).bind fun s2 => (readRes P fr.ts s2 fn.results.toList).bind fun vs => some (Res.val (oneOf vs) s2)) = some (.val v s')), s.next ≤ s'.next ∧ ∃ N, CallSem P main f args s v s' N := by
          intro hne h
          obtain ⟨s2, hd, h1⟩ := bind_some h
          obtain ⟨vs, hv, h2⟩ := bind_some h1
          cases h2
          obtain ⟨n1, N1, hN1⟩ := hrec.1 _ _ _ _ _ _ _ hr
          obtain ⟨n2, N2, hN2⟩ := defers_sound C hrec _ _ _ hd
          refine ⟨Nat.le_trans n1 n2, 1 + N2 + 1 + N1, ?_⟩
          intro ρ w args' kind caller cs Stop m hR hF ha hk hK
          have hframe : Frame.enter P f args' kind = mk f none kind (args' ++ Array.replicate (fn.ntmps - args'.size) undef) [] .run [.code c] := by
            simp only [Frame.enter, hfn, Option.map_some, Option.getD_some, Option.bind_some, hc, mk]
          rw [hframe, ← Nat.add_assoc]
          refine hN1 ρ w none kind _ [] [] (caller :: cs) Stop (m + (1 + N2 + 1)) _ (.inl rfl) hR (hF.left n2) ⟨enter_TR ha fn.ntmps, trivial, trivial⟩ (by rcases hk with rfl | ⟨rfl, _⟩ <;> simp) fun ρ1 w1 t1 d1 S1 F1 => ?_
          have unw : ∀ todo, GoF P main Stop (m + 1 + N2) (G (mk f none kind t1 d1 .returning todo) (caller :: cs)) w1 := by
            intro todo
            refine hN2 ρ1 w1 f kind t1 d1 todo (caller :: cs) Stop (m + 1) S1.rel (S1.fresh (c := s'.next) hF) F1.ds fun ρ2 w2 S2 => ?_
            refine C.step0 rfl fun w₁ hw₁ => ?_
            have hR2 : Rel w₁.A P ρ2 s' w₁.heap := S2.rel.rely hw₁
            obtain ⟨v', h3, h4⟩ := results_sound hR2 (F1.tr.mono S2.le) hv
            obtain ⟨es, h5, hes⟩ := st_result (main := main) (kind := kind) (todo := todo) (cs := cs) hfn h3 hk
            exact ⟨_, es, h5, hK ρ2 w₁ v' ((S1.trans S2).trans ((StepF.refl hR2).pre hw₁)) h4, hes⟩
          have eq : m + (1 + N2 + 1) = (m + 1 + N2) + 1 := by omega
          rw [eq]
          rcases hne with rfl | rfl
          · exact C.idle rfl (fun w₁ => st_end) (unw [])
          · intro k'
            exact C.idle rfl (fun w₁ => st_ret) (unw _)
        cases e with
        | normal => exact main' (.inl rfl) h
        | ret => exact main' (.inr rfl) h
        | exit i => cases h
      · cases h

end
end Go.Ab

