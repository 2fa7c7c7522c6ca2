/- Own text of this claim: part Ab23. -/
import Derived.Test.YtjffanafmodhdaaGreatDoorAb21
set_option linter.unusedVariables false
set_option linter.unusedSimpArgs false
set_option linter.unusedSectionVars false
set_option linter.unnecessarySimpa false
/-
  Own library, part 23: the statements of the language; the evaluator is right.
-/
namespace Go.Ab
open Go.Conc (G)

section
variable {P : Program} {main : Bool}

theorem exitTo_code {i : Nat} {c : Code} {k : List Item} : exitTo i (.code c :: k) = exitTo i k := rfl
theorem exitTo_scope {i : Nat} {c : Code} {k : List Item} : exitTo i (.inScope c :: k) = exitTo i k := rfl
theorem exitTo_loop {i : Nat} {c : Code} {k : List Item} : exitTo i (.inLoop c :: k) = exitTo i k := rfl
theorem exitTo_block {i j : Nat} {k : List Item} : exitTo i (.inBlock j :: k) = if j == i then some k else exitTo i k := rfl

/-- Behind a piece of code that is left early: the items between do not matter. -/
theorem AfterG.pass {Stop : Goroutine → FW → Prop} {n : Nat} {e : AEx} {fn : FuncId} {rd : Option Nat} {kind : CallKind} {tmps : Array Value} {defers : List Deferred} {k k' : List Item} {cs : List Frame} {w : FW}
    (he : e ≠ .normal) (hk : ∀ i, exitTo i k' = exitTo i k) (h : AfterG P main Stop n e fn rd kind tmps defers k cs w) : AfterG P main Stop n e fn rd kind tmps defers k' cs w := by
  cases e with
  | normal => exact absurd rfl he
  | exit i => exact fun k2 h2 => h k2 (by rw [h2, hk])
  | ret => exact h

theorem AfterG.more {Stop : Goroutine → FW → Prop} {n n' : Nat} {e : AEx} {fn : FuncId} {rd : Option Nat} {kind : CallKind} {tmps : Array Value} {defers : List Deferred} {k : List Item} {cs : List Frame} {w : FW}
    (hn : n ≤ n') (h : AfterG P main Stop n e fn rd kind tmps defers k cs w) : AfterG P main Stop n' e fn rd kind tmps defers k cs w := by
  cases e with
  | normal => exact GoF.more' h hn
  | exit i => exact fun k2 h2 => GoF.more' (h k2 h2) hn
  | ret => exact fun k2 => GoF.more' (h k2) hn

theorem CodeSem.of {cx : Cx} {c : Code} {fr : Fr} {s : St} {e : AEx} {fr' : Fr} {s' : St} {N : Nat} (hnl : ∀ c', c ≠ .loop c')
    (h : ∀ (ρ : Map) (w : FW) (rd : Option Nat) (kind : CallKind) (tmps : Array Value) (defers : List Deferred) (k : List Item) (cs : List Frame) (Stop : Goroutine → FW → Prop) (m : Nat),
      Rel w.A P ρ s w.heap → Fresh ρ s.next s'.next → FrOk ρ cx fr rd tmps defers → kind ≠ .early →
      (∀ ρ' w' tmps' defers', StepF P ρ s w ρ' s' w' → FrOk ρ' cx fr' rd tmps' defers' → AfterG P main Stop m e cx.fn rd kind tmps' defers' k cs w') →
      GoF P main Stop (m + N) (G (mk cx.fn rd kind tmps defers .run (.code c :: k)) cs) w) : CodeSem P main cx c fr s e fr' s' N := by
  intro ρ w rd kind tmps defers k cs Stop m it hit hR hF hfr hke hK
  rcases hit with rfl | ⟨c', hc', _⟩
  · exact h ρ w rd kind tmps defers k cs Stop m hR hF hfr hke hK
  · exact absurd hc' (hnl c')

theorem open_sound {cx : Cx} {fr : Fr} {s s1 : St} {defers : Nat} {ds : List (ADef ⊕ Nat)} (h : openA cx fr s = some (defers, ds, s1)) (params : Array Tmp) (assign body : Code) :
    s.next ≤ s1.next ∧ ∀ (A : Nat → Prop) (ρ : Map) (w : World) (rd : Option Nat) (tmps : Array Value) (dsC : List Deferred), Rel A P ρ s w.heap → Fresh ρ s.next (s1.next + 1) → FrOk ρ cx fr rd tmps dsC →
      ∃ ρ' w1 mark l', (Instr.enterLoop cx.fn tmps params assign body rd).runL A P w = .ok (l', mark) w1 ∧
        Step A P ρ s w.heap ρ' (s1.new (.loop { state := .ready, pending := none, fn := cx.fn, ts := fr.ts, nt := cx.nt, params := params.toList, assign, body, defers })) w1.heap ∧
        (∃ pl, ρ' s1.next = some pl ∧ pl.b = l') ∧ DsRel ρ' ds (mark ++ dsC) ∧ Aside w w1 := by
  have mkLoop : ∀ (A : Nat → Prop) (ρ : Map) (s : St) (w : World) (tmps : Array Value) (d : Nat) (pd : Pl), Rel A P ρ s w.heap → ρ s.next = none → TR ρ fr.ts cx.nt tmps → ρ d = some pd →
      Step A P ρ s w.heap (ρ.add s.next ⟨w.heap.size, 0, 0⟩) (s.new (.loop { state := .ready, pending := none, fn := cx.fn, ts := fr.ts, nt := cx.nt, params := params.toList, assign, body, defers := d }))
        (w.heap.push (.loop { state := .ready, pending := none, fn := cx.fn, tmps, params, assign, body, defers := pd.b })) := by
    intro A ρ s w tmps d pd hR hf ht hd
    have hle := Map.le_add (l := ⟨w.heap.size, 0, 0⟩) hf
    refine Step.new hR hf ⟨{ state := .ready, pending := none, fn := cx.fn, tmps, params, assign, body, defers := pd.b }, by simp, rfl, rfl, rfl, ht.mono hle, rfl, rfl, rfl, pd, hle _ _ hd, rfl⟩
  unfold openA at h
  cases hrd : cx.round with
  | none =>
    rw [hrd] at h
    cases h
    refine ⟨Nat.le_succ _, fun A ρ w rd tmps dsC hR hF hfr => ?_⟩
    have hrdn : rd = none := by
      have := hfr.rd
      rw [hrd] at this
      cases rd with
      | none => rfl
      | some _ => exact this.elim
    subst hrdn
    have hf0 : ρ s.next = none := hF _ (Nat.le_refl _) (by show s.next < s.next + 1 + 1; omega)
    have S1 : Step A P ρ s w.heap (ρ.add s.next ⟨w.heap.size, 0, 0⟩) (s.new (.deferred true)) (w.heap.push (.deferred (some []))) := Step.new hR hf0 (by show (w.heap.push _)[w.heap.size]? = _; simp)
    have hf1 : (ρ.add s.next ⟨w.heap.size, 0, 0⟩) (s.new (.deferred true)).next = none := by
      show (ρ.add s.next ⟨w.heap.size, 0, 0⟩) (s.next + 1) = none
      unfold Map.add
      rw [if_neg (by omega)]
      exact hF _ (by omega) (by show s.next + 1 < s.next + 1 + 1; omega)
    have S2 := mkLoop A _ (s.new (.deferred true)) { w with heap := w.heap.push (.deferred (some [])) } tmps s.next ⟨w.heap.size, 0, 0⟩ S1.rel hf1 (hfr.tr.mono S1.le) (add_self _ _ _)
    refine ⟨_, { w with heap := (w.heap.push (.deferred (some []))).push (.loop { state := .ready, pending := none, fn := cx.fn, tmps, params, assign, body, defers := w.heap.size }) }, [{ target := .collected w.heap.size, args := #[] }], (w.heap.push (.deferred (some []))).size, ?_, S1.trans S2, ⟨_, add_self _ _ _, rfl⟩, ?_⟩
    · unfold Instr.enterLoop
      simp only [runL_bind, runL_newObj, Result.andThen_ok, runL_pure]
    · exact ⟨⟨⟨⟨w.heap.size, 0, 0⟩, S2.le _ _ (add_self _ _ _), rfl⟩, (hfr.ds.mono S1.le).mono S2.le⟩, (Aside.push w _).trans (Aside.push _ _)⟩
  | some l =>
    rw [hrd] at h
    simp only at h
    split at h
    · rename_i r hg
      cases h
      refine ⟨Nat.le_refl _, fun A ρ w rd tmps dsC hR hF hfr => ?_⟩
      have hr := hfr.rd
      rw [hrd] at hr
      cases rd with
      | none => exact hr.elim
      | some b =>
        obtain ⟨pl, hpl, hb⟩ := hr
        obtain ⟨r', o1, o2, o3⟩ := loop_get hR hg hpl
        obtain ⟨pd, hpd, hpb⟩ := o2.defers
        have hf0 : ρ s.next = none := hF _ (Nat.le_refl _) (Nat.lt_succ_self _)
        have S1 := mkLoop A ρ s w tmps r.defers pd hR hf0 hfr.tr hpd
        refine ⟨_, { w with heap := w.heap.push (.loop { state := .ready, pending := none, fn := cx.fn, tmps, params, assign, body, defers := pd.b }) }, [], w.heap.size, ?_, S1, ⟨_, add_self _ _ _, rfl⟩, hfr.ds.mono S1.le, Aside.push w _⟩
        unfold Instr.enterLoop
        rw [← hb]
        simp only [runL_bind, o3, runL_newObj, Result.andThen_ok, runL_pure, hpb]
    · cases h

theorem st_range {A : Nat → Prop} {fn : FuncId} {rd : Option Nat} {kind : CallKind} {tmps : Array Value} {ds mark : List Deferred} {cs : List Frame} {w w1 w2 : World} {f : Operand} {params : Array Tmp} {assign body : Code} {k : List Item} {l : Nat} {nx : Next} {fn' : Fn} {first' captured' : Array Value}
    (h1 : (Instr.enterLoop fn tmps params assign body rd).runL A P w = .ok (l, mark) w1) (hf : ({ tmps, defers := ds } : Act).eval f = .func fn' first' captured')
    (h2 : (invoke (.fn fn' captured') (first' ++ #[.func (.yield l) #[] #[]])).runL A P w1 = .ok nx w2) (he : isEnter nx) :
    ∃ es, stepG P main (G (mk fn rd kind tmps ds .run (.code (.rangeFunc f params assign body) :: k)) cs) w = .go (G (frameOf P nx .normal) (mk fn rd kind tmps (mark ++ ds) .run (.inRangeFunc l :: k) :: cs)) w2 es ∧ EvAll A w2 es := by
  have hev : (mk fn rd kind tmps (mark ++ ds) .run (.inRangeFunc l :: k)).eval f = .func fn' first' captured' := by rw [← hf]; cases f <;> rfl
  have hc : (mk fn rd kind tmps (mark ++ ds) .run (.inRangeFunc l :: k)).eval (.const (.func (.yield l) #[] #[])) = .func (.yield l) #[] #[] := rfl
  have hrun : (do let d ← resolve (mk fn rd kind tmps (mark ++ ds) .run (.inRangeFunc l :: k)).eval { callee := .value f, args := #[.const (.func (.yield l) #[] #[])], argTypes := #[] } 0; invoke d.target d.args : Sem Next).runL A P w1 = .ok nx w2 := by
    have hm : (#[Operand.const (Value.func (.yield l) #[] #[])] : Array Operand).map (mk fn rd kind tmps (mark ++ ds) .run (.inRangeFunc l :: k)).eval = #[.func (.yield l) #[] #[]] := by simp [hc]
    simp only [resolve, runL_bind, hev, Deferred.ofValue, runL_pure, Result.andThen_ok, hm]
    exact h2
  have hap : ∃ es, stepG.apply P true (mk fn rd kind tmps (mark ++ ds) .run (.inRangeFunc l :: k)) cs none (do let d ← resolve (mk fn rd kind tmps (mark ++ ds) .run (.inRangeFunc l :: k)).eval { callee := .value f, args := #[.const (.func (.yield l) #[] #[])], argTypes := #[] } 0; invoke d.target d.args : Sem Next) w1 = .go (G (frameOf P nx .normal) (mk fn rd kind tmps (mark ++ ds) .run (.inRangeFunc l :: k) :: cs)) w2 es ∧ EvAll A w2 es := by
    cases nx <;> simp only [isEnter] at he
    · exact ap_enter (w := w1) hrun (by intro d r s k h; cases h)
    · exact ap_round (w := w1) hrun
  obtain ⟨es, e, hes⟩ := hap
  have key : ∃ es', EvAll A w1 es' ∧ stepG P main (G (mk fn rd kind tmps ds .run (.code (.rangeFunc f params assign body) :: k)) cs) w = GStep.after es' (stepG.apply P true (mk fn rd kind tmps (mark ++ ds) .run (.inRangeFunc l :: k)) cs none (do let d ← resolve (mk fn rd kind tmps (mark ++ ds) .run (.inRangeFunc l :: k)).eval { callee := .value f, args := #[.const (.func (.yield l) #[] #[])], argTypes := #[] } 0; invoke d.target d.args : Sem Next) w1) := by
    refine ⟨seen P fn ((Instr.enterLoop fn tmps params assign body rd).events P w #[]), ev_seen h1, ?_⟩
    simp only [stepG, G, mk, stepG.exec, Sem.runT_eq, runL_run h1]
  obtain ⟨es', hes', e'⟩ := key
  rw [e', e]
  exact ⟨_, rfl, (hes'.later (runL_size h2)).append hes⟩

theorem st_endrange {A : Nat → Prop} {fn : FuncId} {rd : Option Nat} {kind : CallKind} {tmps : Array Value} {ds : List Deferred} {cs : List Frame} {w w1 : World} {k : List Item} {l : Nat} {jump : Option Code} (h : (Instr.endLoop l).runL A P w = .ok jump w1) :
    ∃ es, stepG P main (G (mk fn rd kind tmps ds .run (.endRangeFunc l :: k)) cs) w = .go (G (mk fn rd kind tmps ds .run ((jump.map Item.code).toList ++ k)) cs) w1 es ∧ EvAll A w1 es := by
  simp only [stepG, G, mk, stepG.exec, Sem.runT_eq, runL_run h]
  exact ⟨_, rfl, (ev_seen h).append EvAll.nil⟩

theorem code_sound (C : Good P) {rec : Task → Option Res} (hrec : RecOk P main rec) {cx : Cx} {c : Code} {fr fr' : Fr} {s s' : St} {e : AEx} (h : stepT P rec (.code cx c fr s) = some (.code e fr' s')) :
    s.next ≤ s'.next ∧ ∃ N, CodeSem P main cx c fr s e fr' s' N := by
  unfold stepT at h
  simp only at h
  cases c with
  | skip =>
    cases h
    refine ⟨Nat.le_refl _, 1, CodeSem.of (by intro c' x; cases x) fun ρ w rd kind tmps defers k cs Stop m hR hF hfr hke hK => ?_⟩
    exact C.idle rfl (fun w₁ => st_skip) (hK ρ w tmps defers (StepF.refl hR) hfr)
  | label l =>
    cases h
    refine ⟨Nat.le_refl _, 1, CodeSem.of (by intro c' x; cases x) fun ρ w rd kind tmps defers k cs Stop m hR hF hfr hke hK => ?_⟩
    exact C.idle rfl (fun w₁ => st_label) (hK ρ w tmps defers (StepF.refl hR) hfr)
  | ret =>
    cases h
    refine ⟨Nat.le_refl _, 0, CodeSem.of (by intro c' x; cases x) fun ρ w rd kind tmps defers k cs Stop m hR hF hfr hke hK => ?_⟩
    exact hK ρ w tmps defers (StepF.refl hR) hfr k
  | exit id =>
    cases h
    refine ⟨Nat.le_refl _, 0, CodeSem.of (by intro c' x; cases x) fun ρ w rd kind tmps defers k cs Stop m hR hF hfr hke hK => ?_⟩
    exact hK ρ w tmps defers (StepF.refl hR) hfr k rfl
  | seq a b =>
    simp only at h
    cases ha : rec (.code cx a fr s) with
    | none => rw [ha] at h; cases h
    | some r =>
      rw [ha] at h
      cases r with
      | val => cases h
      | code e1 fr1 s1 =>
        obtain ⟨n1, N1, hN1⟩ := hrec.1 _ _ _ _ _ _ _ ha
        cases e1 with
        | normal =>
          simp only at h
          obtain ⟨n2, N2, hN2⟩ := hrec.1 _ _ _ _ _ _ _ h
          refine ⟨Nat.le_trans n1 n2, N2 + N1 + 1, CodeSem.of (by intro c' x; cases x) fun ρ w rd kind tmps defers k cs Stop m hR hF hfr hke hK => ?_⟩
          have eq : m + (N2 + N1 + 1) = (m + N2) + N1 + 1 := by omega
          rw [eq]
          refine C.idle rfl (fun w₁ => st_seq) ?_
          refine hN1 ρ w rd kind tmps defers (.code b :: k) cs Stop (m + N2) _ (.inl rfl) hR (hF.left n2) hfr hke fun ρ1 w1 t1 d1 S1 F1 => ?_
          exact hN2 ρ1 w1 rd kind t1 d1 k cs Stop m _ (.inl rfl) S1.rel (S1.fresh (c := s'.next) hF) F1 hke fun ρ2 w2 t2 d2 S2 F2 => hK ρ2 w2 t2 d2 (S1.trans S2) F2
        | exit i =>
          cases h
          refine ⟨n1, N1 + 1, CodeSem.of (by intro c' x; cases x) fun ρ w rd kind tmps defers k cs Stop m hR hF hfr hke hK => ?_⟩
          rw [← Nat.add_assoc]
          refine C.idle rfl (fun w₁ => st_seq) ?_
          exact hN1 ρ w rd kind tmps defers (.code b :: k) cs Stop m _ (.inl rfl) hR hF hfr hke fun ρ1 w1 t1 d1 S1 F1 => (hK ρ1 w1 t1 d1 S1 F1).pass (by simp) fun _ => rfl
        | ret =>
          cases h
          refine ⟨n1, N1 + 1, CodeSem.of (by intro c' x; cases x) fun ρ w rd kind tmps defers k cs Stop m hR hF hfr hke hK => ?_⟩
          rw [← Nat.add_assoc]
          refine C.idle rfl (fun w₁ => st_seq) ?_
          exact hN1 ρ w rd kind tmps defers (.code b :: k) cs Stop m _ (.inl rfl) hR hF hfr hke fun ρ1 w1 t1 d1 S1 F1 => (hK ρ1 w1 t1 d1 S1 F1).pass (by simp) fun _ => rfl
  | cond x a b =>
    simp only at h
    split at h
    · rename_i t hx
      obtain ⟨n1, N1, hN1⟩ := hrec.1 _ _ _ _ _ _ _ h
      refine ⟨n1, N1 + 1, CodeSem.of (by intro c' x; cases x) fun ρ w rd kind tmps defers k cs Stop m hR hF hfr hke hK => ?_⟩
      rw [← Nat.add_assoc]
      have hv := eval_sound hR hfr.tr defers x _ hx
      generalize hcx : ({ tmps, defers } : Act).eval x = cx' at hv
      cases hv
      refine C.idle rfl (fun w₁ => st_cond hcx) ?_
      have : (if t then a else b) = (bif t then a else b) := by cases t <;> rfl
      rw [this]
      exact hN1 ρ w rd kind tmps defers k cs Stop m _ (.inl rfl) hR hF hfr hke hK
    · cases h
  | block id c =>
    simp only at h
    cases hc : rec (.code cx c fr s) with
    | none => rw [hc] at h; cases h
    | some r =>
      rw [hc] at h
      cases r with
      | val => cases h
      | code e1 fr1 s1 =>
        obtain ⟨n1, N1, hN1⟩ := hrec.1 _ _ _ _ _ _ _ hc
        cases e1 with
        | normal =>
          cases h
          refine ⟨n1, 1 + N1 + 1, CodeSem.of (by intro c' x; cases x) fun ρ w rd kind tmps defers k cs Stop m hR hF hfr hke hK => ?_⟩
          have eq : m + (1 + N1 + 1) = (m + 1) + N1 + 1 := by omega
          rw [eq]
          refine C.idle rfl (fun w₁ => st_block) ?_
          refine hN1 ρ w rd kind tmps defers (.inBlock id :: k) cs Stop (m + 1) _ (.inl rfl) hR hF hfr hke fun ρ1 w1 t1 d1 S1 F1 => ?_
          exact C.idle rfl (fun w₁ => st_inBlock) (hK ρ1 w1 t1 d1 S1 F1)
        | exit i =>
          simp only at h
          cases hi : i.beq id with
          | true =>
            rw [hi] at h
            cases h
            refine ⟨n1, 1 + N1 + 1, CodeSem.of (by intro c' x; cases x) fun ρ w rd kind tmps defers k cs Stop m hR hF hfr hke hK => ?_⟩
            have eq : m + (1 + N1 + 1) = (m + 1) + N1 + 1 := by omega
            rw [eq]
            refine C.idle rfl (fun w₁ => st_block) ?_
            refine hN1 ρ w rd kind tmps defers (.inBlock id :: k) cs Stop (m + 1) _ (.inl rfl) hR hF hfr hke fun ρ1 w1 t1 d1 S1 F1 => ?_
            intro k' hk'
            have : exitTo i k' = some k := by rw [hk', exitTo_block, of_beqT hi]; simp
            exact C.idle rfl (fun w₁ => st_exit this) (hK ρ1 w1 t1 d1 S1 F1)
          | false =>
            rw [hi] at h
            cases h
            refine ⟨n1, N1 + 1, CodeSem.of (by intro c' x; cases x) fun ρ w rd kind tmps defers k cs Stop m hR hF hfr hke hK => ?_⟩
            rw [← Nat.add_assoc]
            refine C.idle rfl (fun w₁ => st_block) ?_
            refine hN1 ρ w rd kind tmps defers (.inBlock id :: k) cs Stop m _ (.inl rfl) hR hF hfr hke fun ρ1 w1 t1 d1 S1 F1 => ?_
            intro k' hk'
            refine hK ρ1 w1 t1 d1 S1 F1 k' ?_
            rw [hk', exitTo_block, if_neg]
            have := of_beqF hi
            simpa using fun e => this e.symm
        | ret =>
          cases h
          refine ⟨n1, N1 + 1, CodeSem.of (by intro c' x; cases x) fun ρ w rd kind tmps defers k cs Stop m hR hF hfr hke hK => ?_⟩
          rw [← Nat.add_assoc]
          refine C.idle rfl (fun w₁ => st_block) ?_
          exact hN1 ρ w rd kind tmps defers (.inBlock id :: k) cs Stop m _ (.inl rfl) hR hF hfr hke fun ρ1 w1 t1 d1 S1 F1 k' => hK ρ1 w1 t1 d1 S1 F1 k'
  | scope c =>
    simp only at h
    obtain ⟨n1, N1, hN1⟩ := hrec.1 _ _ _ _ _ _ _ h
    refine ⟨n1, 1 + N1 + 1, CodeSem.of (by intro c' x; cases x) fun ρ w rd kind tmps defers k cs Stop m hR hF hfr hke hK => ?_⟩
    have eq : m + (1 + N1 + 1) = (m + 1) + N1 + 1 := by omega
    rw [eq]
    refine C.idle rfl (fun w₁ => st_scope) ?_
    refine hN1 ρ w rd kind tmps defers (.inScope c :: k) cs Stop (m + 1) _ (.inl rfl) hR hF hfr hke fun ρ1 w1 t1 d1 S1 F1 => ?_
    have hk := hK ρ1 w1 t1 d1 S1 F1
    cases e with
    | normal => exact C.idle rfl (fun w₁ => st_inScope) hk
    | exit i => exact (hk.pass (by simp) fun _ => rfl).more (Nat.le_succ m)
    | ret => exact (hk.pass (by simp) fun _ => rfl).more (Nat.le_succ m)
  | loop c =>
    simp only at h
    have start : ∀ {rd kind tmps defers k cs w} {it : Item}, Starts (.loop c) it → stepG P main (G (mk cx.fn rd kind tmps defers .run (it :: k)) cs) w = .go (G (mk cx.fn rd kind tmps defers .run (.code c :: .inLoop c :: k)) cs) w #[] := by
      intro rd kind tmps defers k cs w it hit
      rcases hit with rfl | ⟨c', hc', rfl⟩
      · exact st_loop
      · cases hc'; exact st_inLoop
    cases hc : rec (.code cx c fr s) with
    | none => rw [hc] at h; cases h
    | some r =>
      rw [hc] at h
      cases r with
      | val => cases h
      | code e1 fr1 s1 =>
        obtain ⟨n1, N1, hN1⟩ := hrec.1 _ _ _ _ _ _ _ hc
        cases e1 with
        | normal =>
          simp only at h
          obtain ⟨n2, N2, hN2⟩ := hrec.1 _ _ _ _ _ _ _ h
          refine ⟨Nat.le_trans n1 n2, N2 + N1 + 1, ?_⟩
          intro ρ w rd kind tmps defers k cs Stop m it hit hR hF hfr hke hK
          have eq : m + (N2 + N1 + 1) = (m + N2) + N1 + 1 := by omega
          rw [eq]
          refine C.idle rfl (fun w₁ => start hit) ?_
          refine hN1 ρ w rd kind tmps defers (.inLoop c :: k) cs Stop (m + N2) _ (.inl rfl) hR (hF.left n2) hfr hke fun ρ1 w1 t1 d1 S1 F1 => ?_
          exact hN2 ρ1 w1 rd kind t1 d1 k cs Stop m _ (.inr ⟨c, rfl, rfl⟩) S1.rel (S1.fresh (c := s'.next) hF) F1 hke fun ρ2 w2 t2 d2 S2 F2 => hK ρ2 w2 t2 d2 (S1.trans S2) F2
        | exit i =>
          cases h
          refine ⟨n1, N1 + 1, ?_⟩
          intro ρ w rd kind tmps defers k cs Stop m it hit hR hF hfr hke hK
          rw [← Nat.add_assoc]
          refine C.idle rfl (fun w₁ => start hit) ?_
          exact hN1 ρ w rd kind tmps defers (.inLoop c :: k) cs Stop m _ (.inl rfl) hR hF hfr hke fun ρ1 w1 t1 d1 S1 F1 => (hK ρ1 w1 t1 d1 S1 F1).pass (by simp) fun _ => rfl
        | ret =>
          cases h
          refine ⟨n1, N1 + 1, ?_⟩
          intro ρ w rd kind tmps defers k cs Stop m it hit hR hF hfr hke hK
          rw [← Nat.add_assoc]
          refine C.idle rfl (fun w₁ => start hit) ?_
          exact hN1 ρ w rd kind tmps defers (.inLoop c :: k) cs Stop m _ (.inl rfl) hR hF hfr hke fun ρ1 w1 t1 d1 S1 F1 => (hK ρ1 w1 t1 d1 S1 F1).pass (by simp) fun _ => rfl
  | region id ops draw =>
    simp only at h
    obtain ⟨r, hr, h1⟩ := bind_some h
    cases h1
    obtain ⟨fr2, s2⟩ := r
    cases draw with
    | true =>
      obtain ⟨n1, N1, hN1⟩ := draw_sound C hrec hr
      exact ⟨n1, N1, CodeSem.of (by intro c' x; cases x) fun ρ w rd kind tmps defers k cs Stop m hR hF hfr hke hK => hN1 id ρ w rd kind tmps defers k cs Stop m hR hF hfr hK⟩
    | false =>
      obtain ⟨n1, N1, hN1⟩ := ops_sound C hrec _ _ _ _ _ hr
      refine ⟨n1, N1 + 1, CodeSem.of (by intro c' x; cases x) fun ρ w rd kind tmps defers k cs Stop m hR hF hfr hke hK => ?_⟩
      rw [← Nat.add_assoc]
      refine C.idle rfl (fun w₁ => st_region) ?_
      have := hN1 0 (by simp) ρ w rd kind tmps defers k cs Stop m hR hF hfr hK
      rw [List.range_eq_range']
      simpa using this
  | goto l => cases h
  | refuse r => cases h
  | rangeFunc f params assign body =>
    simp only at h
    split at h
    · cases h
    · rename_i defers ds s1 hop
      obtain ⟨n1, hopen⟩ := open_sound (P := P) hop params assign body
      split at h
      · rename_i fn first captured hfv
        split at h
        · rename_i v3 s3 hinv
          split at h
          · rename_i r hg3
            obtain ⟨n2, N, hN⟩ := inv_sound C hrec hinv
            have n2 : s1.next + 1 ≤ s3.next := n2
            have hst : r.state ≠ .busy := by intro x; rw [x] at h; cases h
            have fin : fr' = { fr with ds } ∧ s' = s3.kill s1.next ∧ ((r.pending = none ∧ e = .normal) ∨ (∃ i, r.pending = some (.exit i) ∧ e = .exit i) ∨ (r.pending = some .ret ∧ e = .ret)) := by
              have key : (match r.pending with
                | none => some (Res.code .normal { fr with ds } (s3.kill s1.next))
                | some (.exit id) => some (.code (.exit id) { fr with ds } (s3.kill s1.next))
                | some .ret => some (.code .ret { fr with ds } (s3.kill s1.next))
                | _ => none) = some (.code e fr' s') := by
                cases hs : r.state <;> rw [hs] at h <;> first | exact h | exact absurd hs hst
              split at key
              · rename_i hp; cases key; exact ⟨rfl, rfl, .inl ⟨hp, rfl⟩⟩
              · rename_i hp; cases key; exact ⟨rfl, rfl, .inr (.inl ⟨_, hp, rfl⟩)⟩
              · rename_i hp; cases key; exact ⟨rfl, rfl, .inr (.inr ⟨hp, rfl⟩)⟩
              · cases key
            obtain ⟨rfl, rfl, hp⟩ := fin
            refine ⟨show s.next ≤ s3.next by omega, 1 + N + 1, CodeSem.of (by intro c' x; cases x) fun ρ w rd kind tmps dsC k cs Stop m hR hF hfr hke hK => ?_⟩
            have hF : Fresh ρ s.next s3.next := hF
            have eq : m + (1 + N + 1) = (m + 1) + N + 1 := by omega
            rw [eq]
            have vf := eval_sound hR hfr.tr dsC f _ hfv
            generalize hcf : ({ tmps, defers := dsC } : Act).eval f = cf at vf
            cases vf
            rename_i fn' first' captured' hfn hfirst hcap
            refine C.step rfl fun w₁ hw₁ => ?_
            have hR₁ := hR.rely hw₁
            obtain ⟨ρ1, w1, mark, l', o1, S1, ⟨pl, hpl, hpb⟩, hds, ha1⟩ := hopen _ ρ w₁.w rd tmps dsC hR₁ (hF.left n2) hfr
            have vargs : VL ρ1 (first ++ [.func (.yield s1.next) [] []]) (first' ++ #[Value.func (.yield l') #[] #[]]).toList := by
              rw [Array.toList_append]
              have hy : V ρ1 (.func (.yield s1.next) [] []) (.func (.yield l') #[] #[]) := by
                rw [← hpb]
                exact .func (.yield hpl) .nil .nil
              exact (hfirst.mono S1.le).append (.cons hy .nil)
            have hF1 : Fresh ρ1 (s1.next + 1) s3.next := S1.fresh (c := s3.next) hF
            obtain ⟨nx, i1, i2, i3⟩ := hN ρ1 (w₁.next w1) fn' captured' _ S1.rel.next hF1 (hfn.mono S1.le) (hcap.mono S1.le) vargs
            rw [FW.next_A S1.size] at i1
            obtain ⟨es, e1, hes⟩ := st_range (main := main) (kind := kind) (cs := cs) (k := k) o1 hcf i1 i2
            refine ⟨_, w1, es, e1, ?_, Guar.of hR₁ S1 ha1 hes⟩
            refine i3 .normal _ cs Stop (m + 1) (.inl rfl) fun ρ2 w2 v' S2 hv => ?_
            show GoF P main Stop (m + 1) (G ((mk cx.fn rd kind tmps (mark ++ dsC) .run (.inRangeFunc l' :: k)).finish v') cs) w2
            have hfin : (mk cx.fn rd kind tmps (mark ++ dsC) .run (.inRangeFunc l' :: k)).finish v' = mk cx.fn rd kind tmps (mark ++ dsC) .run (.endRangeFunc l' :: k) := rfl
            rw [hfin]
            refine C.step rfl fun w₂ hw₂ => ?_
            have hR2 : Rel w₂.A P ρ2 s3 w₂.heap := S2.rel.rely hw₂
            have hpl2 := S2.le _ _ hpl
            obtain ⟨r', p1, p2, p3⟩ := loop_get hR2 hg3 hpl2
            obtain ⟨w3, q1, q2, q3⟩ := loop_set (r₂ := { r with state := .exhausted }) (r₂' := { r' with state := .exhausted }) hR2 hg3 hpl2 p1 ⟨rfl, p2.pending, p2.fn, p2.tmps, p2.params, p2.assign, p2.body, p2.defers⟩
            have hst' : (r'.state == LoopState.busy) = false := by
              rw [p2.state]
              cases hs : r.state <;> first | rfl | exact absurd hs hst
            have hend : (Instr.endLoop l').runL w₂.A P w₂.w = .ok r'.pending w3 := by
              unfold Instr.endLoop
              rw [← hpb]
              simp only [runL_bind, p3, Result.andThen_ok, hst', Bool.false_eq_true, if_false, q1, runL_pure]
            obtain ⟨es2, e2, hes2⟩ := st_endrange (main := main) (fn := cx.fn) (rd := rd) (kind := kind) (tmps := tmps) (ds := mark ++ dsC) (cs := cs) (k := k) hend
            refine ⟨_, w3, es2, e2, ?_, Guar.of hR2 q2 q3 hes2⟩
            have S3 : StepF P ρ s w ρ2 (s3.kill s1.next) (w₂.next w3) := by
              refine ((((StepF.of S1).pre hw₁).trans S2)).trans (((StepF.of q2).pre hw₂).sub (fun id o h => ?_) rfl)
              rw [St.get_kill] at h
              rw [St.get_set]
              by_cases e : id = s1.next
              · rw [if_pos e] at h; cases h
              · rw [if_neg e] at h ⊢; exact h
            have hle := Map.le_trans S1.le S2.le
            have hk := hK ρ2 (w₂.next w3) tmps (mark ++ dsC) S3 ⟨hfr.tr.mono hle, hds.mono S2.le, hfr.rd.mono hle⟩
            rw [p2.pending]
            rcases hp with ⟨hp, rfl⟩ | ⟨i, hp, rfl⟩ | ⟨hp, rfl⟩
            · rw [hp]; exact hk
            · rw [hp]; exact hk k rfl
            · rw [hp]; exact hk k
          · cases h
        · cases h
      · cases h

/-- One round more of the evaluator is right, if those before were. -/
theorem step_sound (C : Good P) {rec : Task → Option Res} (hrec : RecOk P main rec) : RecOk P main (stepT P rec) :=
  ⟨fun _ _ _ _ _ _ _ h => code_sound C hrec h, fun _ _ _ _ _ h => call_sound C hrec h⟩

theorem run_sound (C : Good P) : ∀ n, RecOk P main (run P n)
  | 0 => by
    constructor
    · intro _ _ _ _ _ _ _ h; cases h
    · intro _ _ _ _ _ h; cases h
  | n + 1 => step_sound C (run_sound C n)

end
end Go.Ab

