/- Own text of this claim: part Ab32. -/
import Derived.Test.YtjffanafmodhdaaGreatDoorAb31
set_option linter.unusedVariables false
set_option linter.unusedSimpArgs false
set_option linter.unusedSectionVars false
set_option linter.unnecessarySimpa false
/-
  Own library, part 32: each move of the stack of frames is right.
-/
namespace Go.Ab
open Go.Conc (G)

section
variable {P : Program} {main : Bool}

variable (P main) in
def AdvSem (a : AG) (s : St) (a' : AG) (s' : St) : Prop :=
  s.next ≤ s'.next ∧ ∃ N, ∀ (ρ : Map) (x : FW) (bs : List Frame) (g : Goroutine) (Stop : Goroutine → FW → Prop) (m : Nat), GRel ρ a bs g → Rel x.A P ρ s x.heap → Fresh ρ s.next s'.next →
    (∀ ρ' x' g', StepF P ρ s x ρ' s' x' → GRel ρ' a' bs g' → GoF P main Stop m g' x') → GoF P main Stop (m + N) g x

theorem AdvSem.refl (a : AG) (s : St) : AdvSem P main a s a s := ⟨Nat.le_refl _, 0, fun ρ x _ g _ _ hg hR _ hK => hK ρ x g (StepF.refl hR) hg⟩

theorem AdvSem.trans {a b c : AG} {s s1 s2 : St} (h : AdvSem P main a s b s1) (h' : AdvSem P main b s1 c s2) : AdvSem P main a s c s2 := by
  obtain ⟨n1, N1, h1⟩ := h
  obtain ⟨n2, N2, h2⟩ := h'
  refine ⟨Nat.le_trans n1 n2, N2 + N1, fun ρ x bs g Stop m hg hR hF hK => ?_⟩
  rw [← Nat.add_assoc]
  refine h1 ρ x bs g Stop (m + N2) hg hR (hF.left n2) fun ρ1 x1 g1 S1 hg1 => ?_
  exact h2 ρ1 x1 bs g1 Stop m hg1 S1.rel (S1.fresh hF) fun ρ2 x2 g2 S2 hg2 => hK ρ2 x2 g2 (S1.trans S2) hg2

theorem finish_opC {fn : FuncId} {rd : Option Nat} {kind : CallKind} {tmps : Array Value} {defers : List Deferred} {ops : Array Oper} {i : Nat} {rest : List Nat} {k : List Item} {v : Value} :
    (mk fn rd kind tmps defers .run (.inRegion ops (i :: rest) :: k)).finish v = mk fn rd kind (putC tmps ((ops[i]?).bind (·.dst)) v) defers .run (.inRegion ops rest :: k) := by
  rw [finish_op]
  rfl

theorem kindOf_ne (b : Bool) : kindOf b ≠ .early := by cases b <;> simp [kindOf]

theorem grel_run {ρ : Map} {a : AG} {bs : List Frame} {g : Goroutine} (h : GRel ρ a bs g) (hr : a.top.ret = false) :
    ∃ tmps defers fs, g = G (mk a.top.fn none (kindOf a.top.nrm) tmps defers .run a.top.todo) (fs ++ bs) ∧ TR ρ a.top.ts a.top.nt tmps ∧ DsRel ρ a.top.ds defers ∧ FsRel ρ a.cs fs := by
  obtain ⟨f, fs, h1, ⟨⟨tmps, defers, todo, h2, h3, h4, h5⟩⟩, h6⟩ := h.is
  refine ⟨tmps, defers, fs, ?_, h4, h5, h6⟩
  rw [h1, h2, hr, h3 hr]
  rfl

theorem grel_ret {ρ : Map} {a : AG} {bs : List Frame} {g : Goroutine} (h : GRel ρ a bs g) (hr : a.top.ret = true) :
    ∃ tmps defers todo fs, g = G (mk a.top.fn none (kindOf a.top.nrm) tmps defers .returning todo) (fs ++ bs) ∧ TR ρ a.top.ts a.top.nt tmps ∧ DsRel ρ a.top.ds defers ∧ FsRel ρ a.cs fs := by
  obtain ⟨f, fs, h1, ⟨⟨tmps, defers, todo, h2, _, h4, h5⟩⟩, h6⟩ := h.is
  refine ⟨tmps, defers, todo, fs, ?_, h4, h5, h6⟩
  rw [h1, h2, hr]
  rfl

theorem grel_of {ρ : Map} {a : AFr} {cs : List AFr} {bs fs : List Frame} {tmps : Array Value} {defers : List Deferred} (hr : a.ret = false) (h4 : TR ρ a.ts a.nt tmps) (h5 : DsRel ρ a.ds defers) (h6 : FsRel ρ cs fs) :
    GRel ρ { top := a, cs } bs (G (mk a.fn none (kindOf a.nrm) tmps defers .run a.todo) (fs ++ bs)) :=
  ⟨_, fs, rfl, ⟨tmps, defers, a.todo, by rw [hr]; rfl, fun _ => rfl, h4, h5⟩, h6⟩

theorem grel_of_ret {ρ : Map} {a : AFr} {cs : List AFr} {bs fs : List Frame} {tmps : Array Value} {defers : List Deferred} {todo : List Item} (hr : a.ret = true) (h4 : TR ρ a.ts a.nt tmps) (h5 : DsRel ρ a.ds defers) (h6 : FsRel ρ cs fs) :
    GRel ρ { top := a, cs } bs (G (mk a.fn none (kindOf a.nrm) tmps defers .returning todo) (fs ++ bs)) :=
  ⟨_, fs, rfl, ⟨tmps, defers, todo, by rw [hr]; rfl, (fun e => by rw [hr] at e; cases e), h4, h5⟩, h6⟩

/-- A move of control. -/
theorem idle_adv (C : Good P) {a a' : AG} {s : St} (h : ∀ (A : Nat → Prop) (H : Array Obj) ρ bs g, Rel A P ρ s H → GRel ρ a bs g → g.status = .running ∧ ∃ g', (∀ w, stepG P main g w = .go g' w #[]) ∧ GRel ρ a' bs g') : AdvSem P main a s a' s :=
  ⟨Nat.le_refl _, 1, fun ρ x bs g Stop m hg hR _ hK => by
    obtain ⟨hs, g', h1, h2⟩ := h _ _ ρ bs g hR hg
    exact C.idle hs h1 (hK ρ x g' (StepF.refl hR) h2)⟩

theorem codeU_sound (C : Good P) {a : AG} {s : St} {c : Code} {k : List Item} {f : AFr} (hr : a.top.ret = false) (ht : a.top.todo = .code c :: k) (h : codeU P a.top c k = some f) : AdvSem P main a s { a with top := f } s := by
  refine idle_adv C fun A H ρ bs g hR hg => ?_
  obtain ⟨tmps, defers, fs, rfl, h4, h5, h6⟩ := grel_run hg hr
  refine ⟨rfl, ?_⟩
  rw [ht]
  have done : ∀ k', f = a.top.at k' → (∀ w, stepG P main (G (mk a.top.fn none (kindOf a.top.nrm) tmps defers .run (.code c :: k)) (fs ++ bs)) w = .go (G (mk a.top.fn none (kindOf a.top.nrm) tmps defers .run k') (fs ++ bs)) w #[]) →
      ∃ g', (∀ w, stepG P main (G (mk a.top.fn none (kindOf a.top.nrm) tmps defers .run (.code c :: k)) (fs ++ bs)) w = .go g' w #[]) ∧ GRel ρ { a with top := f } bs g' := by
    rintro k' rfl h1
    exact ⟨_, h1, grel_of (a := a.top.at k') hr h4 h5 h6⟩
  cases c with
  | seq x y => cases h; exact done _ rfl fun w => st_seq
  | cond o x y =>
    simp only [codeU] at h
    split at h
    · rename_i t ho
      cases h
      have hv := eval_sound hR h4 defers o _ ho
      generalize hcx : ({ tmps, defers } : Act).eval o = cx' at hv
      cases hv
      refine done _ rfl fun w => ?_
      have h1 := st_cond (P := P) (main := main) (fn := a.top.fn) (rd := none) (kind := kindOf a.top.nrm) (x := x) (y := y) (k := k) (cs := fs ++ bs) (w := w) hcx
      rw [h1]
      cases t <;> rfl
    · cases h
  | block i x => cases h; exact done _ rfl fun w => st_block
  | loop x => cases h; exact done _ rfl fun w => st_loop
  | scope x => cases h; exact done _ rfl fun w => st_scope
  | region i ops d =>
    cases d with
    | false => cases h; exact done _ rfl fun w => st_region
    | true => cases h
  | skip => cases h
  | ret => cases h
  | exit i => cases h
  | label l => cases h
  | goto l => cases h
  | refuse r => cases h
  | rangeFunc f p x y => cases h

theorem codeN_sound (C : Good P) {rec : Task → Option Res} (hrec : RecOk P main rec) {a : AG} {s s' : St} {c : Code} {k : List Item} {f : AFr} (hr : a.top.ret = false) (ht : a.top.todo = .code c :: k) (h : codeN rec a.top c k s = some (f, s')) : AdvSem P main a s { a with top := f } s' := by
  unfold codeN at h
  cases hc : rec (.code { fn := a.top.fn, round := none, nt := a.top.nt } c { ts := a.top.ts, ds := a.top.ds } s) with
  | none => rw [hc] at h; cases h
  | some r =>
    rw [hc] at h
    cases r with
    | val => cases h
    | code e fr s1 =>
      obtain ⟨n1, N1, hN1⟩ := hrec.1 _ _ _ _ _ _ _ hc
      have run : ∀ (ρ : Map) (x : FW) (bs : List Frame) (g : Goroutine) (Stop : Goroutine → FW → Prop) (m : Nat), GRel ρ a bs g → Rel x.A P ρ s x.heap → Fresh ρ s.next s1.next →
          (∀ ρ' x' tmps' defers' fs, StepF P ρ s x ρ' s1 x' → TR ρ' fr.ts a.top.nt tmps' → DsRel ρ' fr.ds defers' → FsRel ρ' a.cs fs →
            AfterG P main Stop m e a.top.fn none (kindOf a.top.nrm) tmps' defers' k (fs ++ bs) x') → GoF P main Stop (m + N1) g x := by
        intro ρ x bs g Stop m hg hR hF hK
        obtain ⟨tmps, defers, fs, rfl, h4, h5, h6⟩ := grel_run hg hr
        rw [ht]
        refine hN1 ρ x none (kindOf a.top.nrm) tmps defers k (fs ++ bs) Stop m _ (.inl rfl) hR hF ⟨h4, h5, trivial⟩ (kindOf_ne _) fun ρ1 x1 t1 d1 S1 F1 => ?_
        exact hK ρ1 x1 t1 d1 fs S1 F1.tr F1.ds (h6.mono S1.le)
      cases e with
      | normal =>
        cases h
        exact ⟨n1, N1, fun ρ x bs g Stop m hg hR hF hK => run ρ x bs g Stop m hg hR hF fun ρ' x' t d fs S h4 h5 h6 =>
          hK ρ' x' _ S (grel_of (a := { a.top with ts := fr.ts, ds := fr.ds, todo := k }) hr h4 h5 h6)⟩
      | ret =>
        cases h
        refine ⟨n1, 1 + N1, fun ρ x bs g Stop m hg hR hF hK => ?_⟩
        rw [← Nat.add_assoc]
        refine run ρ x bs g Stop (m + 1) hg hR hF fun ρ' x' t d fs S h4 h5 h6 k' => ?_
        exact C.idle rfl (fun w => st_ret) (hK ρ' x' _ S (grel_of_ret (a := { a.top with ts := fr.ts, ds := fr.ds, ret := true, todo := [] }) rfl h4 h5 h6))
      | exit i =>
        simp only at h
        split at h
        · rename_i k' hk'
          cases h
          refine ⟨n1, 1 + N1, fun ρ x bs g Stop m hg hR hF hK => ?_⟩
          rw [← Nat.add_assoc]
          refine run ρ x bs g Stop (m + 1) hg hR hF fun ρ' x' t d fs S h4 h5 h6 k2 hk2 => ?_
          exact C.idle rfl (fun w => st_exit (by rw [hk2]; exact hk')) (hK ρ' x' _ S (grel_of (a := { a.top with ts := fr.ts, ds := fr.ds, todo := k' }) hr h4 h5 h6))
        · cases h

theorem enterA_spec {f : FuncId} {args : List AV} {nrm : Bool} {a : AFr} (h : enterA P f args nrm = some a) :
    ∃ fn c, P.funcs[f]? = some fn ∧ fn.body = some c ∧ a = { fn := f, nt := args.length + (fn.ntmps - args.length), ts := T.ofListFrom 0 args .leaf, ds := [], nrm, ret := false, todo := [.code c] } := by
  unfold enterA at h
  split at h
  · cases h
  · rename_i fn hfn
    split at h
    · cases h
    · rename_i c hc
      cases h
      exact ⟨fn, c, hfn, hc, rfl⟩

theorem enter_rel {ρ : Map} {f : FuncId} {args : List AV} {args' : Array Value} {nrm : Bool} {a : AFr} {cs : List AFr} {bs fs : List Frame} (h : enterA P f args nrm = some a) (ha : VL ρ args args'.toList) (hc : FsRel ρ cs fs) :
    GRel ρ { top := a, cs } bs (G (Frame.enter P f args' (kindOf nrm)) (fs ++ bs)) := by
  obtain ⟨fn, c, hfn, hb, rfl⟩ := enterA_spec h
  have hframe : Frame.enter P f args' (kindOf nrm) = mk f none (kindOf nrm) (args' ++ Array.replicate (fn.ntmps - args'.size) undef) [] .run [.code c] := by
    simp only [Frame.enter, hfn, Option.map_some, Option.getD_some, Option.bind_some, hb, mk]
  rw [hframe]
  exact grel_of (a := { fn := f, nt := args.length + (fn.ntmps - args.length), ts := T.ofListFrom 0 args .leaf, ds := [], nrm, ret := false, todo := [.code c] }) rfl (enter_TR ha fn.ntmps) trivial hc

theorem invoke_enter (C : Good P) {A : Nat → Prop} {g : FuncId} {captured' args' : Array Value} {args : List AV} {nrm : Bool} {f : AFr} (h : enterA P g args nrm = some f) (w : World) : (invoke (.fn (.func g) captured') args').runL A P w = .ok (.enter g (args' ++ captured')) w := by
  obtain ⟨fn, c, hfn, hb, _⟩ := enterA_spec h
  simp only [invoke, callFunc, runL_bind, runL_program, Result.andThen_ok, hfn, C.names g fn hfn, Bool.false_eq_true, if_false, hb, Option.isNone_some, runL_pure]

theorem put_sound (C : Good P) {a : AG} {s : St} {ops : Array Oper} {i : Nat} {rest : List Nat} {k : List Item} {o : Oper} {f : AFr} (hr : a.top.ret = false) (ht : a.top.todo = .inRegion ops (i :: rest) :: k) (ho : ops[i]? = some o) (hw : wantedA ops a.top.ts o = false)
    (h : a.top.put o.dst undefA (.inRegion ops rest :: k) = some f) : AdvSem P main a s { a with top := f } s := by
  refine idle_adv C fun A H ρ bs g hR hg => ?_
  obtain ⟨tmps, defers, fs, rfl, h4, h5, h6⟩ := grel_run hg hr
  refine ⟨rfl, ?_⟩
  rw [ht]
  obtain ⟨e, h7⟩ := AFr.put_rel (v' := undef) h h4 (.tuple .nil)
  refine ⟨_, fun w => st_skipop (by rw [ho]; show Region.wanted o (yielded ops tmps) = false; rw [wanted_sound h4]; exact hw), ?_⟩
  rw [finish_opC, ho, e]
  exact grel_of (a := { a.top with ts := f.ts, todo := .inRegion ops rest :: k }) hr h7 h5 h6

theorem opU_sound (C : Good P) {rec : Task → Option Res} (hrec : RecOk P main rec) {U : FuncId → Bool} {a a' : AG} {s s' : St} {ops : Array Oper} {i : Nat} {rest : List Nat} {k : List Item} {o : Oper} (hr : a.top.ret = false) (ht : a.top.todo = .inRegion ops (i :: rest) :: k) (ho : ops[i]? = some o)
    (hw : wantedA ops a.top.ts o = true) (h : opU P rec U a ops rest k s o = some (a', s')) : AdvSem P main a s a' s' := by
  have plain : (∀ c, o.op ≠ .defer c) → ((stepOp P rec o (evalA P a.top.ts) s).bind fun r => (a.top.put o.dst r.1 (.inRegion ops rest :: k)).bind fun f => some ({ a with top := f }, r.2)) = some (a', s') → AdvSem P main a s a' s' := by
    intro hnd h
    obtain ⟨r, hr1, h⟩ := bind_some h
    obtain ⟨f, hf, h⟩ := bind_some h
    cases h
    obtain ⟨v, s1⟩ := r
    obtain ⟨n1, N1, hN1⟩ := stepOp_sound C hrec hr1
    refine ⟨n1, N1 + 1, fun ρ x bs g Stop m hg hR hF hK => ?_⟩
    obtain ⟨tmps, defers, fs, rfl, h4, h5, h6⟩ := grel_run hg hr
    rw [ht, ← Nat.add_assoc]
    refine region_op (cx := { fn := a.top.fn, round := none, nt := a.top.nt }) C hN1 ho hnd hR hF (eval_sound hR h4 defers) (by rw [wanted_sound h4]; exact hw) fun ρ' x' v' S hv => ?_
    obtain ⟨e, h7⟩ := AFr.put_rel hf (h4.mono S.le) hv
    refine hK ρ' x' _ S ?_
    rw [e]
    exact grel_of (a := { a.top with ts := f.ts, todo := .inRegion ops rest :: k }) hr h7 (h5.mono S.le) (h6.mono S.le)
  unfold opU at h
  split at h
  · -- a deferred call
    rename_i c hop
    split at h
    · rename_i fo hcal
      obtain ⟨fv, hfv, h⟩ := bind_some h
      obtain ⟨args, hargs, h⟩ := bind_some h
      split at h
      · rename_i fn first captured _
        obtain ⟨f, hf, h⟩ := bind_some h
        cases h
        refine ⟨Nat.le_refl _, 1, fun ρ x bs g Stop m hg hR hF hK => ?_⟩
        obtain ⟨tmps, defers, fs, rfl, h4, h5, h6⟩ := grel_run hg hr
        rw [ht]
        have hev := eval_sound hR h4 defers
        have vf := hev _ _ hfv
        generalize hfc : ({ tmps, defers } : Act).eval fo = fc at vf
        cases vf
        rename_i fn' first' captured' hfn ha hcap
        have vargs : VL ρ args (c.args.map ({ tmps, defers } : Act).eval).toList := by simpa using mapO_VL hev hargs
        refine C.step0 rfl fun y hy => ?_
        have hst := st_oper (P := P) (main := main) (fn := a.top.fn) (kind := kindOf a.top.nrm) (defers := defers) (cs := fs ++ bs) (w := y.w) (k := k) (rest := rest) ho (by rw [wanted_sound h4]; exact hw) (rd := none) (.inl rfl)
        have hrun : (execOp ({ tmps, defers } : Act).eval o).runL y.A P y.w = .ok (.defer { target := .fn fn' captured', args := first' ++ c.args.map ({ tmps, defers } : Act).eval }) y.w := by
          unfold execOp
          rw [hop]
          simp only [resolve, hcal, runL_bind, hfc, Deferred.ofValue, runL_pure, Result.andThen_ok]
        obtain ⟨es, e', he⟩ := ap_defer (cs := fs ++ bs) (fr := mk a.top.fn none (kindOf a.top.nrm) tmps defers .run (.inRegion ops (i :: rest) :: k)) hrun
        obtain ⟨e, h7⟩ := AFr.put_rel (v' := undef) hf h4 (.tuple .nil)
        refine ⟨G (mk a.top.fn none (kindOf a.top.nrm) (putC tmps o.dst undef) ({ target := .fn fn' captured', args := first' ++ c.args.map ({ tmps, defers } : Act).eval } :: defers) .run (.inRegion ops rest :: k)) (fs ++ bs), es, ?_, ?_, he⟩
        · rw [hst, e']
          congr 2
          show (mk a.top.fn none (kindOf a.top.nrm) tmps ({ target := .fn fn' captured', args := first' ++ c.args.map ({ tmps, defers } : Act).eval } :: defers) .run (.inRegion ops (i :: rest) :: k)).finish undef = _
          rw [finish_opC, ho]
          rfl
        · refine hK ρ y _ ((StepF.refl (hR.rely hy)).pre hy) ?_
          simp only at e
          rw [e]
          exact grel_of (a := { a.top with ts := f.ts, ds := .inl { fn, captured, args := first ++ args } :: a.top.ds, todo := .inRegion ops rest :: k }) hr h7
            ⟨⟨fn', captured', rfl, hfn, hcap, by
              show VL ρ (first ++ args) (first' ++ c.args.map ({ tmps, defers } : Act).eval).toList
              rw [Array.toList_append]; exact ha.append vargs⟩, h5⟩ h6
      · cases h
    · cases h
  · -- a call
    rename_i c hop
    have hnd : ∀ c, o.op ≠ .defer c := fun c e => by rw [hop] at e; cases e
    split at h
    · rename_i fo hcal
      obtain ⟨fv, hfv, h⟩ := bind_some h
      obtain ⟨args, hargs, h⟩ := bind_some h
      split at h
      · rename_i a1 hcu
        cases h
        unfold callU at hcu
        split at hcu
        · rename_i gf first captured
          obtain ⟨_, hcu⟩ := bif_some hcu
          obtain ⟨f, hf, hcu⟩ := bind_some hcu
          cases hcu
          refine ⟨Nat.le_refl _, 1, fun ρ x bs g Stop m hg hR hF hK => ?_⟩
          obtain ⟨tmps, defers, fs, rfl, h4, h5, h6⟩ := grel_run hg hr
          rw [ht]
          have hev := eval_sound hR h4 defers
          have vf := hev _ _ hfv
          generalize hfc : ({ tmps, defers } : Act).eval fo = fc at vf
          cases vf
          rename_i fn' first' captured' hfn ha hcap
          cases hfn
          have vargs : VL ρ args (c.args.map ({ tmps, defers } : Act).eval).toList := by simpa using mapO_VL hev hargs
          refine C.step0 rfl fun y hy => ?_
          have hst := st_oper (P := P) (main := main) (fn := a.top.fn) (kind := kindOf a.top.nrm) (defers := defers) (cs := fs ++ bs) (w := y.w) (k := k) (rest := rest) ho (by rw [wanted_sound h4]; exact hw) (rd := none) (.inl rfl)
          have hrun : (execOp ({ tmps, defers } : Act).eval o).runL y.A P y.w = .ok (.enter gf (first' ++ c.args.map ({ tmps, defers } : Act).eval ++ captured')) y.w := by
            unfold execOp
            rw [hop]
            simp only [resolve, hcal, runL_bind, hfc, Deferred.ofValue, runL_pure, Result.andThen_ok]
            exact invoke_enter C hf y.w
          obtain ⟨es, e', he⟩ := ap_enter (cs := fs ++ bs) (fr := mk a.top.fn none (kindOf a.top.nrm) tmps defers .run (.inRegion ops (i :: rest) :: k)) hrun (by intro d r s k h; cases h)
          refine ⟨_, es, by rw [hst, e'], ?_, he⟩
          refine hK ρ y _ ((StepF.refl (hR.rely hy)).pre hy) ?_
          refine enter_rel (fs := mk a.top.fn none (kindOf a.top.nrm) tmps defers .run (.inRegion ops (i :: rest) :: k) :: fs) hf ?_ ⟨⟨tmps, defers, _, by rw [hr]; rfl, fun _ => ht.symm, h4, h5⟩, h6⟩
          rw [Array.toList_append, Array.toList_append]
          exact (ha.append vargs).append hcap
        · cases hcu
      · exact plain hnd h
    · exact plain hnd h
  · rename_i hnd _
    exact plain (fun c e => hnd c e) h

theorem popU_sound (C : Good P) {a a' : AG} {s : St} (hr : a.top.ret = true) (hd : a.top.ds = []) (h : popU P a s = some a') : AdvSem P main a s a' s := by
  unfold popU at h
  split at h
  · cases h
  · rename_i c cs hcs
    obtain ⟨fn, hfn, h⟩ := bind_some h
    obtain ⟨vs, hvs, h⟩ := bind_some h
    refine ⟨Nat.le_refl _, 1, fun ρ x bs g Stop m hg hR hF hK => ?_⟩
    obtain ⟨tmps, defers, todo, fs, rfl, h4, h5, h6⟩ := grel_ret hg hr
    rw [hd] at h5
    cases defers with
    | cons => exact h5.elim
    | nil =>
      rw [hcs] at h6
      cases fs with
      | nil => exact h6.elim
      | cons fc fs =>
        obtain ⟨⟨tc, dc, kc, e1, e2, e3, e4⟩, h6⟩ := And.intro h6.1.is h6.2
        refine C.step0 rfl fun y hy => ?_
        have hRy := hR.rely hy
        obtain ⟨v', h7, h8⟩ := results_sound hRy h4 hvs
        cases hn : a.top.nrm with
        | true =>
          rw [hn] at h
          simp only [cond_true] at h
          split at h
          · rename_i ops i rest k hret htodo
            obtain ⟨c', hc', h⟩ := bind_some h
            cases h
            obtain ⟨es, h9, he⟩ := st_result (main := main) (kind := kindOf true) (todo := todo) (cs := fs ++ bs) (caller := fc) hfn h7 (.inl rfl)
            refine ⟨_, es, h9, ?_, he⟩
            refine hK ρ y _ ((StepF.refl hRy).pre hy) ?_
            obtain ⟨e, h10⟩ := AFr.put_rel hc' e3 h8
            show GRel ρ { top := c', cs } bs (G (fc.finish v') (fs ++ bs))
            rw [e1, e2 hret, htodo, e]
            have hm : modeOf c.ret = .run := by rw [hret]; rfl
            rw [hm, finish_opC]
            exact grel_of (a := { c with ts := c'.ts, todo := .inRegion ops rest :: k }) hret h10 e4 h6
          · cases h
        | false =>
          rw [hn] at h
          simp only [cond_false] at h
          obtain ⟨hret, h⟩ := bif_some h
          cases h
          obtain ⟨es, h9, he⟩ := st_result (main := main) (kind := kindOf false) (todo := todo) (cs := fs ++ bs) (caller := fc) hfn h7 (.inr ⟨rfl, by rw [e1, hret]; rfl⟩)
          refine ⟨_, es, h9, ?_, he⟩
          refine hK ρ y _ ((StepF.refl hRy).pre hy) ?_
          show GRel ρ { top := c, cs } bs (G fc (fs ++ bs))
          exact ⟨fc, fs, rfl, ⟨tc, dc, kc, e1, e2, e3, e4⟩, h6⟩

theorem retU_sound (C : Good P) {rec : Task → Option Res} (hrec : RecOk P main rec) {U : FuncId → Bool} {a a' : AG} {s s' : St} (hr : a.top.ret = true) (h : retU P rec U a s = some (a', s')) : AdvSem P main a s a' s' := by
  unfold retU at h
  split at h
  · rename_i hd
    obtain ⟨a1, h1, h⟩ := bind_some h
    cases h
    exact popU_sound C hr hd h1
  · cases h
  · rename_i d ds hd
    split at h
    · rename_i gf hdf
      cases hu : U gf with
      | true =>
        rw [hu] at h
        simp only [cond_true] at h
        obtain ⟨f, hf, h⟩ := bind_some h
        cases h
        refine ⟨Nat.le_refl _, 1, fun ρ x bs g Stop m hg hR hF hK => ?_⟩
        obtain ⟨tmps, defers, todo, fs, rfl, h4, h5, h6⟩ := grel_ret hg hr
        rw [hd] at h5
        cases defers with
        | nil => exact h5.elim
        | cons d' ds' =>
          obtain ⟨⟨fn', c', ht, hfn, hc, ha⟩, hds⟩ := h5
          rw [hdf] at hfn
          cases hfn
          have ed : d' = { target := .fn (.func gf) c', args := d'.args } := by cases d'; simp only at ht; rw [ht]
          refine C.step0 rfl fun y hy => ?_
          obtain ⟨es, h7, he⟩ := st_calldef (main := main) (fn := a.top.fn) (kind := kindOf a.top.nrm) (tmps := tmps) (ds := ds') (todo := todo) (cs := fs ++ bs) (invoke_enter C (A := y.A) (captured' := c') (args' := d'.args) hf y.w) trivial
          refine ⟨_, es, by rw [ed]; exact h7, ?_, he⟩
          refine hK ρ y _ ((StepF.refl (hR.rely hy)).pre hy) ?_
          refine enter_rel (nrm := false) (fs := mk a.top.fn none (kindOf a.top.nrm) tmps ds' .returning todo :: fs) hf (by rw [Array.toList_append]; exact ha.append hc) ⟨⟨tmps, ds', todo, by rw [hr]; rfl, (fun e => by rw [hr] at e; cases e), h4, hds⟩, h6⟩
      | false =>
        rw [hu] at h
        simp only [cond_false] at h
        obtain ⟨r, hri, h⟩ := bind_some h
        cases h
        obtain ⟨v, s1⟩ := r
        obtain ⟨n1, N1, hN1⟩ := inv_sound C hrec hri
        refine ⟨n1, N1 + 1, fun ρ x bs g Stop m hg hR hF hK => ?_⟩
        rw [← Nat.add_assoc]
        obtain ⟨tmps, defers, todo, fs, rfl, h4, h5, h6⟩ := grel_ret hg hr
        rw [hd] at h5
        cases defers with
        | nil => exact h5.elim
        | cons d' ds' =>
          obtain ⟨⟨fn', c', ht, hfn, hc, ha⟩, hds⟩ := h5
          refine C.step0 rfl fun y hy => ?_
          obtain ⟨nx, h2, h3, h4'⟩ := hN1 ρ y fn' c' d'.args (hR.rely hy) hF hfn hc ha
          obtain ⟨es, h7, he⟩ := st_calldef (main := main) (fn := a.top.fn) (kind := kindOf a.top.nrm) (tmps := tmps) (ds := ds') (todo := todo) (cs := fs ++ bs) h2 h3
          have ed : d' = { target := .fn fn' c', args := d'.args } := by cases d'; simp only at ht; rw [ht]
          refine ⟨_, es, by rw [ed]; exact h7, ?_, he⟩
          refine h4' .deferred _ (fs ++ bs) Stop m (.inr ⟨rfl, rfl⟩) fun ρ1 x1 v' S _ => ?_
          refine hK ρ1 x1 _ (S.pre hy) ?_
          exact grel_of_ret (a := { a.top with ds }) hr (h4.mono S.le) (hds.mono S.le) (h6.mono S.le)
    · cases h

theorem advOne_sound (C : Good P) {rec : Task → Option Res} (hrec : RecOk P main rec) {U : FuncId → Bool} {hasU : Code → Bool} {a a' : AG} {s s' : St} (h : adv1 P rec U hasU a s = some (a', s')) : AdvSem P main a s a' s' := by
  unfold adv1 at h
  cases hr : a.top.ret with
  | true => rw [hr] at h; exact retU_sound C hrec hr h
  | false =>
    rw [hr] at h
    simp only [cond_false] at h
    have ctl : ∀ (k k' : List Item), a.top.todo = k' → a' = { a with top := a.top.at k } → s' = s → (∀ {tmps defers cs w}, stepG P main (G (mk a.top.fn none (kindOf a.top.nrm) tmps defers .run k') cs) w = .go (G (mk a.top.fn none (kindOf a.top.nrm) tmps defers .run k) cs) w #[]) → AdvSem P main a s a' s' := by
      rintro k k' ht rfl rfl h1
      refine idle_adv C fun A H ρ bs g hR hg => ?_
      obtain ⟨tmps, defers, fs, rfl, h4, h5, h6⟩ := grel_run hg hr
      rw [ht]
      exact ⟨rfl, _, fun w => h1, grel_of (a := a.top.at k) hr h4 h5 h6⟩
    split at h
    · rename_i ht
      cases h
      refine idle_adv C fun A H ρ bs g hR hg => ?_
      obtain ⟨tmps, defers, fs, rfl, h4, h5, h6⟩ := grel_run hg hr
      rw [ht]
      exact ⟨rfl, _, fun w => st_end, grel_of_ret (a := { a.top with ret := true, todo := [] }) (bs := bs) rfl h4 h5 h6⟩
    · rename_i c k ht
      cases hu : hasU c with
      | true =>
        rw [hu] at h
        obtain ⟨f, hf, h⟩ := bind_some h
        cases h
        exact codeU_sound C hr ht hf
      | false =>
        rw [hu] at h
        obtain ⟨r, hr1, h⟩ := bind_some h
        cases h
        exact codeN_sound C hrec hr ht hr1
    · rename_i k ht; cases h; exact ctl _ _ ht rfl rfl st_inBlock
    · rename_i c k ht; cases h; exact ctl _ _ ht rfl rfl st_inScope
    · rename_i c k ht; cases h; exact ctl _ _ ht rfl rfl st_inLoop
    · rename_i k ht; cases h; exact ctl _ _ ht rfl rfl st_region_end
    · rename_i ops i rest k ht
      split at h
      · cases h
      · rename_i o ho
        cases hw : wantedA ops a.top.ts o with
        | true => rw [hw] at h; exact opU_sound C hrec hr ht ho hw h
        | false =>
          rw [hw] at h
          obtain ⟨f, hf, h⟩ := bind_some h
          cases h
          exact put_sound C hr ht ho hw hf
    · cases h

theorem adv_sound (C : Good P) {rec : Task → Option Res} (hrec : RecOk P main rec) {U : FuncId → Bool} {hasU : Code → Bool} : ∀ (n : Nat) {a a' : AG} {s s' : St}, adv P rec U hasU n a s = (a', s') → AdvSem P main a s a' s'
  | 0, a, a', s, s', h => by cases h; exact AdvSem.refl a s
  | n + 1, a, a', s, s', h => by
    unfold adv at h
    split at h
    · rename_i a1 s1 h1
      exact (advOne_sound C hrec h1).trans (adv_sound C hrec n h)
    · cases h; exact AdvSem.refl a s

end
end Go.Ab

