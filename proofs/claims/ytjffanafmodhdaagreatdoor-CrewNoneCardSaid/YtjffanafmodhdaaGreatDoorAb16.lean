/- Own text of this claim: part Ab16. -/
import Derived.Test.YtjffanafmodhdaaGreatDoorAb15
set_option linter.unusedVariables false
set_option linter.unusedSimpArgs false
set_option linter.unusedSectionVars false
set_option linter.unnecessarySimpa false
/-
  Own library, part 16: one operation; regions in the text's order.
-/
namespace Go.Ab
open Go.Conc (G)

section
variable (P : Program) (main : Bool)

/-- What an operation comes to: at once, or by what it enters. -/
def OpSem (o : Oper) (evA : Operand → Option AV) (s : St) (v : AV) (s' : St) (N : Nat) : Prop :=
  ∀ (ρ : Map) (w : FW) (evC : Operand → Value), Rel w.A P ρ s w.heap → Fresh ρ s.next s'.next → (∀ x u, evA x = some u → V ρ u (evC x)) →
    Loud w.A P ρ s w.w (execOp evC o) v s' ∨
    ∃ nx, (execOp evC o).runL w.A P w.w = .ok nx w.w ∧ isEnter nx ∧
      ∀ (kind : CallKind) (caller : Frame) (cs : List Frame) (Stop : Goroutine → FW → Prop) (m : Nat), KindOk kind caller →
        (∀ ρ' w' v', StepF P ρ s w ρ' s' w' → V ρ' v v' → GoF P main Stop m (G (back kind caller v') cs) w') →
        GoF P main Stop (m + N) (G (frameOf P nx kind) (caller :: cs)) w
end

section
variable {P : Program} {main : Bool}

theorem aloud_next {o : Oper} {ev : Operand → Option AV} {s s' : St} {v : AV} (h : aloud P o ev s = some (v, s')) : s.next ≤ s'.next := by
  have hw : ∀ {id off : Nat} {vs : List AV} {s1 : St}, s.write id off vs = some s1 → s1.next = s.next := by
    intro id off vs s1 h
    unfold St.write at h
    split at h
    · obtain ⟨_, h1⟩ := bif_some h
      obtain ⟨_, _, h2⟩ := bind_some h1
      cases h2; rfl
    · cases h
  unfold aloud at h
  split at h
  case h_1 | h_2 | h_3 | h_4 | h_5 | h_6 =>
    obtain ⟨_, _, h1⟩ := bind_some h
    cases h1
    exact Nat.le_succ _
  case h_7 =>
    obtain ⟨ty, _, h1⟩ := bind_some h
    obtain ⟨_, _, h2⟩ := bind_some h1
    obtain ⟨_, _, h3⟩ := bind_some h2
    obtain ⟨_, h4⟩ := bif_some h3
    split at h4
    · cases hz : ty.size.beq 0 with
      | true => rw [hz] at h4; cases h4; exact Nat.le_refl _
      | false =>
        rw [hz] at h4
        obtain ⟨_, h5, h6⟩ := bind_some h4
        cases h6
        exact Nat.le_of_eq (hw h5).symm
    · obtain ⟨_, h5⟩ := bif_some h4; cases h5; exact Nat.le_refl _
    · cases h4
  case h_8 | h_9 =>
    obtain ⟨_, _, h1⟩ := bind_some h
    obtain ⟨_, _, h2⟩ := bind_some h1
    obtain ⟨_, _, h3⟩ := bind_some h2
    obtain ⟨_, _, h4⟩ := bind_some h3
    split at h4
    · split at h4
      · obtain ⟨_, h5⟩ := bif_some h4
        obtain ⟨_, _, h6⟩ := bind_some h5
        split at h6
        · obtain ⟨_, _, h7⟩ := bind_some h6
          obtain ⟨_, h8⟩ := bif_some h7
          cases h8; exact Nat.le_refl _
        · cases h6; exact Nat.le_refl _
      · cases h4
    · cases h4
  case h_10 =>
    obtain ⟨_, -, h1⟩ := bind_some h
    obtain ⟨_, -, h2⟩ := bind_some h1
    obtain ⟨_, -, h3⟩ := bind_some h2
    obtain ⟨_, -, h4⟩ := bind_some h3
    obtain ⟨_, -, h5⟩ := bind_some h4
    obtain ⟨_, -, h6⟩ := bind_some h5
    obtain ⟨_, -, h7⟩ := bind_some h6
    obtain ⟨_, -, h8⟩ := bind_some h7
    split at h8
    · cases h8
    · obtain ⟨_, -, h9⟩ := bind_some h8
      obtain ⟨_, -, h10⟩ := bind_some h9
      obtain ⟨_, h11⟩ := bif_some h10
      unfold aappend at h11
      obtain ⟨m, _, h12⟩ := bind_some h11
      obtain ⟨_, -, h13⟩ := bind_some h12
      obtain ⟨_, h14⟩ := bif_none h13
      split at h14
      · cases hm : m.beq 0 with
        | true => rw [hm] at h14; cases h14; exact Nat.le_refl _
        | false =>
          rw [hm] at h14
          obtain ⟨_, h15⟩ := bif_some h14
          cases h15; exact Nat.le_succ _
      · rename_i id off len cap
        simp only at h14
        cases hf : Nat.ble (len + m) (capOf cap) with
        | true =>
          rw [hf] at h14
          simp only [cond_true] at h14
          obtain ⟨_, h15⟩ := bif_some h14
          obtain ⟨_, h16, h17⟩ := bind_some h15
          cases h17
          exact Nat.le_of_eq (hw h16).symm
        | false =>
          rw [hf] at h14
          simp only [cond_false] at h14
          obtain ⟨_, h15⟩ := bif_some h14
          split at h15
          · obtain ⟨_, -, h16⟩ := bind_some h15
            obtain ⟨_, h17⟩ := bif_some h16
            cases h17; exact Nat.le_succ _
          · obtain ⟨_, h16⟩ := bif_some h15
            split at h16
            · obtain ⟨_, h17⟩ := bif_some h16
              obtain ⟨_, -, h18⟩ := bind_some h17
              obtain ⟨_, h19⟩ := bif_some h18
              cases h19; exact Nat.le_succ _
            · cases h16
      · cases h14
    · cases h8
  case h_11 =>
    obtain ⟨_, _, h1⟩ := bind_some h
    obtain ⟨_, _, h2⟩ := bind_some h1
    obtain ⟨_, _, h3⟩ := bind_some h2
    obtain ⟨_, _, h4⟩ := bind_some h3
    obtain ⟨_, _, h5⟩ := bind_some h4
    obtain ⟨_, _, h6⟩ := bind_some h5
    split at h6
    · obtain ⟨_, _, h7⟩ := bind_some h6
      unfold acopy at h7
      obtain ⟨_, _, h8⟩ := bind_some h7
      split at h8
      · cases h8; exact Nat.le_refl _
      · simp only at h8
        split at h8
        · obtain ⟨_, _, h9⟩ := bind_some h8
          obtain ⟨_, h10, h11⟩ := bind_some h9
          cases h11
          exact Nat.le_of_eq (hw h10).symm
        · cases h8; exact Nat.le_refl _
        · cases h8
      · cases h8
    · cases h6
  case h_12 =>
    obtain ⟨_, -, h1⟩ := bind_some h
    obtain ⟨_, -, h2⟩ := bind_some h1
    obtain ⟨_, -, h3⟩ := bind_some h2
    obtain ⟨_, -, h4⟩ := bind_some h3
    split at h4
    · cases h4; exact Nat.le_refl _
    · rename_i _ _ elem id off n cap hd
      obtain ⟨_, -, h5⟩ := bind_some h4
      obtain ⟨_, -, h6⟩ := bind_some h5
      cases hn : n.beq 0 with
      | true => rw [hn] at h6; cases h6; exact Nat.le_refl _
      | false =>
        rw [hn] at h6
        obtain ⟨_, h7⟩ := bif_some h6
        obtain ⟨_, h8, h9⟩ := bind_some h7
        cases h9
        exact Nat.le_of_eq (hw h8).symm
    · cases h4
  case h_13 =>
    obtain ⟨_, _, h1⟩ := bind_some h
    obtain ⟨_, _, h2⟩ := bind_some h1
    obtain ⟨_, _, h3⟩ := bind_some h2
    obtain ⟨_, _, h4⟩ := bind_some h3
    obtain ⟨_, _, h5⟩ := bind_some h4
    obtain ⟨_, _, h6⟩ := bind_some h5
    split at h6
    · split at h6
      · obtain ⟨_, h7⟩ := bif_some h6
        obtain ⟨_, _, h8⟩ := bind_some h7
        split at h8 <;> (cases h8; exact Nat.le_refl _)
      · cases h6
    · cases h6
  case h_14 => cases h

theorem stepOp_sound (C : Good P) {rec : Task → Option Res} (hrec : RecOk P main rec) {o : Oper} {evA : Operand → Option AV} {s s' : St} {v : AV} (h : stepOp P rec o evA s = some (v, s')) :
    s.next ≤ s'.next ∧ ∃ N, OpSem P main o evA s v s' N := by
  unfold stepOp at h
  cases hq : isQuiet o with
  | true =>
    rw [hq] at h
    obtain ⟨v₀, hv, h_⟩ := bind_some h; clear h; have h := h_; clear h_
    cases h
    refine ⟨Nat.le_refl _, 0, fun ρ w evC hR _ hev => .inl ?_⟩
    obtain ⟨v', h1, h2⟩ := quiet_sound hR hev hv
    exact ⟨ρ, _, w.w, h1, ⟨v', .inl rfl, h2⟩, Step.refl hR, Aside.refl w.w⟩
  | false =>
    rw [hq] at h
    simp only [cond_false] at h
    have loud : ∀ (h : aloud P o evA s = some (v, s')), s.next ≤ s'.next ∧ ∃ N, OpSem P main o evA s v s' N := fun h =>
      ⟨aloud_next h, 0, fun ρ w evC hR hF hev => .inl (loud_sound hR hev h hF)⟩
    split at h
    · rename_i c hc
      split at h
      · exact loud h
      · rename_i hnb
        unfold callA at h
        split at h
        · rename_i f hcf
          obtain ⟨fv, hfv, h_⟩ := bind_some h; clear h; have h := h_; clear h_
          obtain ⟨args, hargs, h_⟩ := bind_some h; clear h; have h := h_; clear h_
          split at h
          · rename_i fn first captured
            obtain ⟨hn, N, hN⟩ := inv_sound C hrec h
            refine ⟨hn, N, fun ρ w evC hR hF hev => .inr ?_⟩
            have vf := hev _ _ hfv
            generalize hfc : evC f = fc at vf
            cases vf
            rename_i fn' first' captured' hfn ha hcap
            have vargs : VL ρ args (c.args.map evC).toList := by simpa using mapO_VL hev hargs
            obtain ⟨nx, h1, h2, h3⟩ := hN ρ w fn' captured' (first' ++ c.args.map evC) hR hF hfn hcap (by rw [Array.toList_append]; exact ha.append vargs)
            refine ⟨nx, ?_, h2, h3⟩
            unfold execOp
            rw [hc]
            simp only [resolve, hcf, runL_bind, hfc, Deferred.ofValue, runL_pure, Result.andThen_ok]
            exact h1
          · cases h
        · cases h
    · exact loud h

theorem ap_nx {A : Nat → Prop} {fr : Frame} {cs : List Frame} {w : World} {sem : Sem Next} {nx : Next} (h : sem.runL A P w = .ok nx w) (he : isEnter nx) (hk : ∀ d r s k, fr.todo ≠ .call d true r s :: k) :
    ∃ es, stepG.apply P true fr cs none sem w = .go (G (frameOf P nx .normal) (fr :: cs)) w es ∧ EvAll A w es := by
  cases nx <;> simp only [isEnter] at he
  · exact ap_enter h hk
  · exact ap_round h

/-- An operation of a region, walked through. -/
theorem region_op (C : Good P) {o : Oper} {cx : Cx} {evA : Operand → Option AV} {s s' : St} {v : AV} {N : Nat} (hop : OpSem P main o evA s v s' N) {ops : Array Oper} {i : Nat} {rest : List Nat} (ho : ops[i]? = some o) (hnd : ∀ c, o.op ≠ .defer c)
    {ρ : Map} {w : FW} {rd : Option Nat} {kind : CallKind} {tmps : Array Value} {defers : List Deferred} {k : List Item} {cs : List Frame} {Stop : Goroutine → FW → Prop} {m : Nat}
    (hR : Rel w.A P ρ s w.heap) (hF : Fresh ρ s.next s'.next) (hev : ∀ x u, evA x = some u → V ρ u (({ tmps, defers } : Act).eval x)) (hw : Region.wanted o (yielded ops tmps) = true)
    (hK : ∀ ρ' w' v', StepF P ρ s w ρ' s' w' → V ρ' v v' → GoF P main Stop m (G (mk cx.fn rd kind (putC tmps o.dst v') defers .run (.inRegion ops rest :: k)) cs) w') :
    GoF P main Stop (m + N + 1) (G (mk cx.fn rd kind tmps defers .run (.inRegion ops (i :: rest) :: k)) cs) w := by
  have hfin : ∀ v', (mk cx.fn rd kind tmps defers .run (.inRegion ops (i :: rest) :: k)).finish v' = mk cx.fn rd kind (putC tmps o.dst v') defers .run (.inRegion ops rest :: k) := by
    intro v'
    rw [finish_op, ho]
    rfl
  refine C.step rfl fun w₁ hw₁ => ?_
  have hR₁ : Rel w₁.A P ρ s w₁.heap := hR.rely hw₁
  have hst := st_oper (P := P) (main := main) (fn := cx.fn) (kind := kind) (defers := defers) (cs := cs) (w := w₁.w) (k := k) (rest := rest) ho hw (rd := rd) (.inr hnd)
  rcases hop ρ w₁ _ hR₁ hF hev with ⟨ρ', nx, w', h1, ⟨v', hnx, hv⟩, hS, hA⟩ | ⟨nx, h1, h2, h3⟩
  · have hS' : StepF P ρ s w ρ' s' (w₁.next w') := (StepF.of hS).pre hw₁
    have hgo := GoF.more' (hK ρ' (w₁.next w') v' hS' hv) (Nat.le_add_right m N)
    rcases hnx with rfl | ⟨rfl, rfl⟩
    · obtain ⟨es, e, he⟩ := ap_value (cs := cs) (fr := mk cx.fn rd kind tmps defers .run (.inRegion ops (i :: rest) :: k)) h1
      exact ⟨_, w', es, by rw [hst, e, hfin], hgo, Guar.of hR₁ hS hA he⟩
    · obtain ⟨es, e, he⟩ := ap_skip (cs := cs) (fr := mk cx.fn rd kind tmps defers .run (.inRegion ops (i :: rest) :: k)) h1
      exact ⟨_, w', es, by rw [hst, e, hfin], hgo, Guar.of hR₁ hS hA he⟩
  · obtain ⟨es, e, he⟩ := ap_nx (cs := cs) (fr := mk cx.fn rd kind tmps defers .run (.inRegion ops (i :: rest) :: k)) h1 h2 (by intro d r s k h; cases h)
    refine ⟨_, w₁.w, es, by rw [hst, e], ?_, Guar.of hR₁ (Step.refl hR₁) (Aside.refl _) he⟩
    rw [FW.next_self]
    refine h3 .normal _ cs Stop m (.inl rfl) fun ρ' w' v' hS hv => ?_
    show GoF P main Stop m (G ((mk cx.fn rd kind tmps defers .run (.inRegion ops (i :: rest) :: k)).finish v') cs) w'
    rw [hfin]
    exact hK ρ' w' v' (hS.pre hw₁) hv

/-- An operation that is not wanted. -/
theorem region_skip (C : Good P) {o : Oper} {cx : Cx} {ops : Array Oper} {i : Nat} {rest : List Nat} (ho : ops[i]? = some o) {w : FW} {rd : Option Nat} {kind : CallKind} {tmps : Array Value} {defers : List Deferred} {k : List Item} {cs : List Frame} {Stop : Goroutine → FW → Prop} {m : Nat}
    (hw : Region.wanted o (yielded ops tmps) = false) (hK : GoF P main Stop m (G (mk cx.fn rd kind (putC tmps o.dst undef) defers .run (.inRegion ops rest :: k)) cs) w) :
    GoF P main Stop (m + 1) (G (mk cx.fn rd kind tmps defers .run (.inRegion ops (i :: rest) :: k)) cs) w := by
  refine C.idle rfl (fun w₁ => st_skipop (by rw [ho]; exact hw)) ?_
  rw [finish_op, ho]
  exact hK

theorem ops_sound (C : Good P) {rec : Task → Option Res} (hrec : RecOk P main rec) {cx : Cx} {ops : Array Oper} : ∀ (rest : List Oper) (fr : Fr) (s : St) (fr' : Fr) (s' : St), opsA P rec cx ops rest fr s = some (fr', s') →
    s.next ≤ s'.next ∧ ∃ N, ∀ i, ops.toList.drop i = rest → ∀ (ρ : Map) (w : FW) (rd : Option Nat) (kind : CallKind) (tmps : Array Value) (defers : List Deferred) (k : List Item) (cs : List Frame) (Stop : Goroutine → FW → Prop) (m : Nat),
      Rel w.A P ρ s w.heap → Fresh ρ s.next s'.next → FrOk ρ cx fr rd tmps defers →
      (∀ ρ' w' tmps' defers', StepF P ρ s w ρ' s' w' → FrOk ρ' cx fr' rd tmps' defers' → GoF P main Stop m (G (mk cx.fn rd kind tmps' defers' .run k) cs) w') →
      GoF P main Stop (m + N) (G (mk cx.fn rd kind tmps defers .run (.inRegion ops (List.range' i rest.length) :: k)) cs) w := by
  intro rest
  induction rest with
  | nil =>
    intro fr s fr' s' h
    cases h
    refine ⟨Nat.le_refl _, 1, fun i _ ρ w rd kind tmps defers k cs Stop m hR _ hfr hK => ?_⟩
    exact C.idle rfl (fun w₁ => st_region_end) (hK ρ w tmps defers (StepF.refl hR) hfr)
  | cons o rest ih =>
    intro fr s fr' s' h
    simp only [opsA] at h
    have hget : ∀ i, ops.toList.drop i = o :: rest → ops[i]? = some o ∧ ops.toList.drop (i + 1) = rest := by
      intro i hi
      constructor
      · have := congrArg (·[0]?) hi
        simpa using this
      · have := congrArg List.tail hi
        simpa using this
    cases hwant : wantedA ops fr.ts o with
    | false =>
      rw [hwant] at h
      obtain ⟨fr1, hp, h_⟩ := bind_some h; clear h; have h := h_; clear h_
      obtain ⟨hn, N, hN⟩ := ih _ _ _ _ h
      refine ⟨hn, N + 1, fun i hi ρ w rd kind tmps defers k cs Stop m hR hF hfr hK => ?_⟩
      obtain ⟨ho, hi'⟩ := hget i hi
      have e : m + (N + 1) = (m + N) + 1 := by omega
      rw [e]
      refine region_skip C ho (by rw [wanted_sound hfr.tr]; exact hwant) ?_
      exact hN (i + 1) hi' ρ w rd kind _ defers k cs Stop m hR hF (hfr.put (v' := undef) (.tuple .nil) hp) hK
    | true =>
      rw [hwant] at h
      simp only [cond_true] at h
      split at h
      · rename_i c hop
        split at h
        · rename_i f hrd hcal
          obtain ⟨fv, hfv, h_⟩ := bind_some h; clear h; have h := h_; clear h_
          obtain ⟨args, hargs, h_⟩ := bind_some h; clear h; have h := h_; clear h_
          split at h
          · rename_i fn first captured
            obtain ⟨fr1, hp, h_⟩ := bind_some h; clear h; have h := h_; clear h_
            obtain ⟨hn, N, hN⟩ := ih _ _ _ _ h
            refine ⟨hn, N + 1, fun i hi ρ w rd kind tmps defers k cs Stop m hR hF hfr hK => ?_⟩
            obtain ⟨ho, hi'⟩ := hget i hi
            have hrdn : rd = none := by
              have := hfr.rd
              rw [hrd] at this
              cases rd with
              | none => rfl
              | some _ => exact this.elim
            subst hrdn
            have hev := eval_sound hR hfr.tr defers
            have vf := hev _ _ hfv
            generalize hfc : ({ tmps, defers } : Act).eval f = fc at vf
            cases vf
            rename_i fn' first' captured' hfn ha hcap
            have vargs : VL ρ args (c.args.map ({ tmps, defers } : Act).eval).toList := by simpa using mapO_VL hev hargs
            have e : m + (N + 1) = (m + N) + 1 := by omega
            rw [e]
            refine C.step0 rfl fun w₁ hw₁ => ?_
            have hst := st_oper (P := P) (main := main) (fn := cx.fn) (kind := kind) (defers := defers) (cs := cs) (w := w₁.w) (k := k) (rest := List.range' (i + 1) rest.length) ho (by rw [wanted_sound hfr.tr]; exact hwant) (rd := none) (.inl rfl)
            have hrun : (execOp ({ tmps, defers } : Act).eval o).runL w₁.A P w₁.w = .ok (.defer { target := .fn fn' captured', args := first' ++ c.args.map ({ tmps, defers } : Act).eval }) w₁.w := by
              unfold execOp
              rw [hop]
              simp only [resolve, hcal, runL_bind, hfc, Deferred.ofValue, runL_pure, Result.andThen_ok]
            obtain ⟨es, e', he⟩ := ap_defer (cs := cs) (fr := mk cx.fn none kind tmps defers .run (.inRegion ops (i :: List.range' (i + 1) rest.length) :: k)) hrun
            refine ⟨G (mk cx.fn none kind (putC tmps o.dst undef) ({ target := .fn fn' captured', args := first' ++ c.args.map ({ tmps, defers } : Act).eval } :: defers) .run (.inRegion ops (List.range' (i + 1) rest.length) :: k)) cs, es, ?_, ?_, he⟩
            · rw [List.length_cons, List.range'_succ, hst, e']
              congr 2
              show (mk cx.fn none kind tmps ({ target := .fn fn' captured', args := first' ++ c.args.map ({ tmps, defers } : Act).eval } :: defers) .run (.inRegion ops (i :: List.range' (i + 1) rest.length) :: k)).finish undef = _
              rw [finish_op, ho]
              rfl
            · have hfr1 : FrOk ρ cx { fr with ds := .inl { fn, captured, args := first ++ args } :: fr.ds } none tmps ({ target := .fn fn' captured', args := first' ++ c.args.map ({ tmps, defers } : Act).eval } :: defers) :=
                ⟨hfr.tr, ⟨⟨fn', captured', rfl, hfn, hcap, by
                  show VL ρ (first ++ args) (first' ++ c.args.map ({ tmps, defers } : Act).eval).toList
                  rw [Array.toList_append]; exact ha.append vargs⟩, hfr.ds⟩, hfr.rd⟩
              have hR₁ : Rel w₁.A P ρ s w₁.heap := hR.rely hw₁
              exact hN (i + 1) hi' ρ w₁ none kind _ _ k cs Stop m hR₁ hF (hfr1.put (v' := undef) (.tuple .nil) hp) fun ρ' w' t' d' hS hf => hK ρ' w' t' d' (hS.pre hw₁) hf
          · cases h
        · cases h
      · rename_i hnd
        obtain ⟨r, hr, h_⟩ := bind_some h; clear h; have h := h_; clear h_
        obtain ⟨v, s1⟩ := r
        obtain ⟨fr1, hp, h_⟩ := bind_some h; clear h; have h := h_; clear h_
        obtain ⟨hn1, N1, hN1⟩ := stepOp_sound C hrec hr
        obtain ⟨hn2, N2, hN2⟩ := ih _ _ _ _ h
        simp only at hn2
        refine ⟨Nat.le_trans hn1 hn2, N2 + N1 + 1, fun i hi ρ w rd kind tmps defers k cs Stop m hR hF hfr hK => ?_⟩
        obtain ⟨ho, hi'⟩ := hget i hi
        have e : m + (N2 + N1 + 1) = (m + N2) + N1 + 1 := by omega
        rw [e, List.length_cons, List.range'_succ]
        refine region_op C hN1 ho (fun c e => hnd c e) hR (hF.left hn2) (eval_sound hR hfr.tr defers) (by rw [wanted_sound hfr.tr]; exact hwant) fun ρ1 w1 v' hS hv => ?_
        refine hN2 (i + 1) hi' ρ1 w1 rd kind _ defers k cs Stop m hS.rel (hS.fresh (c := s'.next) hF) ((hfr.mono hS.le).put hv hp) fun ρ' w' t' d' hS' hf => hK ρ' w' t' d' (hS.trans hS') hf

end
end Go.Ab

