/- Own text of this claim: part Ab41. -/
import Derived.Test.YtjffanafmodhdaaGreatDoorAb36
set_option linter.unusedVariables false
set_option linter.unusedSimpArgs false
set_option linter.unusedSectionVars false
set_option linter.unnecessarySimpa false
/-
  Own library, part 41: a frame at an operation that is not its own to do: send, receive, select, close, go, call.
-/
namespace Go.Ab
open Go.Conc

noncomputable section
/-- The operation that comes next. -/
def opAt (a : AFr) : Option (Oper × Array Oper × Nat × List Nat × List Item) :=
  bif a.ret then none else
  match a.todo with
  | .inRegion ops (i :: rest) :: k =>
    match ops[i]? with
    | some o => bif wantedA ops a.ts o then some (o, ops, i, rest, k) else none
    | none => none
  | _ => none

/-- Behind the operation that comes next, its value handed over. -/
def opPut (a : AFr) (v : AV) : Option AFr := (opAt a).bind fun p => a.put p.1.dst v (.inRegion p.2.1 p.2.2.2.1 :: p.2.2.2.2)
end

theorem stepG_offers {P : Program} {main : Bool} {f : Frame} {cs : List Frame} {off : Option (Array CommCase × CommShape)} {w : World} : stepG P main { G f cs with status := .running, offers := off } w = stepG P main (G f cs) w := by
  unfold stepG
  rfl

section
variable {P : Program} {main : Bool} {ρ : Map} {n0 : Nat} {a a' : AFr} {cs : List AFr} {bs : List Frame} {g : Goroutine} {o : Oper} {ops : Array Oper} {i : Nat} {rest : List Nat} {k : List Item}

def dummy (n0 : Nat) : World := { (default : World) with heap := Array.replicate n0 (.cells #[] 0) }

theorem Based.eval (hB : Based P ρ n0) {ts : T AV} {nt : Nat} {tmps : Array Value} (h : TR ρ ts nt tmps) (defers : List Deferred) : ∀ x v, evalA P ts x = some v → V ρ v (({ tmps, defers } : Act).eval x) :=
  eval_sound (hB.rel (w := dummy n0) (by simp [dummy])) h defers

theorem Based.mono {n1 : Nat} (h : Based P ρ n0) (hn : n0 ≤ n1) : Based P ρ n1 := ⟨h.glob, fun id l hl => ⟨Nat.lt_of_lt_of_le (h.low id l hl).1 hn, (h.low id l hl).2⟩⟩

theorem op_spec (h : opAt a = some (o, ops, i, rest, k)) : a.ret = false ∧ a.todo = .inRegion ops (i :: rest) :: k ∧ ops[i]? = some o ∧ wantedA ops a.ts o = true := by
  unfold opAt at h
  obtain ⟨hr, h⟩ := bif_none h
  split at h
  · rename_i ops' i' rest' k' ht
    split at h
    · rename_i o' ho
      obtain ⟨hw, h⟩ := bif_some h
      cases h
      exact ⟨hr, ht, ho, hw⟩
    · cases h
  · cases h

theorem op_frame (h : opAt a = some (o, ops, i, rest, k)) (hg : GRel ρ { top := a, cs } bs g) :
    ∃ tmps defers fs, g = G (mk a.fn none (kindOf a.nrm) tmps defers .run (.inRegion ops (i :: rest) :: k)) (fs ++ bs) ∧ TR ρ a.ts a.nt tmps ∧ DsRel ρ a.ds defers ∧ FsRel ρ cs fs ∧
      (∀ main w, stepG P main g w = stepG.apply P true (mk a.fn none (kindOf a.nrm) tmps defers .run (.inRegion ops (i :: rest) :: k)) (fs ++ bs) none (execOp ({ tmps, defers } : Act).eval o) w) := by
  obtain ⟨hr, ht, ho, hw⟩ := op_spec h
  obtain ⟨tmps, defers, fs, rfl, h4, h5, h6⟩ := grel_run hg hr
  simp only at h4 h5 h6 ⊢
  rw [ht]
  exact ⟨tmps, defers, fs, rfl, h4, h5, h6, fun main w => st_oper ho (by rw [wanted_sound h4]; exact hw) (rd := none) (.inl rfl)⟩

/-- Handed its value, it stands behind the operation. -/
theorem op_done (h : opAt a = some (o, ops, i, rest, k)) (hg : GRel ρ { top := a, cs } bs g) {vA : AV} {v : Value} (hp : opPut a vA = some a') (hv : V ρ vA v) : GRel ρ { top := a', cs } bs (Go.Conc.served g v) := by
  obtain ⟨hr, ht, ho, hw⟩ := op_spec h
  obtain ⟨tmps, defers, fs, rfl, h4, h5, h6⟩ := grel_run hg hr
  simp only at h4 h5 h6
  unfold opPut at hp
  rw [h] at hp
  obtain ⟨e, h7⟩ := AFr.put_rel hp h4 hv
  show GRel ρ { top := a', cs } bs (G ((mk a.fn none (kindOf a.nrm) tmps defers .run a.todo).finish v) (fs ++ bs))
  rw [ht, finish_opC, ho, e]
  exact grel_of (a := { a with ts := a'.ts, todo := .inRegion ops rest :: k }) hr h7 h5 h6

theorem ap_comm {fr : Frame} {fs : List Frame} {sem : Sem Next} {w : World} {cases_ : Array CommCase} {b : Bool} {sh : CommShape} (h : sem.run P w = .ok (.comm cases_ b sh) w) (he : sem.events P w #[] = #[]) :
    stepG.apply P true fr fs none sem w = .comm (G fr fs) cases_ b sh w #[] := by
  simp only [stepG.apply, if_true, Sem.runT_eq, h, he]
  have : (if (fr.kind == CallKind.early) = true then (#[] : Array Event) else #[]) = #[] := by split <;> rfl
  simp only [this, seen_none]
  rfl

theorem send_at (hB : Based P ρ n0) (h : opAt a = some (o, ops, i, rest, k)) (hg : GRel ρ { top := a, cs } bs g) {ch x : Operand} (ho : o.op = .send ch x) {id : Nat} {vA : AV} (hc : evalA P a.ts ch = some (.chan id)) (hx : evalA P a.ts x = some vA) :
    ∃ l v, ρ id = some l ∧ V ρ vA v ∧ g.status = .running ∧ ∀ main w, stepG P main g w = .comm g #[scase l.b v (.tuple #[])] true .send w #[] := by
  obtain ⟨tmps, defers, fs, rfl, h4, h5, h6, hst⟩ := op_frame (P := P) h hg
  have hv := hB.eval h4 defers _ _ hx
  have hcv := hB.eval h4 defers _ _ hc
  generalize hce : ({ tmps, defers } : Act).eval ch = cv at hcv
  cases hcv with
  | @chan _ l hl =>
    refine ⟨l, _, hl, hv, rfl, fun main w => (hst main w).trans ?_⟩
    refine ap_comm ?_ ?_
    · unfold execOp; rw [ho]; simp only [hce]; rfl
    · unfold execOp; rw [ho]; rfl

theorem zero_of {t : TypeId} {ty : ATy} {zA : AV} (h : tyOf P t = some ty) (hz : ty.zero = some zA) : ∃ z, ofValue z = some zA ∧ ∀ w, (zeroValue t).run P w = .ok z w := by
  obtain ⟨i, hi, _, _, hzz⟩ := (tyOf_ok h).info
  obtain ⟨v, hv, ho⟩ := hzz zA hz
  exact ⟨v, ho, fun w => by simp [zeroValue, typeInfo, program, Sem.run, bind, Sem.bind, pure, hi, hv]⟩

theorem recv_at (hB : Based P ρ n0) (h : opAt a = some (o, ops, i, rest, k)) (hg : GRel ρ { top := a, cs } bs g) {t elem : TypeId} {ch : Operand} (ho : o.op = .recv t ch true) {id : Nat} {ty : ATy} {d : ChanDir} (hc : evalA P a.ts ch = some (.chan id))
    (hty : tyOf P t = some ty) (hd : ty.desc = .chan d elem) {z : Value} (hz2 : ∀ w, (zeroValue elem).run P w = .ok z w) :
    ∃ l, ρ id = some l ∧ g.status = .running ∧ ∀ main off w, stepG P main { g with status := .running, offers := off } w = .comm g #[rcase l.b z] true (.recv true) w #[] := by
  obtain ⟨tmps, defers, fs, rfl, h4, h5, h6, hst⟩ := op_frame (P := P) h hg
  have hcv := hB.eval h4 defers _ _ hc
  generalize hce : ({ tmps, defers } : Act).eval ch = cv at hcv
  cases hcv with
  | @chan _ l hl =>
    refine ⟨l, hl, rfl, fun main off w => (stepG_offers.trans (hst main w)).trans ?_⟩
    have hu : (underlying t).run P w = .ok (.chan d elem) w := by rw [← hd]; exact run_underlying (tyOf_ok hty).under w
    refine ap_comm ?_ ?_
    · unfold execOp; rw [ho]; simp only [Sem.run_bind, hu, Result.andThen_ok, hz2, hce]; rfl
    · unfold execOp; rw [ho]; simp only [Sem.events_bind, hu, Result.evThen_ok, events_underlying, events_zeroValue, hz2]; rfl

theorem select_at (hB : Based P ρ n0) (h : opAt a = some (o, ops, i, rest, k)) (hg : GRel ρ { top := a, cs } bs g) {elem : TypeId} {ch : Operand} (ho : o.op = .select #[{ chan := ch, send := none, elem }] true) {id : Nat} {zA : AV} {et : ATy} (hc : evalA P a.ts ch = some (.chan id))
    (het : tyOf P elem = some et) (hz : et.zero = some zA) :
    ∃ l z, ρ id = some l ∧ g.status = .running ∧ ∀ main w, stepG P main g w = .comm g #[rcase l.b z] true .select w #[] := by
  obtain ⟨tmps, defers, fs, rfl, h4, h5, h6, hst⟩ := op_frame (P := P) h hg
  have hcv := hB.eval h4 defers _ _ hc
  obtain ⟨z, hz1, hz2⟩ := zero_of het hz
  generalize hce : ({ tmps, defers } : Act).eval ch = cv at hcv
  cases hcv with
  | @chan _ l hl =>
    refine ⟨l, z, hl, rfl, fun main w => (hst main w).trans ?_⟩
    refine ap_comm ?_ ?_
    · unfold execOp; rw [ho]; simp [hce, rcase, List.mapM_cons, hz2, Result.andThen]
    · unfold execOp; rw [ho]; simp [events_zeroValue]

theorem ap_run {fr : Frame} {fs : List Frame} {sem : Sem Next} {w w' : World} {v : Value} {es : Array Event} (hk : fr.kind ≠ .early) (h : sem.run P w = .ok (.value v) w') (he : sem.events P w #[] = es) (hs : seen P fr.fn es = es) :
    stepG.apply P true fr fs none sem w = .go (G (fr.finish v) fs) w' es := by
  have hk' : (fr.kind == CallKind.early) = false := by simpa using hk
  simp only [stepG.apply, if_true, Sem.runT_eq, h, he, hk', Bool.false_eq_true, if_false, hs, GStep.after, Array.append_empty]
  rfl

theorem seen_shut (fn : FuncId) (c : Nat) : seen P fn (shutEs c) = shutEs c := by
  rw [seen_def]
  simp [shutEs, seenStep]

theorem vl_nil {ρ : Map} {a : Array Value} (h : VL ρ [] a.toList) : a = #[] := by
  have : a.toList = [] := by
    generalize a.toList = l at h
    cases h
    rfl
  exact Array.toList_eq_nil_iff.1 this

theorem close_run {tys : Array TypeId} {ty : TypeId} {r n : Nat} {w : World} (hw : w.heap[r]? = some (.chan 0 #[] false n n false)) :
    (Builtin.close_ tys ty #[.chan (some r)]).run P w = .ok (.tuple #[]) (w.shutC r n) ∧ (Builtin.close_ tys ty #[.chan (some r)]).events P w #[] = shutEs r := by
  constructor
  · show (getObj r >>= _ : Sem Value).run P w = _
    simp [getObj, Sem.run, hw, setObj, World.shutC]
  · show (getObj r >>= _ : Sem Value).events P w #[] = _
    simp [-Sem.runT_eq, getObj, Sem.events, Sem.runT, hw, setObj, shutEs, Obj.isChan, bind, Sem.bind, pure]

theorem close_at (hB : Based P ρ n0) (h : opAt a = some (o, ops, i, rest, k)) (hg : GRel ρ { top := a, cs } bs g) {x : Operand} {tys : Array TypeId} (ho : o.op = .call { callee := .builtin .close, args := #[x], argTypes := tys }) {id : Nat} (hc : evalA P a.ts x = some (.chan id)) :
    ∃ l, ρ id = some l ∧ g.status = .running ∧ mayWake P g = true ∧ ∀ n w, w.heap[l.b]? = some (.chan 0 #[] false n n false) → stepG P main g w = .go (Go.Conc.served g undef) (w.shutC l.b n) (shutEs l.b) := by
  obtain ⟨tmps, defers, fs, rfl, h4, h5, h6, hst⟩ := op_frame (P := P) h hg
  obtain ⟨_, _, hoi, _⟩ := op_spec h
  have hcv := hB.eval h4 defers _ _ hc
  generalize hce : ({ tmps, defers } : Act).eval x = cv at hcv
  cases hcv with
  | @chan _ l hl =>
    refine ⟨l, hl, rfl, ?_, fun n w hw => (hst main w).trans ?_⟩
    · simp [mayWake, G, mk, hoi, ho]
    · refine ap_run (v := .tuple #[]) (by simp only [mk]; exact kindOf_ne _) ?_ ?_ (seen_shut _ _)
      · unfold execOp
        rw [ho]
        simp only [resolve, Sem.run_bind, Sem.run_pure, Result.andThen_ok, invoke, builtin, List.map_toArray, List.map_cons, List.map_nil, hce, (close_run hw).1]
      · unfold execOp
        rw [ho]
        simp only [resolve, Sem.run_bind, Sem.run_pure, Sem.events_bind, Sem.events_pure, Result.evThen_ok, Result.andThen_ok, invoke, builtin, List.map_toArray, List.map_cons, List.map_nil, hce, (close_run hw).1, (close_run hw).2]

theorem call_at (C : Good P) (hB : Based P ρ n0) (h : opAt a = some (o, ops, i, rest, k)) (hg : GRel ρ { top := a, cs } bs g) {c : Call} {f : Operand} (ho : o.op = .call c) (hf : c.callee = .value f) {gf : FuncId} {fn : Func} {body : Code} {args : List AV}
    (hv : evalA P a.ts f = some (.func (.func gf) [] [])) (ha : mapO (evalA P a.ts) c.args.toList = some args) (hfn : P.funcs[gf]? = some fn) (hb : fn.body = some body) :
    ∃ f0 fs args', g = G f0 (fs ++ bs) ∧ FsRel ρ cs fs ∧ VL ρ args args'.toList ∧ ∀ main w, ∃ es, stepG P main g w = .go (G (Frame.enter P gf args' .normal) (f0 :: (fs ++ bs))) w es ∧ (∀ e ∈ es, EvA (fun _ => False) e) := by
  obtain ⟨tmps, defers, fs, rfl, h4, h5, h6, hst⟩ := op_frame (P := P) h hg
  have hfv := hB.eval h4 defers _ _ hv
  generalize hce : ({ tmps, defers } : Act).eval f = cv at hfv
  cases hfv with
  | @func _ fn' _ _ a' c' hfn' ha' hc' =>
    cases hfn'
    have ea : a' = #[] := vl_nil ha'
    have ec : c' = #[] := vl_nil hc'
    subst ea ec
    refine ⟨_, fs, c.args.map ({ tmps, defers } : Act).eval, rfl, h6, by simpa using mapO_VL (hB.eval h4 defers) ha, fun main w => ?_⟩
    have hrun : (execOp ({ tmps, defers } : Act).eval o).runL (fun _ => False) P w = .ok (.enter gf (c.args.map ({ tmps, defers } : Act).eval)) w := by
      unfold execOp
      rw [ho]
      simp only [resolve, hf, runL_bind, hce, Deferred.ofValue, runL_pure, Result.andThen_ok, invoke, callFunc, runL_program, hfn, C.names gf fn hfn, hb, Bool.false_eq_true, if_false, Option.isNone_some, Array.empty_append, Array.append_empty]
    obtain ⟨es, e1, he⟩ := ap_enter (cs := fs ++ bs) (fr := mk a.fn none (kindOf a.nrm) tmps defers .run (.inRegion ops (i :: rest) :: k)) hrun (by intro d r s k h; cases h)
    exact ⟨es, (hst main w).trans e1, fun e h => (he e h).mono fun b hb => hb.1⟩

theorem go_at (hB : Based P ρ n0) (h : opAt a = some (o, ops, i, rest, k)) (hg : GRel ρ { top := a, cs } bs g) {c : Call} {f : Operand} (ho : o.op = .go c) (hf : c.callee = .value f) {fA : Fn} {first captured args : List AV}
    (hv : evalA P a.ts f = some (.func fA first captured)) (ha : mapO (evalA P a.ts) c.args.toList = some args) :
    ∃ d fn' captured', d.target = .fn fn' captured' ∧ VFn ρ fA fn' ∧ VL ρ captured captured'.toList ∧ VL ρ (first ++ args) d.args.toList ∧ g.status = .running ∧ ∀ w, stepG P true g w = .spawn (Go.Conc.served g undef) (born P d) w #[] := by
  obtain ⟨tmps, defers, fs, rfl, h4, h5, h6, hst⟩ := op_frame (P := P) h hg
  have hfv := hB.eval h4 defers _ _ hv
  generalize hce : ({ tmps, defers } : Act).eval f = cv at hfv
  cases hfv with
  | @func _ fn' _ _ a' c' hfn' ha' hc' =>
    refine ⟨{ target := .fn fn' c', args := a' ++ c.args.map ({ tmps, defers } : Act).eval }, fn', c', rfl, hfn', hc', ?_, rfl, fun w => (hst true w).trans ?_⟩
    · have vargs : VL ρ args (c.args.map ({ tmps, defers } : Act).eval).toList := by simpa using mapO_VL (hB.eval h4 defers) ha
      show VL ρ (first ++ args) (a' ++ c.args.map ({ tmps, defers } : Act).eval).toList
      rw [Array.toList_append]
      exact ha'.append vargs
    · have hr : (execOp ({ tmps, defers } : Act).eval o).run P w = .ok (.spawn { target := .fn fn' c', args := a' ++ c.args.map ({ tmps, defers } : Act).eval }) w := by
        unfold execOp
        rw [ho]
        simp [resolve, hf, hce, Deferred.ofValue]
      have he : (execOp ({ tmps, defers } : Act).eval o).events P w #[] = #[] := by
        unfold execOp
        rw [ho]
        simp [resolve, hf, hce, Deferred.ofValue]
      have hk' : ((mk a.fn none (kindOf a.nrm) tmps defers .run (.inRegion ops (i :: rest) :: k)).kind == CallKind.early) = false := by
        have := kindOf_ne a.nrm
        simpa [mk] using this
      simp only [stepG.apply, if_true, Sem.runT_eq, hr, he, hk', Bool.false_eq_true, if_false, seen_none, GStep.after, Array.append_empty]
      simp [Go.Conc.served, G, born]

end
end Go.Ab

