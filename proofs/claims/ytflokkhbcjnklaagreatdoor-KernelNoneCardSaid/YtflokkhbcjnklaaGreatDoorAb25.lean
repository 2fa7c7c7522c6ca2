/-
  Own library, part 25: the evaluator laid out for the kernel is the evaluator.
-/
import Derived.Test.YtflokkhbcjnklaaGreatDoorAb24
namespace Go.Ab

theorem ob_eq {α β : Type} (x : Option α) (f : α → Option β) : ob x f = x.bind f := by cases x <;> rfl
theorem bc_eq {α : Type} (c : Bool) (x y : α) : bc c x y = bif c then x else y := by cases c <;> rfl

theorem qD_eq (P : Program) (o : Oper) (ev : Ev) (s : St) : qD o.op P ev s = aquiet P o ev s := by
  obtain ⟨dst, op, type, pos, after, guard⟩ := o
  cases op
  case call c =>
    obtain ⟨callee, args, argTypes⟩ := c
    cases callee with
    | value f => rfl
    | invoke r m => rfl
    | builtin b =>
      cases b
      all_goals simp only [qD, qCall, qBuiltin, qLen, qMin, qMax, qNone, len2, min2, max2, ob_eq, bc_eq]
      all_goals rfl
  all_goals simp only [qD, qMove, qPick, qBuild, qBuild2, partsA, qLoad, qLoad2, loadP, loadZ, qNilCheck, qNilCheck2, qBinOp, binF, binI, binS, binO, qUnOp, qUnOp2, qConvert, qConvert2, qMakeInterface, qMakeFunc, qFieldAddr, fieldAddr2, fieldAddr3, fieldAddrZ,
    qField, field2, qIndexAddr, indexAddr2, qIndex, index2, qSlice, sliceF2, qLookup, lookup2, qExtract, extract2, qNone, ob_eq, bc_eq]
  all_goals rfl

theorem opD_quiet (P : Program) (rec : Rc) (o : Oper) (ev : Ev) (s : St) (h : isQuiet o = true) : opD o.op P rec ev s = qv (qD o.op P ev s) s := by
  obtain ⟨dst, op, type, pos, after, guard⟩ := o
  cases op
  case call c =>
    obtain ⟨callee, args, argTypes⟩ := c
    cases callee with
    | value f => cases h
    | invoke r m => cases h
    | builtin b => cases b <;> first | rfl | cases h
  all_goals first | rfl | cases h

theorem invG_eq (rec : Rc) (fn : Fn) (captured args : List AV) (s : St) : invG rec fn captured args s = invA rec fn captured args s := by
  cases fn <;> rfl

theorem opD_loud (P : Program) (rec : Rc) (o : Oper) (ev : Ev) (s : St) (h : isQuiet o = false) : opD o.op P rec ev s = stepOp P rec o ev s := by
  unfold stepOp
  rw [h, cond_false]
  obtain ⟨dst, op, type, pos, after, guard⟩ := o
  cases op
  case call c =>
    obtain ⟨callee, args, argTypes⟩ := c
    cases callee with
    | value f =>
      simp only [opD, lCall, lCallV, callA, ob_eq]
      congr 1; funext f
      congr 1; funext args
      cases f <;> first | rfl | exact invG_eq ..
    | invoke r m => rfl
    | builtin b =>
      cases b
      all_goals first | (cases h; done) | skip
      all_goals simp only [opD, lCall, lBuiltin, lAppend, append2, lCopy, copy2, lClear, clear2, lDelete, delete2, lNone, ob_eq, bc_eq]
      all_goals rfl
  case makeMap t r => cases r <;> rfl
  all_goals first | (cases h; done) | skip
  all_goals simp only [opD, lAlloc, bAlloc, lBox, bBox, lBuildSlice, bBuildSlice, buildSlice2, partsA, lMakeSlice, bMakeSlice, makeSlice2, bornS, lStore, store2, lMapSet, mapSet2, lNone, ob_eq, bc_eq]
  all_goals rfl

theorem opD_eq (P : Program) (rec : Rc) (o : Oper) (ev : Ev) (s : St) : opD o.op P rec ev s = stepOp P rec o ev s := by
  cases h : isQuiet o with
  | true =>
    rw [opD_quiet P rec o ev s h, qD_eq]
    unfold stepOp qv
    rw [h, cond_true, ob_eq]
  | false => exact opD_loud P rec o ev s h

theorem evF_eq (P : Program) (ts : T AV) : evF P ts = evalA P ts := by
  funext x
  cases x with
  | tmp t =>
    show some (Option.rec (motive := fun _ => AV) undefA (fun v => v) (ts.get t)) = some ((ts.get t).getD undefA)
    cases ts.get t <;> rfl
  | const v => rfl
  | global g => exact bc_eq ..
  | func f => rfl

theorem frPut_eq (cx : Cx) (fr : Fr) (dst : Option Tmp) (v : AV) : frPut cx fr dst v = fr.put cx dst v := by
  cases dst with
  | none => rfl
  | some d => exact bc_eq ..

theorem wantF_eq (ops : Array Oper) (ts : T AV) (o : Oper) : wantF ops ts o = wantedA ops ts o := by
  unfold wantF wantedA
  cases o.guard <;> rfl

theorem opsF_eq (P : Program) (rec : Rc) (cx : Cx) (ops : Array Oper) : ∀ (l : List Oper) (fr : Fr) (s : St), opsF P rec cx ops l fr s = opsA P rec cx ops l fr s
  | [], _, _ => rfl
  | o :: l, fr, s => by
    show oneF P rec cx ops o (opsF P rec cx ops l) fr s = opsA P rec cx ops (o :: l) fr s
    have ih : opsF P rec cx ops l = opsA P rec cx ops l := by funext fr s; exact opsF_eq P rec cx ops l fr s
    rw [ih]
    unfold oneF
    simp only [opsA, bc_eq, wantF_eq, ob_eq, frPut_eq, evF_eq]
    cases wantedA ops fr.ts o with
    | false => rfl
    | true =>
      simp only [cond_true]
      obtain ⟨dst, op, type, pos, after, guard⟩ := o
      cases op
      case defer c => rfl
      all_goals
        simp only [defD]
        rw [← opD_eq]
        congr 1
        funext r
        simp only [doneF, ob_eq, frPut_eq]

theorem evRF_eq (P : Program) (ops : Array Oper) (o : Oper) (ts : T AV) : evRF P ops o ts = evR P ops o ts := by
  funext x
  cases x with
  | tmp t => simp only [evRF, evR, bc_eq, evF_eq]
  | const v => simp only [evRF, evR, evF_eq]
  | global g => simp only [evRF, evR, evF_eq]
  | func f => simp only [evRF, evR, evF_eq]

theorem oneT_eq (P : Program) (rec : Rc) (ops : Array Oper) (o : Oper) (ts : T AV) (s : St) : oneT P rec ops o ts s = one P rec ops o ts s := by
  unfold oneT one
  simp only [bc_eq, wantF_eq, ob_eq, evRF_eq, qD_eq, opD_eq]

theorem traceF_eq (P : Program) (rec : Rc) (cx : Cx) (ops : Array Oper) : ∀ (l : List Oper) (fr : Fr) (s : St), traceF P rec cx ops l fr s = trace P rec cx ops l fr s
  | [], _, _ => rfl
  | o :: l, fr, s => by
    show (ob (oneT P rec ops o fr.ts s) fun e => ob (frPut cx fr o.dst e.v) fun fr' => ob (traceF P rec cx ops l fr' e.s') (consT e)) = trace P rec cx ops (o :: l) fr s
    have ih : traceF P rec cx ops l = trace P rec cx ops l := by funext fr s; exact traceF_eq P rec cx ops l fr s
    rw [ih]
    simp only [trace, ob_eq, oneT_eq, frPut_eq, consT]
    rfl

theorem traceOkF_eq (P : Program) (ops : Array Oper) (b : List Nat) (s₀ : St) (l : List (Nat × TE)) : traceOkF P ops b s₀ l = traceOk P ops b s₀ l := by
  unfold traceOkF traceOkF2 traceOk entryOk quietOk loudOk
  simp only [evRF_eq, qD_eq]
  rfl

theorem drawF_eq (P : Program) (rec : Rc) (cx : Cx) (ops : Array Oper) (fr : Fr) (s : St) : drawF P rec cx ops fr s = drawA P rec cx ops fr s := by
  unfold drawF drawA
  simp only [bc_eq, ob_eq, traceF_eq, traceOkF_eq]

theorem stepF_eq (P : Program) (rec : Rc) (t : Task) : stepF P rec t = stepT P rec t := by
  cases t with
  | call f args s =>
    show callF P rec f args s = _
    unfold callF
    simp only [ob_eq, stepT]
    cases P.funcs[f]? with
    | none => rfl
    | some fn =>
      cases hb : fn.body with
      | none => simp only [Option.bind_some, hb, Option.bind_none]
      | some c =>
        simp only [Option.bind_some, hb, callBody]
        cases rec _ with
        | none => rfl
        | some r =>
          cases r with
          | val v s => rfl
          | code e fr s1 => cases e <;> simp only [callEnd, ob_eq]
  | code cx c fr s =>
    show codeD c P rec cx fr s = _
    cases c with
    | region id ops draw =>
      simp only [codeD, cRegion, stepT, ob_eq, bc_eq, drawF_eq, opsF_eq]
    | cond c a b =>
      simp only [codeD, cCond, stepT, evF_eq]
      rfl
    | seq a b => rfl
    | block id c => rfl
    | loop c => rfl
    | rangeFunc f ps a b => rfl
    | _ => rfl

theorem runF_eq (P : Program) : ∀ n, runF P n = run P n
  | 0 => rfl
  | n + 1 => by
    funext t
    show stepF P (runF P n) t = stepT P (run P n) t
    rw [runF_eq P n, stepF_eq]

end Go.Ab
