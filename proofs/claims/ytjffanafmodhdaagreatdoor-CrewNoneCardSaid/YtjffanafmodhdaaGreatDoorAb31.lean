/- Own text of this claim: part Ab31. -/
import Derived.Test.YtjffanafmodhdaaGreatDoorAb26
set_option linter.unusedVariables false
set_option linter.unusedSimpArgs false
set_option linter.unusedSectionVars false
set_option linter.unnecessarySimpa false
/-
  Own library, part 31: a goroutine's stack of frames, step by step where that is asked, piece by piece where it is not.
-/
namespace Go.Ab
open Go.Conc (G)

structure AFr where
  fn : FuncId
  nt : Nat
  ts : T AV
  ds : List (ADef ⊕ Nat)
  nrm : Bool
  ret : Bool
  todo : List Item

structure AG where
  top : AFr
  cs : List AFr

noncomputable section

def AFr.at (a : AFr) (k : List Item) : AFr := { a with todo := k }

def enterA (P : Program) (f : FuncId) (args : List AV) (nrm : Bool) : Option AFr :=
  match P.funcs[f]? with
  | none => none
  | some fn =>
    match fn.body with
    | none => none
    | some c => some { fn := f, nt := args.length + (fn.ntmps - args.length), ts := T.ofListFrom 0 args .leaf, ds := [], nrm, ret := false, todo := [.code c] }

def AFr.put (a : AFr) (dst : Option Tmp) (v : AV) (k : List Item) : Option AFr :=
  match dst with
  | none => some { a with todo := k }
  | some d => bif Nat.blt d a.nt then some { a with ts := a.ts.put d (some v), todo := k } else none

def codeU (P : Program) (a : AFr) (c : Code) (k : List Item) : Option AFr :=
  match c with
  | .seq x y => some (a.at (.code x :: .code y :: k))
  | .cond o x y => match evalA P a.ts o with | some (.bool t) => some (a.at (.code (bif t then x else y) :: k)) | _ => none
  | .block i x => some (a.at (.code x :: .inBlock i :: k))
  | .loop x => some (a.at (.code x :: .inLoop x :: k))
  | .scope x => some (a.at (.code x :: .inScope x :: k))
  | .region _ ops false => some (a.at (.inRegion ops (List.range ops.size) :: k))
  | _ => none

def codeN (rec : Task → Option Res) (a : AFr) (c : Code) (k : List Item) (s : St) : Option (AFr × St) :=
  match rec (.code { fn := a.fn, round := none, nt := a.nt } c { ts := a.ts, ds := a.ds } s) with
  | some (.code .normal fr s') => some ({ a with ts := fr.ts, ds := fr.ds, todo := k }, s')
  | some (.code .ret fr s') => some ({ a with ts := fr.ts, ds := fr.ds, ret := true, todo := [] }, s')
  | some (.code (.exit i) fr s') => match exitTo i k with | some k' => some ({ a with ts := fr.ts, ds := fr.ds, todo := k' }, s') | none => none
  | _ => none

def callU (P : Program) (U : FuncId → Bool) (a : AG) (fv : AV) (args : List AV) : Option AG :=
  match fv with
  | .func (.func g) first captured => bif U g then (enterA P g (first ++ args ++ captured) true).bind fun f => some { top := f, cs := a.top :: a.cs } else none
  | _ => none

def opU (P : Program) (rec : Task → Option Res) (U : FuncId → Bool) (a : AG) (ops : Array Oper) (rest : List Nat) (k : List Item) (s : St) (o : Oper) : Option (AG × St) :=
  let plain := (stepOp P rec o (evalA P a.top.ts) s).bind fun r => (a.top.put o.dst r.1 (.inRegion ops rest :: k)).bind fun f => some ({ a with top := f }, r.2)
  match o.op with
  | .defer c =>
    match c.callee with
    | .value f => (evalA P a.top.ts f).bind fun f => (mapO (evalA P a.top.ts) c.args.toList).bind fun args =>
      match f with
      | .func fn first captured => (AFr.put { a.top with ds := .inl { fn, captured, args := first ++ args } :: a.top.ds } o.dst undefA (.inRegion ops rest :: k)).bind fun f => some ({ a with top := f }, s)
      | _ => none
    | _ => none
  | .call c =>
    match c.callee with
    | .value f => (evalA P a.top.ts f).bind fun fv => (mapO (evalA P a.top.ts) c.args.toList).bind fun args =>
      match callU P U a fv args with
      | some a' => some (a', s)
      | none => plain
    | _ => plain
  | _ => plain

def popU (P : Program) (a : AG) (s : St) : Option AG :=
  match a.cs with
  | [] => none
  | c :: cs =>
    (P.funcs[a.top.fn]?).bind fun fn => (readRes P a.top.ts s fn.results.toList).bind fun vs =>
    bif a.top.nrm then
      match c.ret, c.todo with
      | false, .inRegion ops (i :: rest) :: k => (c.put ((ops[i]?).bind (·.dst)) (oneOf vs) (.inRegion ops rest :: k)).bind fun c => some { top := c, cs }
      | _, _ => none
    else bif c.ret then some { top := c, cs } else none

def retU (P : Program) (rec : Task → Option Res) (U : FuncId → Bool) (a : AG) (s : St) : Option (AG × St) :=
  match a.top.ds with
  | [] => (popU P a s).bind fun a' => some (a', s)
  | .inr _ :: _ => none
  | .inl d :: ds =>
    match d.fn with
    | .func g => bif U g then (enterA P g (d.args ++ d.captured) false).bind fun f => some ({ top := f, cs := { a.top with ds } :: a.cs }, s)
        else (invA rec d.fn d.captured d.args s).bind fun r => some ({ a with top := { a.top with ds } }, r.2)
    | _ => none

/-- One move. None: it stands at something that is not its own to do, or at its end. -/
def adv1 (P : Program) (rec : Task → Option Res) (U : FuncId → Bool) (hasU : Code → Bool) (a : AG) (s : St) : Option (AG × St) :=
  bif a.top.ret then retU P rec U a s else
  match a.top.todo with
  | [] => some ({ a with top := { a.top with ret := true } }, s)
  | .code c :: k => bif hasU c then (codeU P a.top c k).bind fun f => some ({ a with top := f }, s) else (codeN rec a.top c k s).bind fun r => some ({ a with top := r.1 }, r.2)
  | .inBlock _ :: k => some ({ a with top := a.top.at k }, s)
  | .inScope _ :: k => some ({ a with top := a.top.at k }, s)
  | .inLoop c :: k => some ({ a with top := a.top.at (.code c :: .inLoop c :: k) }, s)
  | .inRegion _ [] :: k => some ({ a with top := a.top.at k }, s)
  | .inRegion ops (i :: rest) :: k =>
    match ops[i]? with
    | none => none
    | some o => bif wantedA ops a.top.ts o then opU P rec U a ops rest k s o else (a.top.put o.dst undefA (.inRegion ops rest :: k)).bind fun f => some ({ a with top := f }, s)
  | _ => none

def adv (P : Program) (rec : Task → Option Res) (U : FuncId → Bool) (hasU : Code → Bool) : Nat → AG → St → AG × St
  | 0, a, s => (a, s)
  | n + 1, a, s => match adv1 P rec U hasU a s with
    | some (a', s') => adv P rec U hasU n a' s'
    | none => (a, s)

end

/-! ### What it says of frames -/

def kindOf (nrm : Bool) : CallKind := if nrm then .normal else .deferred
def modeOf (ret : Bool) : FrameMode := if ret then .returning else .run

structure AFRel (ρ : Map) (a : AFr) (f : Frame) : Prop where
  is : ∃ tmps defers todo, f = mk a.fn none (kindOf a.nrm) tmps defers (modeOf a.ret) todo ∧ (a.ret = false → todo = a.todo) ∧ TR ρ a.ts a.nt tmps ∧ DsRel ρ a.ds defers

def FsRel (ρ : Map) : List AFr → List Frame → Prop
  | [], [] => True
  | a :: as, f :: fs => AFRel ρ a f ∧ FsRel ρ as fs
  | _, _ => False

structure GRel (ρ : Map) (a : AG) (bs : List Frame) (g : Goroutine) : Prop where
  is : ∃ f fs, g = G f (fs ++ bs) ∧ AFRel ρ a.top f ∧ FsRel ρ a.cs fs

theorem AFRel.mono {ρ ρ' : Map} (h : ρ.le ρ') {a : AFr} {f : Frame} (r : AFRel ρ a f) : AFRel ρ' a f := by
  obtain ⟨t, d, k, h1, h2, h3, h4⟩ := r.is
  exact ⟨t, d, k, h1, h2, h3.mono h, h4.mono h⟩
theorem FsRel.mono {ρ ρ' : Map} (h : ρ.le ρ') : ∀ {as : List AFr} {fs : List Frame}, FsRel ρ as fs → FsRel ρ' as fs
  | [], [], _ => trivial
  | [], _ :: _, r => r.elim
  | _ :: _, [], r => r.elim
  | _ :: _, _ :: _, r => ⟨r.1.mono h, FsRel.mono h r.2⟩
theorem GRel.mono {ρ ρ' : Map} (h : ρ.le ρ') {a : AG} {bs : List Frame} {g : Goroutine} (r : GRel ρ a bs g) : GRel ρ' a bs g := by
  obtain ⟨f, fs, h1, h2, h3⟩ := r.is
  exact ⟨f, fs, h1, h2.mono h, h3.mono h⟩

theorem AFr.put_rel {ρ : Map} {a a' : AFr} {dst : Option Tmp} {v : AV} {v' : Value} {k : List Item} {tmps : Array Value} (h : a.put dst v k = some a') (ht : TR ρ a.ts a.nt tmps) (hv : V ρ v v') :
    a' = { a with ts := a'.ts, todo := k } ∧ TR ρ a'.ts a.nt (putC tmps dst v') := by
  unfold AFr.put at h
  cases dst with
  | none => cases h; exact ⟨rfl, ht⟩
  | some d =>
    obtain ⟨hd, h⟩ := bif_some h
    cases h
    rw [Nat.blt_eq] at hd
    exact ⟨rfl, ht.put hd hv⟩

end Go.Ab

