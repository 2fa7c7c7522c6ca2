/- Own text of this claim: part Ab2. -/
import Derived.Test.YtjffanafmodhdaaGreatDoorAb1
set_option linter.unusedVariables false
set_option linter.unusedSimpArgs false
set_option linter.unusedSectionVars false
set_option linter.unnecessarySimpa false
/-
  Own library, part 2: regions that draw their order; the evaluator itself.
-/
namespace Go.Ab

noncomputable section

/-! ### Regions that draw their order -/

/-- Which operations stand ahead of each, as bits. -/
def befF : List Oper → List Nat → List Nat
  | [], acc => acc
  | o :: rest, acc =>
    befF rest (acc ++ [o.after.toList.foldl (fun m e => bif Region.binds .any e then Nat.lor m (Nat.lor (2 ^ e.on) ((acc[e.on]?).getD 0)) else m) 0])

def bef (ops : Array Oper) : List Nat := befF ops.toList []

def bit (m i : Nat) : Bool := (m / 2 ^ i % 2).beq 1

/-- Two operations of which one stands ahead of the other, or that do not touch one another's temporaries. -/
def pairOk (ops : Array Oper) (b : List Nat) (i j : Nat) (x y : Oper) : Bool :=
  i.beq j || bit ((b[j]?).getD 0) i || bit ((b[i]?).getD 0) j || x.apart ops y

def upto : Nat → List Nat
  | 0 => []
  | n + 1 => upto n ++ [n]

def enum {α : Type} : Nat → List α → List (Nat × α)
  | _, [] => []
  | i, x :: xs => (i, x) :: enum (i + 1) xs

def edgesBack (ops : Array Oper) : Bool := (enum 0 ops.toList).all fun p => p.2.after.toList.all fun e => !Region.binds .any e || Nat.blt e.on p.1

/-- Every edge that binds leads back, and every two operations that touch one another are ordered. -/
def drawOk (ops : Array Oper) (b : List Nat) : Bool :=
  let l := enum 0 ops.toList
  edgesBack ops && l.all fun p => l.all fun q => pairOk ops b p.1 q.1 p.2 q.2

/-- Operations that make a new thing and look at no memory. -/
def isBirth (o : Oper) : Bool :=
  match o.op with
  | .alloc _ | .box .. | .buildSlice .. | .makeMap _ none | .makeChan .. | .makeSlice .. => true
  | _ => false

mutual
def AV.same : AV → AV → Bool
  | .bool a, .bool b => a == b
  | .int k a, .int k' b => ieqk k k' && ieq a b
  | .str a, .str b => a.toList == b.toList
  | .ptr i o, .ptr j p => i.beq j && o.beq p
  | .nilp, .nilp => true
  | .ptrz, .ptrz => true
  | .slice i o l c, .slice j p m d => i.beq j && o.beq p && l.beq m && (match c, d with | .exact x, .exact y => x.beq y | .loose x u, .loose y w => x.beq y && u.beq w | _, _ => false)
  | .nils, .nils => true
  | .map i, .map j => i.beq j
  | .nilm, .nilm => true
  | .chan i, .chan j => i.beq j
  | .nilch, .nilch => true
  | .func (.func f) a b, .func (.func g) c d => f.beq g && AV.sameL a c && AV.sameL b d
  | .func (.yield f) a b, .func (.yield g) c d => f.beq g && AV.sameL a c && AV.sameL b d
  | .nilf, .nilf => true
  | .iface t v, .iface u w => Nat.beq t u && AV.same v w
  | .nili, .nili => true
  | .agg a, .agg b => AV.sameL a b
  | .tuple a, .tuple b => AV.sameL a b
  | _, _ => false
def AV.sameL : List AV → List AV → Bool
  | [], [] => true
  | x :: xs, y :: ys => AV.same x y && AV.sameL xs ys
  | _, _ => false
end

inductive Kd where
  | skip
  | quiet
  | birth (x : AObj)
  | loud

/-- What an operation did, in the text's order: temporaries and heap ahead of it, its value, the heap behind it. -/
structure TE where
  o : Oper
  kind : Kd
  ts : T AV
  s : St
  v : AV
  s' : St

/-- Values of operands, of temporaries only those that the operation looks at. -/
def evR (P : Program) (ops : Array Oper) (o : Oper) (ts : T AV) (x : Operand) : Option AV :=
  match x with
  | .tmp t => bif (o.looksAt ops).any (Nat.beq t) then evalA P ts (.tmp t) else none
  | x => evalA P ts x

def one (P : Program) (rec : Task → Option Res) (ops : Array Oper) (o : Oper) (ts : T AV) (s : St) : Option TE :=
  bif wantedA ops ts o then
    bif isQuiet o then (aquiet P o (evR P ops o ts) s).bind fun v => some { o, kind := .quiet, ts, s, v, s' := s }
    else bif isBirth o then (abirth P o (evR P ops o ts) s.next).bind fun r => some { o, kind := .birth r.2, ts, s, v := r.1, s' := s.new r.2 }
    else (stepOp P rec o (evR P ops o ts) s).bind fun r => some { o, kind := .loud, ts, s, v := r.1, s' := r.2 }
  else some { o, kind := .skip, ts, s, v := undefA, s' := s }

def trace (P : Program) (rec : Task → Option Res) (cx : Cx) (ops : Array Oper) : List Oper → Fr → St → Option (List TE × Fr × St)
  | [], fr, s => some ([], fr, s)
  | o :: rest, fr, s =>
    (one P rec ops o fr.ts s).bind fun e => (fr.put cx o.dst e.v).bind fun fr' => (trace P rec cx ops rest fr' e.s').bind fun r => some (e :: r.1, r.2)

def Kd.isLoud : Kd → Bool
  | .loud => true
  | _ => false

def Kd.isBirth : Kd → Bool
  | .birth _ => true
  | _ => false

def anc (b : List Nat) (i j : Nat) : Bool := bit ((b[i]?).getD 0) j

/-- Loud ones stand behind all loud ones and all births ahead of them in the text; quiet ones yield the same wherever they may be done. -/
def traceOk (P : Program) (ops : Array Oper) (b : List Nat) (s₀ : St) (l : List (Nat × TE)) : Bool :=
  let ls := l.filter fun p => p.2.kind.isLoud
  let pts := (0, s₀) :: ls.map fun p => (p.1 + 1, p.2.s')
  l.all fun p =>
    match p.2.kind with
    | .loud => l.all fun q => Nat.ble p.1 q.1 || !(q.2.kind.isLoud || q.2.kind.isBirth) || anc b p.1 q.1
    | .quiet => pts.all fun m =>
        (ls.any fun j => (Nat.ble m.1 j.1 && anc b p.1 j.1) || (Nat.blt j.1 m.1 && anc b j.1 p.1)) ||
        (match aquiet P p.2.o (evR P ops p.2.o p.2.ts) m.2 with
         | some v => AV.same v p.2.v
         | none => false)
    | _ => true

def drawA (P : Program) (rec : Task → Option Res) (cx : Cx) (ops : Array Oper) (fr : Fr) (s : St) : Option (Fr × St) :=
  let b := bef ops
  bif drawOk ops b then
    (trace P rec cx ops ops.toList fr s).bind fun r =>
    bif traceOk P ops b s (enum 0 r.1) then some r.2 else none
  else none

/-! ### Code -/

def readRes (P : Program) (ts : T AV) (s : St) : List ResultVar → Option (List AV)
  | [] => some []
  | .tmp t :: rest => (readRes P ts s rest).bind fun l => some ((ts.get t).getD undefA :: l)
  | .cell a t :: rest =>
    (tyOf P t).bind fun ty =>
    (match (ts.get a).getD undefA with
     | .ptr id off => bif ty.agg then (s.read id off ty.size).bind fun l => some (AV.agg l) else (s.row id).bind fun cs => nth cs off
     | _ => none : Option AV).bind fun v => (readRes P ts s rest).bind fun l => some (v :: l)

def oneOf : List AV → AV
  | [v] => v
  | l => .tuple l

def runDefers (rec : Task → Option Res) : List (ADef ⊕ Nat) → St → Option St
  | [], s => some s
  | .inr id :: rest, s =>
    match s.get id with
    | some (.deferred true) => runDefers rec rest (s.set id (.deferred false))
    | _ => none
  | .inl d :: rest, s => (invA rec d.fn d.captured d.args s).bind fun r => runDefers rec rest r.2

/-- A loop over a function's values is begun: what becomes of the heap. -/
def openA (cx : Cx) (fr : Fr) (s : St) : Option (Nat × List (ADef ⊕ Nat) × St) :=
  match cx.round with
  | some l => (match s.get l with | some (.loop r) => some (r.defers, fr.ds, s) | _ => none)
  | none => some (s.next, .inr s.next :: fr.ds, s.new (.deferred true))

def stepT (P : Program) (rec : Task → Option Res) : Task → Option Res
  | .call f args s =>
    match P.funcs[f]? with
    | none => none
    | some fn =>
      match fn.body with
      | none => none
      | some c =>
        let n := args.length
        let cx : Cx := { fn := f, round := none, nt := n + (fn.ntmps - n) }
        match rec (.code cx c { ts := T.ofListFrom 0 args .leaf, ds := [] } s) with
        | some (.code e fr s1) =>
          match e with
          | .exit _ => none
          | _ => (runDefers rec fr.ds s1).bind fun s2 => (readRes P fr.ts s2 fn.results.toList).bind fun vs => some (.val (oneOf vs) s2)
        | _ => none
  | .code cx c fr s =>
    match c with
    | .skip | .label _ => some (.code .normal fr s)
    | .ret => some (.code .ret fr s)
    | .exit id => some (.code (.exit id) fr s)
    | .seq a b =>
      match rec (.code cx a fr s) with
      | some (.code .normal fr1 s1) => rec (.code cx b fr1 s1)
      | r => r
    | .cond c a b =>
      match evalA P fr.ts c with
      | some (.bool t) => rec (.code cx (bif t then a else b) fr s)
      | _ => none
    | .block id c =>
      match rec (.code cx c fr s) with
      | some (.code (.exit i) fr1 s1) => bif i.beq id then some (.code .normal fr1 s1) else some (.code (.exit i) fr1 s1)
      | r => r
    | .scope c => rec (.code cx c fr s)
    | .loop c =>
      match rec (.code cx c fr s) with
      | some (.code .normal fr1 s1) => rec (.code cx (.loop c) fr1 s1)
      | r => r
    | .region _ ops draw =>
      (bif draw then drawA P rec cx ops fr s else opsA P rec cx ops ops.toList fr s).bind fun r => some (.code .normal r.1 r.2)
    | .rangeFunc f params assign body =>
      match openA cx fr s with
      | none => none
      | some (defers, ds, s1) =>
        let l := s1.next
        let s2 := s1.new (.loop { state := .ready, pending := none, fn := cx.fn, ts := fr.ts, nt := cx.nt, params := params.toList, assign, body, defers })
        match evalA P fr.ts f with
        | some (.func fn first captured) =>
          match invA rec fn captured (first ++ [.func (.yield l) [] []]) s2 with
          | some (_, s3) =>
            match s3.get l with
            | some (.loop r) =>
              match r.state with
              | .busy => none
              | _ =>
                let s4 := s3.kill l
                match r.pending with
                | none => some (.code .normal { fr with ds } s4)
                | some (.exit id) => some (.code (.exit id) { fr with ds } s4)
                | some .ret => some (.code .ret { fr with ds } s4)
                | _ => none
            | _ => none
          | none => none
        | _ => none
    | .goto _ | .refuse _ => none

def run (P : Program) (n : Nat) : Task → Option Res :=
  Nat.rec (motive := fun _ => Task → Option Res) (fun _ => none) (fun _ ih t => stepT P ih t) n

end

end Go.Ab

