/- Own text of this claim: part Ab24. -/
import Derived.Test.YtjffanafmodhdaaGreatDoorAb2
set_option linter.unusedVariables false
set_option linter.unusedSimpArgs false
set_option linter.unusedSectionVars false
set_option linter.unnecessarySimpa false
/-
  Own library, part 24: the evaluator once more, laid out for the kernel: small bodies, one look at each operation. Part 25 proves it the same.
-/
namespace Go.Ab

noncomputable section

abbrev Ev := Operand → Option AV
abbrev Rc := Task → Option Res
abbrev OpK := Program → Rc → Ev → St → Option (AV × St)
abbrev QK := Program → Ev → St → Option AV

def ob {α β : Type} (x : Option α) (f : α → Option β) : Option β := Option.rec (motive := fun _ => Option β) none f x
def bc {α : Type} (c : Bool) (x y : α) : α := Bool.rec (motive := fun _ => α) y x c
def qv (x : Option AV) (s : St) : Option (AV × St) := ob x fun v => some (v, s)

/-! ### Quiet operations -/

def qNone : QK := fun _ _ _ => none
def qMove (x : Operand) : QK := fun _ ev _ => ev x
def qPick (c a b : Operand) : QK := fun _ ev _ => ob (ev c) fun c => ob (asBoolA c) fun c => ob (ev a) fun a => ob (ev b) fun b => some (bc c a b)
def qBuild2 (P : Program) (ty : ATy) (z : AV) (vs : List (Nat × AV)) : Option AV :=
  match ty.desc with
  | .struct fields => bif fields.toList.all fun f => (tyOf P f.type).isSome then (fillA (fun i => (fieldOf fields i).bind fun f => (tyOf P f.type).bind fun ft => some (f.offset, ft.size)) z.cells vs).bind fun cs => some (.agg cs) else none
  | .array _ elem => (tyOf P elem).bind fun et => (fillA (fun i => some (i * et.size, et.size)) z.cells vs).bind fun cs => some (.agg cs)
  | _ => none
def partsA (ev : Ev) (parts : List (Nat × Operand)) : Option (List (Nat × AV)) := mapO (fun p : Nat × Operand => (ev p.2).bind fun v => some (p.1, v)) parts
def qBuild (t : TypeId) (parts : Array (Nat × Operand)) : QK := fun P ev _ => ob (tyOf P t) fun ty => ob ty.zero fun z => ob (partsA ev parts.toList) fun vs => qBuild2 P ty z vs
def loadP (s : St) (ty : ATy) (id off : Nat) : Option AV := bc ty.agg (ob (s.read id off ty.size) fun l => some (.agg l)) (ob (s.row id) fun cs => nth cs off)
def loadZ (ty : ATy) : Option AV := bif ty.agg && ty.size.beq 0 then some (.agg []) else none
def qLoad2 (s : St) (ty : ATy) (a : AV) : Option AV :=
  match a with
  | .ptr id off => loadP s ty id off
  | .ptrz => loadZ ty
  | _ => none
def qLoad (t : TypeId) (a : Operand) : QK := fun P ev s => ob (tyOf P t) fun ty => ob (ev a) fun a => qLoad2 s ty a
def qNilCheck2 (v : AV) : Option AV := match v with | .ptr _ _ | .ptrz | .iface _ _ | .func (.func _) _ _ => some v | _ => none
def qNilCheck (x : Operand) : QK := fun _ ev _ => ob (ev x) fun v => qNilCheck2 v

def binI (op : BinOp) (k : IntKind) (a : Int) (k' : IntKind) (b : Int) : Option AV :=
  match op with
  | .shl => bif ilt b 0 then none else some (.int k (wrapQ k (a * 2 ^ (min b.toNat k.bits))))
  | .shr => bif ilt b 0 then none else some (.int k (a.fdiv (2 ^ (min b.toNat k.bits))))
  | _ =>
    bif ieqk k k' then
      match op with
      | .add => some (.int k (wrapQ k (a + b)))
      | .sub => some (.int k (wrapQ k (a - b)))
      | .mul => some (.int k (wrapQ k (a * b)))
      | .quo => bif ieq b 0 then none else some (.int k (wrapQ k (a.tdiv b)))
      | .rem => bif ieq b 0 then none else some (.int k (a.tmod b))
      | .and => some (.int k (k.wrap (BitVec.ofInt k.bits a &&& BitVec.ofInt k.bits b).toNat))
      | .or => some (.int k (k.wrap (BitVec.ofInt k.bits a ||| BitVec.ofInt k.bits b).toNat))
      | .xor => some (.int k (k.wrap (BitVec.ofInt k.bits a ^^^ BitVec.ofInt k.bits b).toNat))
      | .andNot => some (.int k (k.wrap (BitVec.ofInt k.bits a &&& ~~~(BitVec.ofInt k.bits b)).toNat))
      | .eql => some (.bool (ieq a b))
      | .neq => some (.bool (!ieq a b))
      | .lss => some (.bool (ilt a b))
      | .leq => some (.bool (!ilt b a))
      | .gtr => some (.bool (ilt b a))
      | .geq => some (.bool (!ilt a b))
      | _ => none
    else none
def binS (op : BinOp) (a b : ByteArray) : Option AV :=
  match op with
  | .eql => some (.bool (a.toList == b.toList))
  | .neq => some (.bool (!(a.toList == b.toList)))
  | _ => none
def binO (P : Program) (op : BinOp) (t : TypeId) (x y : AV) : Option AV :=
  match op with
  | .eql => bif eqFree P t x y then (aeq P 8 t x y).bind fun b => some (.bool b) else none
  | .neq => bif eqFree P t x y then (aeq P 8 t x y).bind fun b => some (.bool (!b)) else none
  | _ => none
def binF (P : Program) (op : BinOp) (t : TypeId) (x y : AV) : Option AV :=
  match x, y with
  | .int k a, .int k' b => binI op k a k' b
  | .str a, .str b => binS op a b
  | x, y => binO P op t x y
def qBinOp (op : BinOp) (t : TypeId) (x y : Operand) (_ : TypeId) : QK := fun P ev _ => ob (ev x) fun x => ob (ev y) fun y => binF P op t x y
def qUnOp2 (op : UnOp) (x : AV) : Option AV :=
  match op, x with
  | .not, .bool b => some (.bool !b)
  | .neg, .int k n => some (.int k (wrapQ k (0 - n)))
  | _, _ => none
def qUnOp (op : UnOp) (_ : TypeId) (x : Operand) : QK := fun _ ev _ => ob (ev x) fun x => qUnOp2 op x
def qConvert2 (ty : ATy) (x : AV) : Option AV :=
  match ty.desc, x with
  | .int k, .int _ n => some (.int k (wrapQ k n))
  | _, _ => none
def qConvert (src dst : TypeId) (x : Operand) : QK := fun P ev _ => ob (ev x) fun x => ob (tyOf P src) fun _ => ob (tyOf P dst) fun ty => qConvert2 ty x
def qMakeInterface (t : TypeId) (x : Operand) : QK := fun P ev _ => ob (ev x) fun x => ob (tyOf P t) fun ty => match ty.desc with | .interface _ => none | _ => some (.iface t x)
def qMakeFunc (fn : Fn) (first captured : Array Operand) : QK := fun _ ev _ => ob (mapO ev first.toList) fun a => ob (mapO ev captured.toList) fun b => match fn with | .func _ => some (.func fn a b) | _ => none
def fieldAddrZ (P : Program) (s : St) (f : Field) (id off : Nat) : Option AV :=
  match s.get id with
  | some (.cells _ e) => (tyOf P e).bind fun et => bif !et.size.beq 0 then
      (match byteOfCell P P.depth e (off % et.size), byteOfCell P P.depth e ((off + f.offset) % et.size) with
       | some _, some _ => some .ptrz
       | _, _ => none) else none
  | _ => none
def fieldAddr3 (P : Program) (s : St) (x : AV) (f : Field) (ft : ATy) : Option AV :=
  match x with
  | .ptr id off => bc (ft.size.beq 0) (fieldAddrZ P s f id off) (some (.ptr id (off + f.offset)))
  | _ => none
def fieldAddr2 (P : Program) (s : St) (x : AV) (i : Nat) (ty : ATy) : Option AV :=
  match ty.desc with
  | .struct fields => ob (fieldOf fields i) fun f => ob (tyOf P f.type) fun ft => fieldAddr3 P s x f ft
  | _ => none
def qFieldAddr (st : TypeId) (x : Operand) (i : Nat) : QK := fun P ev s => ob (ev x) fun x => ob (tyOf P st) fun ty => fieldAddr2 P s x i ty
def field2 (P : Program) (x : AV) (i : Nat) (ty : ATy) : Option AV :=
  match ty.desc, x with
  | .struct fields, .agg cs => ob (fieldOf fields i) fun f => apart P f.type cs f.offset
  | _, _ => none
def qField (t : TypeId) (x : Operand) (i : Nat) : QK := fun P ev _ => ob (ev x) fun x => ob (tyOf P t) fun ty => field2 P x i ty
def indexAddr2 (P : Program) (x : AV) (i : Nat) (ty : ATy) : Option AV :=
  match ty.desc, x with
  | .array len elem, .ptr id off => bc (Nat.blt i len) (ob (tyOf P elem) fun et => some (.ptr id (off + i * et.size))) none
  | .slice elem, .slice id off len _ => bc (Nat.blt i len) (ob (tyOf P elem) fun et => some (.ptr id (off + i * et.size))) none
  | _, _ => none
def qIndexAddr (t : TypeId) (x i : Operand) : QK := fun P ev _ => ob (ev x) fun x => ob (ev i) fun i => ob (asNat i) fun i => ob (tyOf P t) fun ty => indexAddr2 P x i ty
def index2 (P : Program) (x : AV) (i : Nat) (ty : ATy) : Option AV :=
  match ty.desc, x with
  | .array len elem, .agg cs => bc (Nat.blt i len) (ob (tyOf P elem) fun et => apart P elem cs (i * et.size)) none
  | .string, .str b => match b[i]? with | some x => some (.int .u8 x.toNat) | none => none
  | _, _ => none
def qIndex (t : TypeId) (x i : Operand) : QK := fun P ev _ => ob (ev x) fun x => ob (ev i) fun i => ob (asNat i) fun i => ob (tyOf P t) fun ty => index2 P x i ty
def sliceF2 (P : Program) (x : AV) (hi mx : Option AV) (l : Nat) (ty : ATy) : Option AV :=
  match ty.desc, x, mx with
  | .string, .str b, none => (boundA b.size hi).bind fun h =>
    bif Nat.ble l h && Nat.ble h b.size then some (.str (b.extract l h)) else none
  | .array n elem, .ptr id off, none => (boundA n hi).bind fun h => (tyOf P elem).bind fun et =>
    bif Nat.ble l h && Nat.ble h n then some (.slice id (bif n.beq l then off else off + l * et.size) (h - l) (.exact (n - l))) else none
  | .slice elem, .nils, none => (tyOf P elem).bind fun _ => (boundA 0 hi).bind fun h => bif l.beq 0 && h.beq 0 then some .nils else none
  | .slice elem, .nils, some m => (tyOf P elem).bind fun _ => (asNat m).bind fun m => (match hi with | none => none | some v => asNat v).bind fun h => bif l.beq 0 && h.beq 0 && m.beq 0 then some .nils else none
  | .slice elem, .slice id off len cap, none => (boundA len hi).bind fun h => (tyOf P elem).bind fun et =>
    bif Nat.ble l h && Nat.ble h (capOf cap) then
      match cap with
      | .exact c => some (.slice id (bif c.beq l then off else off + l * et.size) (h - l) (.exact (c - l)))
      | .loose c sz => bif sz.beq et.size && (l.beq 0 || Nat.blt l c) then some (.slice id (off + l * et.size) (h - l) (.loose (c - l) sz)) else none
    else none
  | .slice elem, .slice id off _ cap, some m => (asNat m).bind fun m => (match hi with | none => none | some v => asNat v).bind fun h => (tyOf P elem).bind fun et =>
    bif Nat.ble l h && Nat.ble h m && Nat.ble m (capOf cap) then some (.slice id (bif m.beq l then off else off + l * et.size) (h - l) (.exact (m - l))) else none
  | _, _, _ => none
def qSlice (t : TypeId) (x : Operand) (lo hi mx : Option Operand) : QK := fun P ev _ => ob (ev x) fun x => ob (optA ev lo) fun lo => ob (optA ev hi) fun hi => ob (optA ev mx) fun mx => ob (boundA 0 lo) fun l => ob (tyOf P t) fun ty => sliceF2 P x hi mx l ty
def lookup2 (P : Program) (s : St) (x k : AV) (ok : Bool) (ty : ATy) : Option AV :=
  match ty.desc with
  | .map kt et => bif akey P 8 kt k then
      (match x with
       | .nilm => some none
       | .map id => (match s.get id with | some (.map es _) => afind P kt k es 0 | _ => none)
       | _ => none).bind fun r =>
      (match r with
       | some (_, v) => some (v, true)
       | none => (tyOf P et).bind fun et => et.zero.bind fun z => some (z, false)).bind fun r =>
      some (bif ok then .tuple [r.1, .bool r.2] else r.1) else none
  | _ => none
def qLookup (t : TypeId) (x k : Operand) (ok : Bool) : QK := fun P ev s => ob (ev x) fun x => ob (ev k) fun k => ob (tyOf P t) fun ty => lookup2 P s x k ok ty
def extract2 (t : AV) (i : Nat) : Option AV := match t with | .tuple vs => nth vs i | _ => none
def qExtract (t : Operand) (i : Nat) : QK := fun _ ev _ => ob (ev t) fun t => extract2 t i
def len2 (s : St) (x : AV) (ty : ATy) : Option AV :=
  match ty.desc, x with
  | .string, .str b => some (.int .i64 b.size)
  | .slice _, .slice _ _ n _ => some (.int .i64 n)
  | .slice _, .nils => some (.int .i64 0)
  | .array n _, _ => some (.int .i64 n)
  | .map _ _, .nilm => some (.int .i64 0)
  | .map _ _, .map id => match s.get id with | some (.map es _) => some (.int .i64 es.length) | _ => none
  | _, _ => none
def qLen (args : Array Operand) (argTypes : Array TypeId) : QK := fun P ev s => ob (argTypes[0]?) fun t => ob (args[0]?) fun x => ob (ev x) fun x => ob (tyOf P t) fun ty => len2 s x ty
def min2 (x y : AV) : Option AV := match x, y with | .int k a, .int _ b => some (.int k (bif ilt b a then b else a)) | _, _ => none
def max2 (x y : AV) : Option AV := match x, y with | .int k a, .int _ b => some (.int k (bif ilt a b then b else a)) | _, _ => none
def qMin (args : Array Operand) : QK := fun _ ev _ =>
  match args.toList with
  | [x, y] => (ev x).bind fun x => (ev y).bind fun y => min2 x y
  | _ => none
def qMax (args : Array Operand) : QK := fun _ ev _ =>
  match args.toList with
  | [x, y] => (ev x).bind fun x => (ev y).bind fun y => max2 x y
  | _ => none

/-! ### Births and loud ones -/

def lNone : OpK := fun _ _ _ _ => none
def quietK (q : QK) : OpK := fun P _ ev s => qv (q P ev s) s
def bornS (x : Option (AV × AObj)) (s : St) : Option (AV × St) := ob x fun r => some (r.1, s.new r.2)
def bAlloc (t : TypeId) (P : Program) (id : Nat) : Option (AV × AObj) := ob (tyOf P t) fun ty => ob ty.zero fun z => bc (z.cells.all AV.isCell) (some (.ptr id 0, (.cells z.cells t))) none
def lAlloc (t : TypeId) : OpK := fun P _ _ s => bornS (bAlloc t P s.next) s
def bBox (t : TypeId) (x : Operand) (ev : Ev) (id : Nat) : Option (AV × AObj) := ob (ev x) fun v => bc (v.cells.all AV.isCell) (some (.ptr id 0, (.cells v.cells t))) none
def lBox (t : TypeId) (x : Operand) : OpK := fun _ _ ev s => bornS (bBox t x ev s.next) s
def buildSlice2 (P : Program) (ty : ATy) (len id : Nat) (vs : List (Nat × AV)) : Option (AV × AObj) :=
  match ty.desc with
  | .slice elem => (tyOf P elem).bind fun et => et.zero.bind fun z =>
    bif et.size.beq 0 || Nat.blt 16777216 (len * et.size) || !z.cells.length.beq et.size then none else
    (fillA (fun i => some (i * et.size, et.size)) (reps len z.cells) vs).bind fun cs => bif cs.all AV.isCell then some (.slice id 0 len (.exact len), (.cells cs elem)) else none
  | _ => none
def bBuildSlice (t : TypeId) (len : Nat) (parts : Array (Nat × Operand)) (P : Program) (ev : Ev) (id : Nat) : Option (AV × AObj) := ob (tyOf P t) fun ty => ob (partsA ev parts.toList) fun vs => buildSlice2 P ty len id vs
def lBuildSlice (t : TypeId) (len : Nat) (parts : Array (Nat × Operand)) : OpK := fun P _ ev s => bornS (bBuildSlice t len parts P ev s.next) s
def lMakeMap (_ : TypeId) (r : Option Operand) : OpK := fun _ _ _ s => match r with | none => bornS (some (.map s.next, (.map [] 0))) s | some _ => none
def makeChan2 (P : Program) (ty : ATy) (n id : Nat) : Option (AV × AObj) :=
  match ty.desc with
  | .chan _ elem => bif n.beq 0 && (tyOf P elem).isSome then some (.chan id, .chan) else none
  | _ => none
def bMakeChan (t : TypeId) (x : Operand) (P : Program) (ev : Ev) (id : Nat) : Option (AV × AObj) := ob (tyOf P t) fun ty => ob (ev x) fun x => ob (asNat x) fun n => makeChan2 P ty n id
def lMakeChan (t : TypeId) (x : Operand) : OpK := fun P _ ev s => bornS (bMakeChan t x P ev s.next) s
def makeSlice2 (P : Program) (ty : ATy) (l c id : Nat) : Option (AV × AObj) :=
  match ty.desc with
  | .slice elem => (tyOf P elem).bind fun et => et.zero.bind fun z =>
    bif et.size.beq 0 || !z.cells.length.beq et.size || !z.cells.all AV.isCell || !Nat.ble l c || Nat.blt 1073741824 (c * et.bytes) || Nat.blt 1073741824 c then none else
    some (.slice id 0 l (.exact c), (.cells (reps c z.cells) elem))
  | _ => none
def bMakeSlice (t : TypeId) (l c : Operand) (P : Program) (ev : Ev) (id : Nat) : Option (AV × AObj) := ob (tyOf P t) fun ty => ob (ev l) fun l => ob (asNat l) fun l => ob (ev c) fun c => ob (asNat c) fun c => makeSlice2 P ty l c id
def lMakeSlice (t : TypeId) (l c : Operand) : OpK := fun P _ ev s => bornS (bMakeSlice t l c P ev s.next) s
def store2 (s : St) (ty : ATy) (a x : AV) : Option (AV × St) :=
  match a with
  | .ptr id off => bc (ty.size.beq 0) (some (undefA, s)) (ob (s.write id off x.cells) fun s' => some (undefA, s'))
  | .ptrz => bif ty.size.beq 0 then some (undefA, s) else none
  | _ => none
def lStore (t : TypeId) (a x : Operand) : OpK := fun P _ ev s => ob (tyOf P t) fun ty => ob (ev a) fun a => ob (ev x) fun x => bc (x.cells.length.beq ty.size) (store2 s ty a x) none
def mapSet2 (P : Program) (s : St) (ty : ATy) (m k x : AV) : Option (AV × St) :=
  match ty.desc, m with
  | .map kt _, .map id =>
    match s.get id with
    | some (.map es clock) => bif akey P 8 kt k then (afind P kt k es 0).bind fun r =>
        match r with
        | some (i, _) => (es[i]?).bind fun e => bif plainSame e.1 k then some (undefA, s.set id (.map (setVal es i k x) clock)) else none
        | none => some (undefA, s.set id (.map (es ++ [(k, x, clock)]) (clock + 1))) else none
    | _ => none
  | _, _ => none
def lMapSet (t : TypeId) (m k x : Operand) : OpK := fun P _ ev s => ob (tyOf P t) fun ty => ob (ev m) fun m => ob (ev k) fun k => ob (ev x) fun x => mapSet2 P s ty m k x
def append2 (P : Program) (s : St) (x y : AV) (ty ty1 : ATy) : Option (AV × St) :=
  match ty.desc, ty1.desc with
  | _, .int _ => none
  | .slice elem, _ => (tyOf P elem).bind fun et => et.zero.bind fun z => bif z.cells.length.beq et.size then aappend et elem s x y else none
  | _, _ => none
def lAppend (args : Array Operand) (argTypes : Array TypeId) : OpK := fun P _ ev s => ob (argTypes[0]?) fun t => ob (args[0]?) fun x => ob (args[1]?) fun y => ob (argTypes[1]?) fun t1 => ob (ev x) fun x => ob (ev y) fun y => ob (tyOf P t) fun ty => ob (tyOf P t1) fun ty1 => append2 P s x y ty ty1
def copy2 (P : Program) (s : St) (x y : AV) (ty : ATy) : Option (AV × St) :=
  match ty.desc with
  | .slice elem => (tyOf P elem).bind fun et => acopy et s x y
  | _ => none
def lCopy (args : Array Operand) (argTypes : Array TypeId) : OpK := fun P _ ev s => ob (argTypes[0]?) fun t => ob (args[0]?) fun x => ob (args[1]?) fun y => ob (ev x) fun x => ob (ev y) fun y => ob (tyOf P t) fun ty => copy2 P s x y ty
def clear2 (P : Program) (s : St) (x : AV) (ty : ATy) : Option (AV × St) :=
  match ty.desc, x with
  | .slice _, .nils => some (.tuple [], s)
  | .slice elem, .slice id off n _ => (tyOf P elem).bind fun et => et.zero.bind fun z => bif n.beq 0 then some (.tuple [], s) else bif z.cells.length.beq et.size && !et.size.beq 0 then (s.write id off (reps n z.cells)).bind fun s' => some (.tuple [], s') else none
  | _, _ => none
def lClear (args : Array Operand) (argTypes : Array TypeId) : OpK := fun P _ ev s => ob (argTypes[0]?) fun t => ob (args[0]?) fun x => ob (ev x) fun x => ob (tyOf P t) fun ty => clear2 P s x ty
def delete2 (P : Program) (s : St) (m k : AV) (ty : ATy) : Option (AV × St) :=
  match ty.desc, m with
  | .map kt _, .map id =>
    match s.get id with
    | some (.map es clock) => bif akey P 8 kt k then (afind P kt k es 0).bind fun r =>
        match r with
        | some (i, _) => some (.tuple [], s.set id (.map (es.eraseIdx i) clock))
        | none => some (.tuple [], s) else none
    | _ => none
  | _, _ => none
def lDelete (args : Array Operand) (argTypes : Array TypeId) : OpK := fun P _ ev s => ob (argTypes[0]?) fun t => ob (args[0]?) fun x => ob (args[1]?) fun k => ob (ev x) fun m => ob (ev k) fun k => ob (tyOf P t) fun ty => delete2 P s m k ty

/-! ### Function values -/

def invF (rec : Rc) (f : FuncId) (args : List AV) (s : St) : Option (AV × St) :=
  match rec (.call f args s) with
  | some (.val v s') => some (v, s')
  | _ => none
def invG (rec : Rc) (fn : Fn) (captured args : List AV) (s : St) : Option (AV × St) :=
  match fn with
  | .func f => invF rec f (args ++ captured) s
  | fn => invA rec fn captured args s
def callG (rec : Rc) (f : AV) (args : List AV) (s : St) : Option (AV × St) :=
  match f with
  | .func fn first captured => invG rec fn captured (first ++ args) s
  | _ => none
def lCallV (f : Operand) (args : Array Operand) : OpK := fun _ rec ev s => ob (ev f) fun f => ob (mapO ev args.toList) fun args => callG rec f args s

/-! ### One look -/

def qBuiltin (b : Builtin) (args : Array Operand) (argTypes : Array TypeId) : QK :=
  match b with
  | .len => qLen args argTypes
  | .min => qMin args
  | .max => qMax args
  | _ => qNone
def lBuiltin (b : Builtin) (args : Array Operand) (argTypes : Array TypeId) : OpK :=
  match b with
  | .len => quietK (qLen args argTypes)
  | .min => quietK (qMin args)
  | .max => quietK (qMax args)
  | .append => lAppend args argTypes
  | .copy => lCopy args argTypes
  | .clear => lClear args argTypes
  | .delete => lDelete args argTypes
  | _ => lNone
def qCall (c : Call) : QK :=
  match c with
  | { callee := .builtin b, args, argTypes } => qBuiltin b args argTypes
  | _ => qNone
def lCall (c : Call) : OpK :=
  match c with
  | { callee := .builtin b, args, argTypes } => lBuiltin b args argTypes
  | { callee := .value f, args, .. } => lCallV f args
  | _ => lNone

def qD (o : Op) : QK :=
  match o with
  | .move x => qMove x
  | .assign x => qMove x
  | .pick c a b => qPick c a b
  | .build t parts => qBuild t parts
  | .load t a => qLoad t a
  | .nilCheck x => qNilCheck x
  | .binOp op t x y u => qBinOp op t x y u
  | .unOp op t x => qUnOp op t x
  | .convert s d x => qConvert s d x
  | .makeInterface t x => qMakeInterface t x
  | .makeFunc f a b => qMakeFunc f a b
  | .fieldAddr t x i => qFieldAddr t x i
  | .field t x i => qField t x i
  | .indexAddr t x i => qIndexAddr t x i
  | .index t x i => qIndex t x i
  | .slice t x a b c => qSlice t x a b c
  | .lookup t x k ok => qLookup t x k ok
  | .extract t i => qExtract t i
  | .call c => qCall c
  | _ => qNone

def opD (o : Op) : OpK :=
  match o with
  | .move x => quietK (qMove x)
  | .assign x => quietK (qMove x)
  | .pick c a b => quietK (qPick c a b)
  | .build t parts => quietK (qBuild t parts)
  | .load t a => quietK (qLoad t a)
  | .nilCheck x => quietK (qNilCheck x)
  | .binOp op t x y u => quietK (qBinOp op t x y u)
  | .unOp op t x => quietK (qUnOp op t x)
  | .convert s d x => quietK (qConvert s d x)
  | .makeInterface t x => quietK (qMakeInterface t x)
  | .makeFunc f a b => quietK (qMakeFunc f a b)
  | .fieldAddr t x i => quietK (qFieldAddr t x i)
  | .field t x i => quietK (qField t x i)
  | .indexAddr t x i => quietK (qIndexAddr t x i)
  | .index t x i => quietK (qIndex t x i)
  | .slice t x a b c => quietK (qSlice t x a b c)
  | .lookup t x k ok => quietK (qLookup t x k ok)
  | .extract t i => quietK (qExtract t i)
  | .alloc t => lAlloc t
  | .box t x => lBox t x
  | .buildSlice t n ps => lBuildSlice t n ps
  | .makeMap t r => lMakeMap t r
  | .makeChan t x => lMakeChan t x
  | .makeSlice t l c => lMakeSlice t l c
  | .store t a x => lStore t a x
  | .mapUpdate t m k x => lMapSet t m k x
  | .insert t m k x => lMapSet t m k x
  | .call c => lCall c
  | _ => lNone

def defD (o : Op) : Option Call :=
  match o with
  | .defer c => some c
  | _ => none

/-! ### Regions -/

def evF (P : Program) (ts : T AV) (x : Operand) : Option AV :=
  match x with
  | .tmp t => some (Option.rec (motive := fun _ => AV) undefA (fun v => v) (ts.get t))
  | .const v => ofValue v
  | .global g => bc (Nat.blt g P.globals.size) (some (.ptr g 0)) none
  | .func f => some (.func (.func f) [] [])

def frPut (cx : Cx) (fr : Fr) (dst : Option Tmp) (v : AV) : Option Fr :=
  Option.rec (motive := fun _ => Option Fr) (some fr) (fun d => bc (Nat.blt d cx.nt) (some { fr with ts := fr.ts.put d (some v) }) none) dst

def wantF (ops : Array Oper) (ts : T AV) (o : Oper) : Bool :=
  Option.rec (motive := fun _ => Bool) true (fun g => boolEq (yieldedA ops ts g.1) g.2) o.guard

def deferF (P : Program) (cx : Cx) (c : Call) (dst : Option Tmp) (ih : Fr → St → Option (Fr × St)) (fr : Fr) (s : St) : Option (Fr × St) :=
  match cx.round, c.callee with
  | none, .value f => (evalA P fr.ts f).bind fun f => (mapO (evalA P fr.ts) c.args.toList).bind fun args =>
    match f with
    | .func fn first captured => (Fr.put cx { fr with ds := .inl { fn, captured, args := first ++ args } :: fr.ds } dst undefA).bind fun fr' => ih fr' s
    | _ => none
  | _, _ => none

def doneF (cx : Cx) (dst : Option Tmp) (ih : Fr → St → Option (Fr × St)) (fr : Fr) (r : AV × St) : Option (Fr × St) := ob (frPut cx fr dst r.1) fun fr' => ih fr' r.2

def oneF (P : Program) (rec : Rc) (cx : Cx) (ops : Array Oper) (o : Oper) (ih : Fr → St → Option (Fr × St)) (fr : Fr) (s : St) : Option (Fr × St) :=
  bc (wantF ops fr.ts o)
    (Option.rec (motive := fun _ => Option (Fr × St)) (ob (opD o.op P rec (evF P fr.ts) s) (doneF cx o.dst ih fr)) (fun c => deferF P cx c o.dst ih fr s) (defD o.op))
    (ob (frPut cx fr o.dst undefA) fun fr' => ih fr' s)

def opsF (P : Program) (rec : Rc) (cx : Cx) (ops : Array Oper) (l : List Oper) : Fr → St → Option (Fr × St) :=
  List.rec (motive := fun _ => Fr → St → Option (Fr × St)) (fun fr s => some (fr, s)) (fun o _ ih => oneF P rec cx ops o ih) l

def evRF (P : Program) (ops : Array Oper) (o : Oper) (ts : T AV) (x : Operand) : Option AV :=
  match x with
  | .tmp t => bc ((o.looksAt ops).any (Nat.beq t)) (evF P ts (.tmp t)) none
  | x => evF P ts x

def oneT (P : Program) (rec : Rc) (ops : Array Oper) (o : Oper) (ts : T AV) (s : St) : Option TE :=
  bc (wantF ops ts o)
    (bc (isQuiet o) (ob (qD o.op P (evRF P ops o ts) s) fun v => some { o, kind := .quiet, ts, s, v, s' := s })
      (bc (isBirth o) (ob (abirth P o (evRF P ops o ts) s.next) fun r => some { o, kind := .birth r.2, ts, s, v := r.1, s' := s.new r.2 })
        (ob (opD o.op P rec (evRF P ops o ts) s) fun r => some { o, kind := .loud, ts, s, v := r.1, s' := r.2 })))
    (some { o, kind := .skip, ts, s, v := undefA, s' := s })

def consT (e : TE) (r : List TE × Fr × St) : Option (List TE × Fr × St) := some (e :: r.1, r.2)

def traceF (P : Program) (rec : Rc) (cx : Cx) (ops : Array Oper) (l : List Oper) : Fr → St → Option (List TE × Fr × St) :=
  List.rec (motive := fun _ => Fr → St → Option (List TE × Fr × St)) (fun fr s => some ([], fr, s))
    (fun o _ ih fr s => ob (oneT P rec ops o fr.ts s) fun e => ob (frPut cx fr o.dst e.v) fun fr' => ob (ih fr' e.s') (consT e)) l

def quietOk (P : Program) (ops : Array Oper) (b : List Nat) (ls : List (Nat × TE)) (p : Nat × TE) (m : Nat × St) : Bool :=
  (ls.any fun j => (Nat.ble m.1 j.1 && anc b p.1 j.1) || (Nat.blt j.1 m.1 && anc b j.1 p.1)) ||
  (match qD p.2.o.op P (evRF P ops p.2.o p.2.ts) m.2 with
   | some v => AV.same v p.2.v
   | none => false)

def loudOk (b : List Nat) (p q : Nat × TE) : Bool := Nat.ble p.1 q.1 || !(q.2.kind.isLoud || q.2.kind.isBirth) || anc b p.1 q.1

def entryOk (P : Program) (ops : Array Oper) (b : List Nat) (l ls : List (Nat × TE)) (pts : List (Nat × St)) (p : Nat × TE) : Bool :=
  match p.2.kind with
  | .loud => l.all (loudOk b p)
  | .quiet => pts.all (quietOk P ops b ls p)
  | _ => true

def traceOkF2 (P : Program) (ops : Array Oper) (b : List Nat) (s₀ : St) (l ls : List (Nat × TE)) : Bool :=
  l.all (entryOk P ops b l ls ((0, s₀) :: ls.map fun p => (p.1 + 1, p.2.s')))

def traceOkF (P : Program) (ops : Array Oper) (b : List Nat) (s₀ : St) (l : List (Nat × TE)) : Bool := traceOkF2 P ops b s₀ l (l.filter fun p => p.2.kind.isLoud)

def drawF (P : Program) (rec : Rc) (cx : Cx) (ops : Array Oper) (fr : Fr) (s : St) : Option (Fr × St) :=
  bc (drawOk ops (bef ops))
    (ob (traceF P rec cx ops ops.toList fr s) fun r => bc (traceOkF P ops (bef ops) s (enum 0 r.1)) (some r.2) none)
    none

/-! ### Code -/

abbrev CodeK := Program → Rc → Cx → Fr → St → Option Res

def cSeq2 (b : Code) (rec : Rc) (cx : Cx) (r : Option Res) : Option Res :=
  match r with
  | some (.code .normal fr1 s1) => rec (.code cx b fr1 s1)
  | r => r
def cSeq (a b : Code) : CodeK := fun _ rec cx fr s => cSeq2 b rec cx (rec (.code cx a fr s))
def cCond2 (a b : Code) (rec : Rc) (cx : Cx) (fr : Fr) (s : St) (c : Option AV) : Option Res :=
  match c with
  | some (.bool t) => rec (.code cx (bif t then a else b) fr s)
  | _ => none
def cCond (c : Operand) (a b : Code) : CodeK := fun P rec cx fr s => cCond2 a b rec cx fr s (evF P fr.ts c)
def cBlock2 (id : Nat) (r : Option Res) : Option Res :=
  match r with
  | some (.code (.exit i) fr1 s1) => bif i.beq id then some (.code .normal fr1 s1) else some (.code (.exit i) fr1 s1)
  | r => r
def cBlock (id : Nat) (c : Code) : CodeK := fun _ rec cx fr s => cBlock2 id (rec (.code cx c fr s))
def cScope (c : Code) : CodeK := fun _ rec cx fr s => rec (.code cx c fr s)
def cLoop (c : Code) : CodeK := fun _ rec cx fr s => cSeq2 (.loop c) rec cx (rec (.code cx c fr s))
def cRegion (_ : Nat) (ops : Array Oper) (draw : Bool) : CodeK := fun P rec cx fr s =>
  ob (bc draw (drawF P rec cx ops fr s) (opsF P rec cx ops ops.toList fr s)) fun r => some (.code .normal r.1 r.2)
def cNone : CodeK := fun _ _ _ _ _ => none
def cNormal : CodeK := fun _ _ _ fr s => some (.code .normal fr s)
def cRet : CodeK := fun _ _ _ fr s => some (.code .ret fr s)
def cExit (id : Nat) : CodeK := fun _ _ _ fr s => some (.code (.exit id) fr s)
def cRange (f : Operand) (params : Array Tmp) (a b : Code) : CodeK := fun P rec cx fr s => stepT P rec (.code cx (.rangeFunc f params a b) fr s)

def codeD (c : Code) : CodeK :=
  match c with
  | .skip => cNormal
  | .label _ => cNormal
  | .ret => cRet
  | .exit id => cExit id
  | .seq a b => cSeq a b
  | .cond c a b => cCond c a b
  | .block id c => cBlock id c
  | .scope c => cScope c
  | .loop c => cLoop c
  | .region id ops draw => cRegion id ops draw
  | .rangeFunc f ps a b => cRange f ps a b
  | _ => cNone

def callEnd (P : Program) (rec : Rc) (fn : Func) (r : Option Res) : Option Res :=
  match r with
  | some (.code e fr s1) =>
    match e with
    | .exit _ => none
    | _ => ob (runDefers rec fr.ds s1) fun s2 => ob (readRes P fr.ts s2 fn.results.toList) fun vs => some (.val (oneOf vs) s2)
  | _ => none
def callBody (P : Program) (rec : Rc) (f : FuncId) (args : List AV) (s : St) (fn : Func) (c : Code) : Option Res :=
  callEnd P rec fn (rec (.code { fn := f, round := none, nt := args.length + (fn.ntmps - args.length) } c { ts := T.ofListFrom 0 args .leaf, ds := [] } s))
def callF (P : Program) (rec : Rc) (f : FuncId) (args : List AV) (s : St) : Option Res :=
  ob (P.funcs[f]?) fun fn => ob fn.body fun c => callBody P rec f args s fn c

def stepF (P : Program) (rec : Rc) (t : Task) : Option Res :=
  match t with
  | .call f args s => callF P rec f args s
  | .code cx c fr s => codeD c P rec cx fr s

def runF (P : Program) (n : Nat) : Rc := Nat.rec (motive := fun _ => Rc) (fun _ => none) (fun _ ih t => stepF P ih t) n

end

end Go.Ab

/-
  Own library, part 25: the evaluator laid out for the kernel is the evaluator.
-/
namespace Go.Ab

theorem ob_eq {α β : Type} (x : Option α) (f : α → Option β) : ob x f = x.bind f := by cases x <;> rfl
theorem bc_eq {α : Type} (c : Bool) (x y : α) : bc c x y = bif c then x else y := by cases c <;> rfl

theorem qD_eq (P : Program) (o : Oper) (ev : Ev) (s : St) : qD o.op P ev s = aquiet P o ev s := by
  obtain ⟨dst, op, type, pos, after, guard⟩ := o
  cases op
  case call c =>
    obtain ⟨callee, args, argTypes⟩ := c
    cases callee with
    | value f => rfl
    | invoke r m => rfl
    | builtin b =>
      cases b
      all_goals simp only [qD, qCall, qBuiltin, qLen, qMin, qMax, qNone, len2, min2, max2, ob_eq, bc_eq]
      all_goals rfl
  all_goals simp only [qD, qMove, qPick, qBuild, qBuild2, partsA, qLoad, qLoad2, loadP, loadZ, qNilCheck, qNilCheck2, qBinOp, binF, binI, binS, binO, qUnOp, qUnOp2, qConvert, qConvert2, qMakeInterface, qMakeFunc, qFieldAddr, fieldAddr2, fieldAddr3, fieldAddrZ,
    qField, field2, qIndexAddr, indexAddr2, qIndex, index2, qSlice, sliceF2, qLookup, lookup2, qExtract, extract2, qNone, ob_eq, bc_eq]
  all_goals rfl

theorem opD_quiet (P : Program) (rec : Rc) (o : Oper) (ev : Ev) (s : St) (h : isQuiet o = true) : opD o.op P rec ev s = qv (qD o.op P ev s) s := by
  obtain ⟨dst, op, type, pos, after, guard⟩ := o
  cases op
  case call c =>
    obtain ⟨callee, args, argTypes⟩ := c
    cases callee with
    | value f => cases h
    | invoke r m => cases h
    | builtin b => cases b <;> first | rfl | cases h
  all_goals first | rfl | cases h

theorem invG_eq (rec : Rc) (fn : Fn) (captured args : List AV) (s : St) : invG rec fn captured args s = invA rec fn captured args s := by
  cases fn <;> rfl

theorem opD_loud (P : Program) (rec : Rc) (o : Oper) (ev : Ev) (s : St) (h : isQuiet o = false) : opD o.op P rec ev s = stepOp P rec o ev s := by
  unfold stepOp
  rw [h, cond_false]
  obtain ⟨dst, op, type, pos, after, guard⟩ := o
  cases op
  case call c =>
    obtain ⟨callee, args, argTypes⟩ := c
    cases callee with
    | value f =>
      simp only [opD, lCall, lCallV, callA, ob_eq]
      congr 1; funext f
      congr 1; funext args
      cases f <;> first | rfl | exact invG_eq ..
    | invoke r m => rfl
    | builtin b =>
      cases b
      all_goals first | (cases h; done) | skip
      all_goals simp only [opD, lCall, lBuiltin, lAppend, append2, lCopy, copy2, lClear, clear2, lDelete, delete2, lNone, ob_eq, bc_eq]
      all_goals rfl
  case makeMap t r => cases r <;> rfl
  all_goals first | (cases h; done) | skip
  all_goals simp only [opD, lAlloc, bAlloc, lBox, bBox, lBuildSlice, bBuildSlice, buildSlice2, partsA, lMakeChan, bMakeChan, makeChan2, lMakeSlice, bMakeSlice, makeSlice2, bornS, lStore, store2, lMapSet, mapSet2, lNone, ob_eq, bc_eq]
  all_goals rfl

theorem opD_eq (P : Program) (rec : Rc) (o : Oper) (ev : Ev) (s : St) : opD o.op P rec ev s = stepOp P rec o ev s := by
  cases h : isQuiet o with
  | true =>
    rw [opD_quiet P rec o ev s h, qD_eq]
    unfold stepOp qv
    rw [h, cond_true, ob_eq]
  | false => exact opD_loud P rec o ev s h

theorem evF_eq (P : Program) (ts : T AV) : evF P ts = evalA P ts := by
  funext x
  cases x with
  | tmp t =>
    show some (Option.rec (motive := fun _ => AV) undefA (fun v => v) (ts.get t)) = some ((ts.get t).getD undefA)
    cases ts.get t <;> rfl
  | const v => rfl
  | global g => exact bc_eq ..
  | func f => rfl

theorem frPut_eq (cx : Cx) (fr : Fr) (dst : Option Tmp) (v : AV) : frPut cx fr dst v = fr.put cx dst v := by
  cases dst with
  | none => rfl
  | some d => exact bc_eq ..

theorem wantF_eq (ops : Array Oper) (ts : T AV) (o : Oper) : wantF ops ts o = wantedA ops ts o := by
  unfold wantF wantedA
  cases o.guard <;> rfl

theorem opsF_eq (P : Program) (rec : Rc) (cx : Cx) (ops : Array Oper) : ∀ (l : List Oper) (fr : Fr) (s : St), opsF P rec cx ops l fr s = opsA P rec cx ops l fr s
  | [], _, _ => rfl
  | o :: l, fr, s => by
    show oneF P rec cx ops o (opsF P rec cx ops l) fr s = opsA P rec cx ops (o :: l) fr s
    have ih : opsF P rec cx ops l = opsA P rec cx ops l := by funext fr s; exact opsF_eq P rec cx ops l fr s
    rw [ih]
    unfold oneF
    simp only [opsA, bc_eq, wantF_eq, ob_eq, frPut_eq, evF_eq]
    cases wantedA ops fr.ts o with
    | false => rfl
    | true =>
      simp only [cond_true]
      obtain ⟨dst, op, type, pos, after, guard⟩ := o
      cases op
      case defer c => rfl
      all_goals
        simp only [defD]
        rw [← opD_eq]
        congr 1
        funext r
        simp only [doneF, ob_eq, frPut_eq]

theorem evRF_eq (P : Program) (ops : Array Oper) (o : Oper) (ts : T AV) : evRF P ops o ts = evR P ops o ts := by
  funext x
  cases x with
  | tmp t => simp only [evRF, evR, bc_eq, evF_eq]
  | const v => simp only [evRF, evR, evF_eq]
  | global g => simp only [evRF, evR, evF_eq]
  | func f => simp only [evRF, evR, evF_eq]

theorem oneT_eq (P : Program) (rec : Rc) (ops : Array Oper) (o : Oper) (ts : T AV) (s : St) : oneT P rec ops o ts s = one P rec ops o ts s := by
  unfold oneT one
  simp only [bc_eq, wantF_eq, ob_eq, evRF_eq, qD_eq, opD_eq]

theorem traceF_eq (P : Program) (rec : Rc) (cx : Cx) (ops : Array Oper) : ∀ (l : List Oper) (fr : Fr) (s : St), traceF P rec cx ops l fr s = trace P rec cx ops l fr s
  | [], _, _ => rfl
  | o :: l, fr, s => by
    show (ob (oneT P rec ops o fr.ts s) fun e => ob (frPut cx fr o.dst e.v) fun fr' => ob (traceF P rec cx ops l fr' e.s') (consT e)) = trace P rec cx ops (o :: l) fr s
    have ih : traceF P rec cx ops l = trace P rec cx ops l := by funext fr s; exact traceF_eq P rec cx ops l fr s
    rw [ih]
    simp only [trace, ob_eq, oneT_eq, frPut_eq, consT]
    rfl

theorem traceOkF_eq (P : Program) (ops : Array Oper) (b : List Nat) (s₀ : St) (l : List (Nat × TE)) : traceOkF P ops b s₀ l = traceOk P ops b s₀ l := by
  unfold traceOkF traceOkF2 traceOk entryOk quietOk loudOk
  simp only [evRF_eq, qD_eq]
  rfl

theorem drawF_eq (P : Program) (rec : Rc) (cx : Cx) (ops : Array Oper) (fr : Fr) (s : St) : drawF P rec cx ops fr s = drawA P rec cx ops fr s := by
  unfold drawF drawA
  simp only [bc_eq, ob_eq, traceF_eq, traceOkF_eq]

theorem stepF_eq (P : Program) (rec : Rc) (t : Task) : stepF P rec t = stepT P rec t := by
  cases t with
  | call f args s =>
    show callF P rec f args s = _
    unfold callF
    simp only [ob_eq, stepT]
    cases P.funcs[f]? with
    | none => rfl
    | some fn =>
      cases hb : fn.body with
      | none => simp only [Option.bind_some, hb, Option.bind_none]
      | some c =>
        simp only [Option.bind_some, hb, callBody]
        cases rec _ with
        | none => rfl
        | some r =>
          cases r with
          | val v s => rfl
          | code e fr s1 => cases e <;> simp only [callEnd, ob_eq]
  | code cx c fr s =>
    show codeD c P rec cx fr s = _
    cases c with
    | region id ops draw =>
      simp only [codeD, cRegion, stepT, ob_eq, bc_eq, drawF_eq, opsF_eq]
    | cond c a b =>
      simp only [codeD, cCond, stepT, evF_eq]
      rfl
    | seq a b => rfl
    | block id c => rfl
    | loop c => rfl
    | rangeFunc f ps a b => rfl
    | _ => rfl

theorem runF_eq (P : Program) : ∀ n, runF P n = run P n
  | 0 => rfl
  | n + 1 => by
    funext t
    show stepF P (runF P n) t = stepT P (run P n) t
    rw [runF_eq P n, stepF_eq]

end Go.Ab

