/- Own text of this claim: part Ab1. -/
import GoSem.Machine.Exec
import Derived.Orders
set_option linter.unusedVariables false
set_option linter.unusedSimpArgs false
set_option linter.unusedSectionVars false
set_option linter.unnecessarySimpa false
/-
  Own library, part 1: abstract values, an abstract heap, and a deterministic evaluator of the model's code over them.
  Nothing here is assumed: the later parts prove that what it answers is what the model does.
-/
namespace Go.Ab

noncomputable section

/-- How many elements a slice may grow to: just so many, or at least so many (of so many cells each). -/
inductive Cap where
  | exact (c : Nat)
  | loose (c sz : Nat)

inductive AV where
  | bool (b : Bool)
  | int (k : IntKind) (n : Int)
  | str (s : ByteArray)
  | ptr (id off : Nat)
  | nilp
  | ptrz
  | slice (id off len : Nat) (cap : Cap)
  | nils
  | map (id : Nat)
  | nilm
  | chan (id : Nat)
  | nilch
  | func (fn : Fn) (first captured : List AV)
  | nilf
  | iface (t : TypeId) (v : AV)
  | nili
  | agg (cs : List AV)
  | tuple (vs : List AV)

instance : Inhabited AV := ⟨.nilp⟩

def undefA : AV := .tuple []

/-! ### Finite maps from numbers -/

inductive T (α : Type) where
  | leaf
  | node (v : Option α) (l r : T α)

namespace T
variable {α : Type}

def getStep2 (ihl ihr : Nat → Option α) (m : Nat) (_ : Option α) : Option α :=
  Nat.rec (motive := fun _ => Option α) (ihl (Nat.div m (nat_lit 2))) (fun _ _ => ihr (Nat.div m (nat_lit 2))) (Nat.mod m (nat_lit 2))
def getStep (v : Option α) (_ _ : T α) (ihl ihr : Nat → Option α) (n : Nat) : Option α :=
  Nat.rec (motive := fun _ => Option α) v (getStep2 ihl ihr) n

def get (t : T α) : Nat → Option α := T.rec (motive := fun _ => Nat → Option α) (fun _ => none) getStep t

def singleStep2 (ih : Nat → Option α → T α) (v : Option α) (m : Nat) (_ : T α) : T α :=
  Nat.rec (motive := fun _ => T α) (.node none (ih (Nat.div m (nat_lit 2)) v) .leaf) (fun _ _ => .node none .leaf (ih (Nat.div m (nat_lit 2)) v)) (Nat.mod m (nat_lit 2))
def singleStep (_ : Nat) (ih : Nat → Option α → T α) (n : Nat) (v : Option α) : T α :=
  Nat.rec (motive := fun _ => T α) (.node v .leaf .leaf) (singleStep2 ih v) n

/-- one value alone; the first number is fuel: more than the place is enough. -/
def single (f : Nat) : Nat → Option α → T α := Nat.rec (motive := fun _ => Nat → Option α → T α) (fun _ _ => .leaf) singleStep f

def putStep2 (u : Option α) (l r : T α) (ihl ihr : Nat → Option α → T α) (v : Option α) (m : Nat) (_ : T α) : T α :=
  Nat.rec (motive := fun _ => T α) (.node u (ihl (Nat.div m (nat_lit 2)) v) r) (fun _ _ => .node u l (ihr (Nat.div m (nat_lit 2)) v)) (Nat.mod m (nat_lit 2))
def putStep (u : Option α) (l r : T α) (ihl ihr : Nat → Option α → T α) (n : Nat) (v : Option α) : T α :=
  Nat.rec (motive := fun _ => T α) (.node v l r) (putStep2 u l r ihl ihr v) n
def putLeaf (n : Nat) (v : Option α) : T α := single (Nat.succ n) n v

/-- put (or take away) the value at n. -/
def put (t : T α) : Nat → Option α → T α := T.rec (motive := fun _ => Nat → Option α → T α) putLeaf putStep t

def ofListFrom : Nat → List α → T α → T α
  | _, [], t => t
  | i, x :: xs, t => ofListFrom (i + 1) xs (t.put i (some x))

end T

/-! ### The abstract heap -/

structure ADef where
  fn : Fn
  captured : List AV
  args : List AV

structure ALoop where
  state : LoopState
  pending : Option Code
  fn : FuncId
  ts : T AV
  nt : Nat
  params : List Tmp
  assign : Code
  body : Code
  defers : Nat

inductive AObj where
  | cells (cs : List AV) (elem : TypeId)
  | map (es : List (AV × AV × Nat)) (clock : Nat)
  | loop (l : ALoop)
  | deferred (some : Bool)
  | chan

structure St where
  heap : T AObj
  next : Nat

def St.get (s : St) (id : Nat) : Option AObj := s.heap.get id
def St.set (s : St) (id : Nat) (o : AObj) : St := { s with heap := s.heap.put id (some o) }
def St.kill (s : St) (id : Nat) : St := { s with heap := s.heap.put id none }
def St.new (s : St) (o : AObj) : St := { heap := s.heap.put s.next (some o), next := s.next + 1 }

/-! ### Numbers, quickly -/

def fits (k : IntKind) (n : Int) : Bool :=
  match k, n with
  | .i64, .ofNat m => Nat.blt m 9223372036854775808
  | .i64, .negSucc m => Nat.blt m 9223372036854775808
  | .u64, .ofNat m => Nat.blt m 18446744073709551616
  | .u32, .ofNat m => Nat.blt m 4294967296
  | .u8, .ofNat m => Nat.blt m 256
  | .i32, .ofNat m => Nat.blt m 2147483648
  | .i32, .negSucc m => Nat.blt m 2147483648
  | _, _ => false

def wrapQ (k : IntKind) (n : Int) : Int := bif fits k n then n else k.wrap n

def ieq (a b : Int) : Bool :=
  match a, b with
  | .ofNat m, .ofNat n => Nat.beq m n
  | .negSucc m, .negSucc n => Nat.beq m n
  | _, _ => false

def ilt (a b : Int) : Bool :=
  match a, b with
  | .ofNat m, .ofNat n => Nat.blt m n
  | .negSucc m, .negSucc n => Nat.blt n m
  | .negSucc _, .ofNat _ => true
  | .ofNat _, .negSucc _ => false

def ieqk (a b : IntKind) : Bool :=
  match a, b with
  | .i8, .i8 | .i16, .i16 | .i32, .i32 | .i64, .i64 | .u8, .u8 | .u16, .u16 | .u32, .u32 | .u64, .u64 => true
  | _, _ => false

/-! ### Values of the model as abstract ones -/

def ofCell : Value → Option AV
  | .bool b => some (.bool b)
  | .int k n => some (.int k n)
  | .string s => some (.str s)
  | .pointer none => some .nilp
  | .slice none 0 0 => some .nils
  | .map none => some .nilm
  | .chan none => some .nilch
  | .nilFunc => some .nilf
  | .nilIface => some .nili
  | _ => none

def mapO {α β : Type} (f : α → Option β) : List α → Option (List β)
  | [] => some []
  | x :: xs => (f x).bind fun y => (mapO f xs).bind fun ys => some (y :: ys)

def ofValue : Value → Option AV
  | .agg cs => (mapO ofCell cs.toList).bind fun l => some (.agg l)
  | .tuple vs => (mapO ofCell vs.toList).bind fun l => some (.tuple l)
  | .func (.func f) first captured => bif first.size.beq 0 && captured.size.beq 0 then some (.func (.func f) [] []) else none
  | v => ofCell v

def AV.isCell : AV → Bool
  | .agg _ | .tuple _ => false
  | _ => true

def AV.cells : AV → List AV
  | .agg cs => cs
  | v => [v]

/-! ### Types -/

structure ATy where
  desc : TypeDesc
  size : Nat
  bytes : Nat
  zero : Option AV
  agg : Bool

def isAggD : TypeDesc → Bool
  | .struct _ | .array _ _ => true
  | _ => false

def tyOf (P : Program) (t : TypeId) : Option ATy :=
  match P.info? t with
  | none => none
  | some i =>
    match P.underlying t with
    | none => none
    | some d => some { desc := d, size := i.size, bytes := i.bytes, zero := i.zero.bind ofValue, agg := isAggD d }

/-! ### Rows of cells -/

/-- n cells from off on; none: they are not all there. -/
def sub : List AV → Nat → Nat → Option (List AV)
  | _, 0, 0 => some []
  | [], _, _ => none
  | c :: cs, 0, n + 1 => (sub cs 0 n).bind fun l => some (c :: l)
  | _ :: cs, off + 1, n => sub cs off n

/-- the row with these cells laid over it from off on. -/
def splice : List AV → Nat → List AV → Option (List AV)
  | cs, 0, [] => some cs
  | [], _, _ => none
  | _ :: cs, 0, v :: vs => (splice cs 0 vs).bind fun l => some (v :: l)
  | c :: cs, off + 1, vs => (splice cs off vs).bind fun l => some (c :: l)

def nth : List AV → Nat → Option AV
  | [], _ => none
  | c :: _, 0 => some c
  | _ :: cs, n + 1 => nth cs n

def St.row (s : St) (id : Nat) : Option (List AV) :=
  match s.get id with
  | some (.cells cs _) => some cs
  | _ => none

def St.read (s : St) (id off n : Nat) : Option (List AV) := (s.row id).bind fun cs => sub cs off n

def St.write (s : St) (id off : Nat) (vs : List AV) : Option St :=
  match s.get id with
  | some (.cells cs e) => bif vs.all AV.isCell then (splice cs off vs).bind fun l => some (s.set id (.cells l e)) else none
  | _ => none

def reps {α : Type} : Nat → List α → List α
  | 0, _ => []
  | n + 1, l => l ++ reps n l

/-- part of an aggregate: the value of this type at this offset. -/
def apart (P : Program) (t : TypeId) (cs : List AV) (off : Nat) : Option AV :=
  (tyOf P t).bind fun ty => bif ty.agg then (sub cs off ty.size).bind fun l => some (.agg l) else nth cs off

/-! ### Equality -/

def allO {α : Type} (f : α → Option Bool) : List α → Option Bool
  | [] => some true
  | x :: xs =>
    match f x with
    | some true => allO f xs
    | some false => some false
    | none => none

def aeq (P : Program) : Nat → TypeId → AV → AV → Option Bool
  | 0, _, _, _ => none
  | d + 1, t, x, y =>
    match tyOf P t with
    | none => none
    | some ty =>
      match ty.desc, x, y with
      | .bool, .bool a, .bool b => some (a == b)
      | .int _, .int k a, .int k' b => bif ieqk k k' then some (ieq a b) else none
      | .string, .str a, .str b => some (a == b)
      | .pointer _, .nilp, .nilp => some true
      | .pointer _, .nilp, .ptr _ _ => some false
      | .pointer _, .ptr _ _, .nilp => some false
      | .slice _, .nils, .nils => some true
      | .slice _, .nils, .slice _ _ _ _ => some false
      | .slice _, .slice _ _ _ _, .nils => some false
      | .map _ _, .nilm, .nilm => some true
      | .map _ _, .nilm, .map _ => some false
      | .map _ _, .map _, .nilm => some false
      | .func _ _ _, .nilf, .nilf => some true
      | .func _ _ _, .nilf, .func _ _ _ => some false
      | .func _ _ _, .func _ _ _, .nilf => some false
      | .interface _, .nili, .iface _ _ => some false
      | .interface _, .iface _ _, .nili => some false
      | .struct fields, .agg xs, .agg ys =>
        bif P.stoodInHeld t then none else
        allO (fun f => bif f.name == "_" then none else (apart P f.type xs f.offset).bind fun a => (apart P f.type ys f.offset).bind fun b => aeq P d f.type a b) fields.toList
      | _, _, _ => none

/-- The guard ahead of an equality: nothing to ask. -/
def eqFree (P : Program) (t : TypeId) (a b : AV) : Bool :=
  match a, b with
  | .nili, .nili => false
  | .agg _, .agg _ => !P.eqGuardType P.depth t
  | _, _ => true

def abin (P : Program) (op : BinOp) (t : TypeId) (x y : AV) : Option AV :=
  match x, y with
  | .int k a, .int k' b =>
    match op with
    | .shl => bif ilt b 0 then none else some (.int k (wrapQ k (a * 2 ^ (min b.toNat k.bits))))
    | .shr => bif ilt b 0 then none else some (.int k (a.fdiv (2 ^ (min b.toNat k.bits))))
    | _ =>
      bif ieqk k k' then
        match op with
        | .add => some (.int k (wrapQ k (a + b)))
        | .sub => some (.int k (wrapQ k (a - b)))
        | .mul => some (.int k (wrapQ k (a * b)))
        | .quo => bif ieq b 0 then none else some (.int k (wrapQ k (a.tdiv b)))
        | .rem => bif ieq b 0 then none else some (.int k (a.tmod b))
        | .and => some (.int k (k.wrap (BitVec.ofInt k.bits a &&& BitVec.ofInt k.bits b).toNat))
        | .or => some (.int k (k.wrap (BitVec.ofInt k.bits a ||| BitVec.ofInt k.bits b).toNat))
        | .xor => some (.int k (k.wrap (BitVec.ofInt k.bits a ^^^ BitVec.ofInt k.bits b).toNat))
        | .andNot => some (.int k (k.wrap (BitVec.ofInt k.bits a &&& ~~~(BitVec.ofInt k.bits b)).toNat))
        | .eql => some (.bool (ieq a b))
        | .neq => some (.bool (!ieq a b))
        | .lss => some (.bool (ilt a b))
        | .leq => some (.bool (!ilt b a))
        | .gtr => some (.bool (ilt b a))
        | .geq => some (.bool (!ilt a b))
        | _ => none
      else none
  | .str a, .str b =>
    match op with
    | .eql => some (.bool (a.toList == b.toList))
    | .neq => some (.bool (!(a.toList == b.toList)))
    | _ => none
  | x, y =>
    match op with
    | .eql => bif eqFree P t x y then (aeq P 8 t x y).bind fun b => some (.bool b) else none
    | .neq => bif eqFree P t x y then (aeq P 8 t x y).bind fun b => some (.bool (!b)) else none
    | _ => none

/-! ### Maps -/

/-- may this be a key (nothing to hash that cannot be)? -/
def akey (P : Program) : Nat → TypeId → AV → Bool
  | 0, _, _ => false
  | d + 1, t, v =>
    match tyOf P t with
    | none => false
    | some ty =>
      match ty.desc, v with
      | .struct fields, .agg cs => fields.toList.all fun f => match apart P f.type cs f.offset with | some x => akey P d f.type x | none => false
      | .int _, .int _ _ => true
      | _, _ => false

/-- where a key stands, and what stands there. -/
def afind (P : Program) (kt : TypeId) (k : AV) : List (AV × AV × Nat) → Nat → Option (Option (Nat × AV))
  | [], _ => some none
  | e :: es, i =>
    match aeq P 8 kt k e.1 with
    | some true => some (some (i, e.2.1))
    | some false => afind P kt k es (i + 1)
    | none => none

def scalarSame : AV → AV → Bool
  | .bool a, .bool b => a == b
  | .int k a, .int l b => ieqk k l && ieq a b
  | .str a, .str b => a == b
  | _, _ => false

def scalarsSame : List AV → List AV → Bool
  | [], [] => true
  | x :: xs, y :: ys => scalarSame x y && scalarsSame xs ys
  | _, _ => false

/-- Are two keys the same to the bit? -/
def plainSame : AV → AV → Bool
  | .agg a, .agg b => scalarsSame a b
  | x, y => scalarSame x y

def setVal : List (AV × AV × Nat) → Nat → AV → AV → List (AV × AV × Nat)
  | [], _, _, _ => []
  | e :: es, 0, k, v => (k, v, e.2.2) :: es
  | e :: es, i + 1, k, v => e :: setVal es i k v

/-! ### Operations that call nothing -/

def asNat (v : AV) : Option Nat :=
  match v with
  | .int _ (.ofNat n) => some n
  | _ => none

def fillA (place : Nat → Option (Nat × Nat)) (cells : List AV) : List (Nat × AV) → Option (List AV)
  | [] => some cells
  | (i, v) :: rest =>
    (place i).bind fun p => bif v.cells.length.beq p.2 then (splice cells p.1 v.cells).bind fun cs => fillA place cs rest else none

def capOf : Cap → Nat
  | .exact c => c
  | .loose c _ => c

def subCap : Cap → Nat → Cap
  | .exact c, l => .exact (c - l)
  | .loose c sz, l => .loose (c - l) sz

/-- The cells of so many elements of what is appended or copied. -/
def srcCells (s : St) (size n : Nat) : AV → Option (List AV)
  | .slice id off len _ => bif Nat.ble n len then s.read id off (n * size) else none
  | .nils => bif n.beq 0 then some [] else none
  | _ => none

def srcLen : AV → Option Nat
  | .slice _ _ len _ => some len
  | .nils => some 0
  | _ => none

def aappend (ty : ATy) (et : TypeId) (s : St) (dst src : AV) : Option (AV × St) :=
  (srcLen src).bind fun m => (srcCells s ty.size m src).bind fun new =>
  bif ty.size.beq 0 || !new.all AV.isCell then none else
  match dst with
  | .nils => bif m.beq 0 then some (.nils, s) else bif Nat.ble (m * ty.bytes) 1073741824 && Nat.ble m 1073741824 then some (.slice s.next 0 m (.loose m ty.size), s.new (.cells new et)) else none
  | .slice id off len cap =>
    let need := len + m
    bif Nat.ble need (capOf cap) then
      (match cap with
       | .exact _ => true
       | .loose _ sz => sz.beq ty.size) |> fun ok =>
      bif ok then (s.write id (off + len * ty.size) new).bind fun s' => some (.slice id off need cap, s') else none
    else
      bif Nat.ble (need * ty.bytes) 1073741824 && Nat.ble need 1073741824 then
        match cap with
        | .exact _ => (s.read id off (len * ty.size)).bind fun old => bif old.all AV.isCell then some (.slice s.next 0 need (.loose need ty.size), s.new (.cells (old ++ new) et)) else none
        | .loose _ sz =>
          bif sz.beq ty.size then
            match s.get id with
            | some (.cells cs e) =>
              bif off.beq 0 && (off + len * ty.size).beq cs.length && e.beq et then
                (sub cs off (len * ty.size)).bind fun old => bif old.all AV.isCell then some (.slice s.next 0 need (.loose need ty.size), (s.kill id).new (.cells (old ++ new) et)) else none
              else none
            | _ => none
          else none
      else none
  | _ => none

def acopy (ty : ATy) (s : St) (dst src : AV) : Option (AV × St) :=
  (srcLen src).bind fun m =>
  match dst with
  | .nils => some (.int .i64 0, s)
  | .slice id off len _ =>
    let n := Nat.min m len
    match src with
    | .slice sid soff _ _ => (s.read sid soff (n * ty.size)).bind fun cells => (s.write id off cells).bind fun s' => some (.int .i64 n, s')
    | .nils => some (.int .i64 0, s)
    | _ => none
  | _ => none

def evalA (P : Program) (ts : T AV) : Operand → Option AV
  | .tmp t => some ((ts.get t).getD undefA)
  | .const v => ofValue v
  | .global g => bif Nat.blt g P.globals.size then some (.ptr g 0) else none
  | .func f => some (.func (.func f) [] [])

def asBoolA : AV → Option Bool
  | .bool b => some b
  | _ => none

def optA (f : Operand → Option AV) : Option Operand → Option (Option AV)
  | none => some none
  | some o => (f o).bind fun v => some (some v)

def boundA (d : Nat) : Option AV → Option Nat
  | none => some d
  | some v => asNat v

def fieldOf (fields : Array Field) (i : Nat) : Option Field := fields[i]?

/-- Operations that leave the heap as it is. -/
def aquiet (P : Program) (o : Oper) (ev : Operand → Option AV) (s : St) : Option AV :=
  match o.op with
  | .move x | .assign x => ev x
  | .pick c a b => (ev c).bind fun c => (asBoolA c).bind fun c => (ev a).bind fun a => (ev b).bind fun b => some (bif c then a else b)
  | .build t parts =>
    (tyOf P t).bind fun ty => ty.zero.bind fun z => (mapO (fun p : Nat × Operand => (ev p.2).bind fun v => some (p.1, v)) parts.toList).bind fun vs =>
    match ty.desc with
    | .struct fields => bif fields.toList.all fun f => (tyOf P f.type).isSome then (fillA (fun i => (fieldOf fields i).bind fun f => (tyOf P f.type).bind fun ft => some (f.offset, ft.size)) z.cells vs).bind fun cs => some (.agg cs) else none
    | .array _ elem => (tyOf P elem).bind fun et => (fillA (fun i => some (i * et.size, et.size)) z.cells vs).bind fun cs => some (.agg cs)
    | _ => none
  | .load t a =>
    (tyOf P t).bind fun ty => (ev a).bind fun a =>
    match a with
    | .ptr id off => bif ty.agg then (s.read id off ty.size).bind fun l => some (.agg l) else (s.row id).bind fun cs => nth cs off
    | .ptrz => bif ty.agg && ty.size.beq 0 then some (.agg []) else none
    | _ => none
  | .nilCheck x => (ev x).bind fun v => match v with | .ptr _ _ | .ptrz | .iface _ _ | .func (.func _) _ _ => some v | _ => none
  | .binOp op t x y _ => (ev x).bind fun x => (ev y).bind fun y => abin P op t x y
  | .unOp op _ x => (ev x).bind fun x =>
    match op, x with
    | .not, .bool b => some (.bool !b)
    | .neg, .int k n => some (.int k (wrapQ k (0 - n)))
    | _, _ => none
  | .convert src dst x => (ev x).bind fun x => (tyOf P src).bind fun _ => (tyOf P dst).bind fun ty =>
    match ty.desc, x with
    | .int k, .int _ n => some (.int k (wrapQ k n))
    | _, _ => none
  | .makeInterface t x => (ev x).bind fun x => (tyOf P t).bind fun ty => match ty.desc with | .interface _ => none | _ => some (.iface t x)
  | .makeFunc fn first captured => (mapO ev first.toList).bind fun a => (mapO ev captured.toList).bind fun b => match fn with | .func _ => some (.func fn a b) | _ => none
  | .fieldAddr st x i => (ev x).bind fun x => (tyOf P st).bind fun ty =>
    match ty.desc with
    | .struct fields => (fieldOf fields i).bind fun f => (tyOf P f.type).bind fun ft =>
      match x with
      | .ptr id off =>
        bif ft.size.beq 0 then
          match s.get id with
          | some (.cells _ e) => (tyOf P e).bind fun et => bif !et.size.beq 0 then
              (match byteOfCell P P.depth e (off % et.size), byteOfCell P P.depth e ((off + f.offset) % et.size) with
               | some _, some _ => some .ptrz
               | _, _ => none) else none
          | _ => none
        else some (.ptr id (off + f.offset))
      | _ => none
    | _ => none
  | .field t x i => (ev x).bind fun x => (tyOf P t).bind fun ty =>
    match ty.desc, x with
    | .struct fields, .agg cs => (fieldOf fields i).bind fun f => apart P f.type cs f.offset
    | _, _ => none
  | .indexAddr t x i => (ev x).bind fun x => (ev i).bind fun i => (asNat i).bind fun i => (tyOf P t).bind fun ty =>
    match ty.desc, x with
    | .array len elem, .ptr id off => bif Nat.blt i len then (tyOf P elem).bind fun et => some (.ptr id (off + i * et.size)) else none
    | .slice elem, .slice id off len _ => bif Nat.blt i len then (tyOf P elem).bind fun et => some (.ptr id (off + i * et.size)) else none
    | _, _ => none
  | .index t x i => (ev x).bind fun x => (ev i).bind fun i => (asNat i).bind fun i => (tyOf P t).bind fun ty =>
    match ty.desc, x with
    | .array len elem, .agg cs => bif Nat.blt i len then (tyOf P elem).bind fun et => apart P elem cs (i * et.size) else none
    | .string, .str b => match b[i]? with | some x => some (.int .u8 x.toNat) | none => none
    | _, _ => none
  | .slice t x lo hi mx => (ev x).bind fun x => (optA ev lo).bind fun lo => (optA ev hi).bind fun hi => (optA ev mx).bind fun mx =>
    (boundA 0 lo).bind fun l => (tyOf P t).bind fun ty =>
    match ty.desc, x, mx with
    | .string, .str b, none => (boundA b.size hi).bind fun h =>
      bif Nat.ble l h && Nat.ble h b.size then some (.str (b.extract l h)) else none
    | .array n elem, .ptr id off, none => (boundA n hi).bind fun h => (tyOf P elem).bind fun et =>
      bif Nat.ble l h && Nat.ble h n then some (.slice id (bif n.beq l then off else off + l * et.size) (h - l) (.exact (n - l))) else none
    | .slice elem, .nils, none => (tyOf P elem).bind fun _ => (boundA 0 hi).bind fun h => bif l.beq 0 && h.beq 0 then some .nils else none
    | .slice elem, .nils, some m => (tyOf P elem).bind fun _ => (asNat m).bind fun m => (match hi with | none => none | some v => asNat v).bind fun h => bif l.beq 0 && h.beq 0 && m.beq 0 then some .nils else none
    | .slice elem, .slice id off len cap, none => (boundA len hi).bind fun h => (tyOf P elem).bind fun et =>
      bif Nat.ble l h && Nat.ble h (capOf cap) then
        match cap with
        | .exact c => some (.slice id (bif c.beq l then off else off + l * et.size) (h - l) (.exact (c - l)))
        | .loose c sz => bif sz.beq et.size && (l.beq 0 || Nat.blt l c) then some (.slice id (off + l * et.size) (h - l) (.loose (c - l) sz)) else none
      else none
    | .slice elem, .slice id off _ cap, some m => (asNat m).bind fun m => (match hi with | none => none | some v => asNat v).bind fun h => (tyOf P elem).bind fun et =>
      bif Nat.ble l h && Nat.ble h m && Nat.ble m (capOf cap) then some (.slice id (bif m.beq l then off else off + l * et.size) (h - l) (.exact (m - l))) else none
    | _, _, _ => none
  | .lookup t x k ok => (ev x).bind fun x => (ev k).bind fun k => (tyOf P t).bind fun ty =>
    match ty.desc with
    | .map kt et => bif akey P 8 kt k then
        (match x with
         | .nilm => some none
         | .map id => (match s.get id with | some (.map es _) => afind P kt k es 0 | _ => none)
         | _ => none).bind fun r =>
        (match r with
         | some (_, v) => some (v, true)
         | none => (tyOf P et).bind fun et => et.zero.bind fun z => some (z, false)).bind fun r =>
        some (bif ok then .tuple [r.1, .bool r.2] else r.1) else none
    | _ => none
  | .extract t i => (ev t).bind fun t => match t with | .tuple vs => nth vs i | _ => none
  | .call { callee := .builtin .len, args, argTypes } =>
    (argTypes[0]?).bind fun t => (args[0]?).bind fun x => (ev x).bind fun x => (tyOf P t).bind fun ty =>
    match ty.desc, x with
    | .string, .str b => some (.int .i64 b.size)
    | .slice _, .slice _ _ n _ => some (.int .i64 n)
    | .slice _, .nils => some (.int .i64 0)
    | .array n _, _ => some (.int .i64 n)
    | .map _ _, .nilm => some (.int .i64 0)
    | .map _ _, .map id => match s.get id with | some (.map es _) => some (.int .i64 es.length) | _ => none
    | _, _ => none
  | .call { callee := .builtin .min, args, .. } =>
    match args.toList with
    | [x, y] => (ev x).bind fun x => (ev y).bind fun y => match x, y with | .int k a, .int _ b => some (.int k (bif ilt b a then b else a)) | _, _ => none
    | _ => none
  | .call { callee := .builtin .max, args, .. } =>
    match args.toList with
    | [x, y] => (ev x).bind fun x => (ev y).bind fun y => match x, y with | .int k a, .int _ b => some (.int k (bif ilt a b then b else a)) | _, _ => none
    | _ => none
  | _ => none

def isQuiet (o : Oper) : Bool :=
  match o.op with
  | .move _ | .assign _ | .pick .. | .build .. | .load .. | .nilCheck _ | .binOp .. | .unOp .. | .convert .. | .makeInterface .. | .makeFunc .. | .fieldAddr .. | .field .. | .indexAddr .. | .index .. | .slice .. | .lookup .. | .extract .. => true
  | .call { callee := .builtin .len, .. } | .call { callee := .builtin .min, .. } | .call { callee := .builtin .max, .. } => true
  | _ => false

/-- Operations that make a new thing and look at no memory: what they make, under this name. -/
def abirth (P : Program) (o : Oper) (ev : Operand → Option AV) (id : Nat) : Option (AV × AObj) :=
  match o.op with
  | .alloc t => (tyOf P t).bind fun ty => ty.zero.bind fun z => bif z.cells.all AV.isCell then some (.ptr id 0, (.cells z.cells t)) else none
  | .box t x => (ev x).bind fun v => bif v.cells.all AV.isCell then some (.ptr id 0, (.cells v.cells t)) else none
  | .buildSlice t len parts =>
    (tyOf P t).bind fun ty => (mapO (fun p : Nat × Operand => (ev p.2).bind fun v => some (p.1, v)) parts.toList).bind fun vs =>
    match ty.desc with
    | .slice elem => (tyOf P elem).bind fun et => et.zero.bind fun z =>
      bif et.size.beq 0 || Nat.blt 16777216 (len * et.size) || !z.cells.length.beq et.size then none else
      (fillA (fun i => some (i * et.size, et.size)) (reps len z.cells) vs).bind fun cs => bif cs.all AV.isCell then some (.slice id 0 len (.exact len), (.cells cs elem)) else none
    | _ => none
  | .makeMap _ none => some (.map id, (.map [] 0))
  | .makeChan t x => (tyOf P t).bind fun ty => (ev x).bind fun x => (asNat x).bind fun n =>
    match ty.desc with
    | .chan _ elem => bif n.beq 0 && (tyOf P elem).isSome then some (.chan id, .chan) else none
    | _ => none
  | .makeSlice t l c => (tyOf P t).bind fun ty => (ev l).bind fun l => (asNat l).bind fun l => (ev c).bind fun c => (asNat c).bind fun c =>
    match ty.desc with
    | .slice elem => (tyOf P elem).bind fun et => et.zero.bind fun z =>
      bif et.size.beq 0 || !z.cells.length.beq et.size || !z.cells.all AV.isCell || !Nat.ble l c || Nat.blt 1073741824 (c * et.bytes) || Nat.blt 1073741824 c then none else
      some (.slice id 0 l (.exact c), (.cells (reps c z.cells) elem))
    | _ => none
  | _ => none

/-- Operations that turn the heap, but call nothing. -/
def aloud (P : Program) (o : Oper) (ev : Operand → Option AV) (s : St) : Option (AV × St) :=
  match o.op with
  | .alloc _ | .box .. | .buildSlice .. | .makeMap _ none | .makeChan .. | .makeSlice .. => (abirth P o ev s.next).bind fun r => some (r.1, s.new r.2)
  | .store t a x => (tyOf P t).bind fun ty => (ev a).bind fun a => (ev x).bind fun x =>
    bif x.cells.length.beq ty.size then
      match a with
      | .ptr id off => bif ty.size.beq 0 then some (undefA, s) else (s.write id off x.cells).bind fun s' => some (undefA, s')
      | .ptrz => bif ty.size.beq 0 then some (undefA, s) else none
      | _ => none
    else none
  | .mapUpdate t m k x | .insert t m k x => (tyOf P t).bind fun ty => (ev m).bind fun m => (ev k).bind fun k => (ev x).bind fun x =>
    match ty.desc, m with
    | .map kt _, .map id =>
      match s.get id with
      | some (.map es clock) => bif akey P 8 kt k then (afind P kt k es 0).bind fun r =>
          match r with
          | some (i, _) => (es[i]?).bind fun e => bif plainSame e.1 k then some (undefA, s.set id (.map (setVal es i k x) clock)) else none
          | none => some (undefA, s.set id (.map (es ++ [(k, x, clock)]) (clock + 1))) else none
      | _ => none
    | _, _ => none
  | .call { callee := .builtin .append, args, argTypes } =>
    (argTypes[0]?).bind fun t => (args[0]?).bind fun x => (args[1]?).bind fun y => (argTypes[1]?).bind fun t1 => (ev x).bind fun x => (ev y).bind fun y => (tyOf P t).bind fun ty => (tyOf P t1).bind fun ty1 =>
    match ty.desc, ty1.desc with
    | _, .int _ => none
    | .slice elem, _ => (tyOf P elem).bind fun et => et.zero.bind fun z => bif z.cells.length.beq et.size then aappend et elem s x y else none
    | _, _ => none
  | .call { callee := .builtin .copy, args, argTypes } =>
    (argTypes[0]?).bind fun t => (args[0]?).bind fun x => (args[1]?).bind fun y => (ev x).bind fun x => (ev y).bind fun y => (tyOf P t).bind fun ty =>
    match ty.desc with
    | .slice elem => (tyOf P elem).bind fun et => acopy et s x y
    | _ => none
  | .call { callee := .builtin .clear, args, argTypes } =>
    (argTypes[0]?).bind fun t => (args[0]?).bind fun x => (ev x).bind fun x => (tyOf P t).bind fun ty =>
    match ty.desc, x with
    | .slice _, .nils => some (.tuple [], s)
    | .slice elem, .slice id off n _ => (tyOf P elem).bind fun et => et.zero.bind fun z => bif n.beq 0 then some (.tuple [], s) else bif z.cells.length.beq et.size && !et.size.beq 0 then (s.write id off (reps n z.cells)).bind fun s' => some (.tuple [], s') else none
    | _, _ => none
  | .call { callee := .builtin .delete, args, argTypes } =>
    (argTypes[0]?).bind fun t => (args[0]?).bind fun x => (args[1]?).bind fun k => (ev x).bind fun m => (ev k).bind fun k => (tyOf P t).bind fun ty =>
    match ty.desc, m with
    | .map kt _, .map id =>
      match s.get id with
      | some (.map es clock) => bif akey P 8 kt k then (afind P kt k es 0).bind fun r =>
          match r with
          | some (i, _) => some (.tuple [], s.set id (.map (es.eraseIdx i) clock))
          | none => some (.tuple [], s) else none
      | _ => none
    | _, _ => none
  | _ => none

/-! ### Code -/

inductive AEx where
  | normal
  | exit (id : Nat)
  | ret

structure Cx where
  fn : FuncId
  round : Option Nat
  nt : Nat

structure Fr where
  ts : T AV
  ds : List (ADef ⊕ Nat)

inductive Task where
  | code (cx : Cx) (c : Code) (fr : Fr) (s : St)
  | call (f : FuncId) (args : List AV) (s : St)

inductive Res where
  | code (e : AEx) (fr : Fr) (s : St)
  | val (v : AV) (s : St)

def Fr.put (cx : Cx) (fr : Fr) (dst : Option Tmp) (v : AV) : Option Fr :=
  match dst with
  | none => some fr
  | some d => bif Nat.blt d cx.nt then some { fr with ts := fr.ts.put d (some v) } else none

def yieldedA (ops : Array Oper) (ts : T AV) (j : Nat) : Option Bool :=
  match (ops[j]?).bind (·.dst) with
  | none => none
  | some d => match ts.get d with
    | some (.bool b) => some b
    | _ => none

def boolEq : Option Bool → Bool → Bool
  | some true, true => true
  | some false, false => true
  | _, _ => false

def wantedA (ops : Array Oper) (ts : T AV) (o : Oper) : Bool :=
  match o.guard with
  | none => true
  | some (j, want) => boolEq (yieldedA ops ts j) want

/-- A function value or a yield, called. -/
def invA (rec : Task → Option Res) (fn : Fn) (captured args : List AV) (s : St) : Option (AV × St) :=
  match fn with
  | .func f => match rec (.call f (args ++ captured) s) with | some (.val v s') => some (v, s') | _ => none
  | .yield l =>
    match s.get l with
    | some (.loop r) =>
      bif args.length.beq r.params.length && (match r.state with | .ready => true | _ => false) then
        let ts := (r.params.zip args).foldl (fun ts (p : Tmp × AV) => bif Nat.blt p.1 r.nt then ts.put p.1 (some p.2) else ts) r.ts
        let cx : Cx := { fn := r.fn, round := some l, nt := r.nt }
        match rec (.code cx r.assign { ts, ds := [] } s) with
        | some (.code .normal fr s1) =>
          match s1.get l with
          | some (.loop r1) =>
            match r1.state with
            | .ready =>
              let s2 := s1.set l (.loop { r1 with state := .busy })
              match rec (.code cx r.body fr s2) with
              | some (.code e fr' s3) =>
                match s3.get l, fr'.ds with
                | some (.loop r3), [] =>
                  match e with
                  | .normal => some (.bool true, s3.set l (.loop { r3 with state := .ready, pending := none }))
                  | .exit id => some (.bool false, s3.set l (.loop { r3 with state := .done, pending := some (.exit id) }))
                  | .ret => some (.bool false, s3.set l (.loop { r3 with state := .done, pending := some .ret }))
                | _, _ => none
              | _ => none
            | _ => none
          | _ => none
        | _ => none
      else none
    | _ => none
  | _ => none

/-- The call of an operation. -/
def callA (rec : Task → Option Res) (c : Call) (ev : Operand → Option AV) (s : St) : Option (AV × St) :=
  match c.callee with
  | .value f => (ev f).bind fun f => (mapO ev c.args.toList).bind fun args =>
    match f with
    | .func fn first captured => invA rec fn captured (first ++ args) s
    | _ => none
  | _ => none

/-- Any operation but a deferred call. -/
def stepOp (P : Program) (rec : Task → Option Res) (o : Oper) (ev : Operand → Option AV) (s : St) : Option (AV × St) :=
  bif isQuiet o then (aquiet P o ev s).bind fun v => some (v, s) else
  match o.op with
  | .call c => match c.callee with
    | .builtin _ => aloud P o ev s
    | _ => callA rec c ev s
  | _ => aloud P o ev s

/-- A region in the text's order. -/
def opsA (P : Program) (rec : Task → Option Res) (cx : Cx) (ops : Array Oper) : List Oper → Fr → St → Option (Fr × St)
  | [], fr, s => some (fr, s)
  | o :: rest, fr, s =>
    bif wantedA ops fr.ts o then
      match o.op with
      | .defer c =>
        match cx.round, c.callee with
        | none, .value f => (evalA P fr.ts f).bind fun f => (mapO (evalA P fr.ts) c.args.toList).bind fun args =>
          match f with
          | .func fn first captured => (Fr.put cx { fr with ds := .inl { fn, captured, args := first ++ args } :: fr.ds } o.dst undefA).bind fun fr' => opsA P rec cx ops rest fr' s
          | _ => none
        | _, _ => none
      | _ => (stepOp P rec o (evalA P fr.ts) s).bind fun r => (fr.put cx o.dst r.1).bind fun fr' => opsA P rec cx ops rest fr' r.2
    else (fr.put cx o.dst undefA).bind fun fr' => opsA P rec cx ops rest fr' s

end

end Go.Ab

