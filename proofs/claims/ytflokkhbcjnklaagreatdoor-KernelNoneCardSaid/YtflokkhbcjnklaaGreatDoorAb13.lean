/-
  Own library, part 13: a goroutine's own steps, for frames of functions and of rounds.
-/
import Derived.Test.YtflokkhbcjnklaaGreatDoorAb12
import Derived.Conc.Own
namespace Go.Ab
open Go.Conc (G Goes)

/-- A frame. -/
def mk (fn : FuncId) (round : Option Nat) (kind : CallKind) (tmps : Array Value) (defers : List Deferred) (mode : FrameMode) (todo : List Item) : Frame :=
  { fn, tmps, todo, defers, mode, kind, roundOf := round }

section
variable {P : Program} {main : Bool} {fn : FuncId} {rd : Option Nat} {kind : CallKind} {tmps : Array Value} {defers : List Deferred} {cs : List Frame} {w w' : World} {k : List Item}

theorem mk_eval (todo : List Item) (x : Operand) : (mk fn rd kind tmps defers .run todo).eval x = ({ tmps, defers } : Act).eval x := by cases x <;> rfl

theorem st_skip : stepG P main (G (mk fn rd kind tmps defers .run (.code .skip :: k)) cs) w = .go (G (mk fn rd kind tmps defers .run k) cs) w #[] := by simp [G, stepG, stepG.exec, mk]
theorem st_label {l : Nat} : stepG P main (G (mk fn rd kind tmps defers .run (.code (.label l) :: k)) cs) w = .go (G (mk fn rd kind tmps defers .run k) cs) w #[] := by simp [G, stepG, stepG.exec, mk]
theorem st_inBlock {i : Nat} : stepG P main (G (mk fn rd kind tmps defers .run (.inBlock i :: k)) cs) w = .go (G (mk fn rd kind tmps defers .run k) cs) w #[] := by simp [G, stepG, stepG.exec, mk]
theorem st_inScope {c : Code} : stepG P main (G (mk fn rd kind tmps defers .run (.inScope c :: k)) cs) w = .go (G (mk fn rd kind tmps defers .run k) cs) w #[] := by simp [G, stepG, stepG.exec, mk]
theorem st_seq {x y : Code} : stepG P main (G (mk fn rd kind tmps defers .run (.code (.seq x y) :: k)) cs) w = .go (G (mk fn rd kind tmps defers .run (.code x :: .code y :: k)) cs) w #[] := by simp [G, stepG, stepG.exec, mk]
theorem st_cond {c : Operand} {x y : Code} {t : Bool} (h : ({ tmps, defers } : Act).eval c = .bool t) :
    stepG P main (G (mk fn rd kind tmps defers .run (.code (.cond c x y) :: k)) cs) w = .go (G (mk fn rd kind tmps defers .run (.code (if t then x else y) :: k)) cs) w #[] := by
  have h' := mk_eval (fn := fn) (rd := rd) (kind := kind) (tmps := tmps) (defers := defers) (.code (.cond c x y) :: k) c
  rw [h] at h'
  simp only [mk] at h'
  simp [G, stepG, stepG.exec, mk, h']
theorem st_block {i : Nat} {c : Code} : stepG P main (G (mk fn rd kind tmps defers .run (.code (.block i c) :: k)) cs) w = .go (G (mk fn rd kind tmps defers .run (.code c :: .inBlock i :: k)) cs) w #[] := by simp [G, stepG, stepG.exec, mk]
theorem st_scope {c : Code} : stepG P main (G (mk fn rd kind tmps defers .run (.code (.scope c) :: k)) cs) w = .go (G (mk fn rd kind tmps defers .run (.code c :: .inScope c :: k)) cs) w #[] := by simp [G, stepG, stepG.exec, mk]
theorem st_loop {c : Code} : stepG P main (G (mk fn rd kind tmps defers .run (.code (.loop c) :: k)) cs) w = .go (G (mk fn rd kind tmps defers .run (.code c :: .inLoop c :: k)) cs) w #[] := by simp [G, stepG, stepG.exec, mk]
theorem st_inLoop {c : Code} : stepG P main (G (mk fn rd kind tmps defers .run (.inLoop c :: k)) cs) w = .go (G (mk fn rd kind tmps defers .run (.code c :: .inLoop c :: k)) cs) w #[] := by simp [G, stepG, stepG.exec, mk]
theorem st_exit {i : Nat} {k' : List Item} (h : exitTo i k = some k') : stepG P main (G (mk fn rd kind tmps defers .run (.code (.exit i) :: k)) cs) w = .go (G (mk fn rd kind tmps defers .run k') cs) w #[] := by simp [G, stepG, stepG.exec, mk, h]
theorem st_ret : stepG P main (G (mk fn none kind tmps defers .run (.code .ret :: k)) cs) w = .go (G (mk fn none kind tmps defers .returning (.code .ret :: k)) cs) w #[] := by simp [G, stepG, stepG.exec, mk]
theorem st_end : stepG P main (G (mk fn none kind tmps defers .run []) cs) w = .go (G (mk fn none kind tmps defers .returning []) cs) w #[] := by simp [G, stepG, stepG.exec, mk]
theorem st_region {i : Nat} {ops : Array Oper} : stepG P main (G (mk fn rd kind tmps defers .run (.code (.region i ops false) :: k)) cs) w = .go (G (mk fn rd kind tmps defers .run (.inRegion ops (List.range ops.size) :: k)) cs) w #[] := by simp [G, stepG, stepG.exec, mk]
theorem st_draw {i : Nat} {ops : Array Oper} : stepG P main (G (mk fn rd kind tmps defers .run (.code (.region i ops true) :: k)) cs) w =
    .go (G (mk fn rd kind tmps defers .run (.inRegion ops (Region.schedule (P.follows .mixedOrders) ops (w.tape w.drawn (.order fn i))) :: k)) cs) { w with drawn := w.drawn + 1 } #[] := by
  simp [G, stepG, stepG.exec, mk, choose, Sem.run, Question.forced, Question.cut]
theorem st_region_end {ops : Array Oper} : stepG P main (G (mk fn rd kind tmps defers .run (.inRegion ops [] :: k)) cs) w = .go (G (mk fn rd kind tmps defers .run k) cs) w #[] := by simp [G, stepG, stepG.exec, mk]

theorem finish_op (tmps : Array Value) (defers : List Deferred) (ops : Array Oper) (i : Nat) (rest : List Nat) (v : Value) :
    (mk fn rd kind tmps defers .run (.inRegion ops (i :: rest) :: k)).finish v = mk fn rd kind (match (ops[i]?).bind (·.dst) with | some d => tmps.setIfInBounds d v | none => tmps) defers .run (.inRegion ops rest :: k) := by
  simp only [Frame.finish, mk]
  rfl

theorem st_skipop {ops : Array Oper} {i : Nat} {rest : List Nat} (h : ((ops[i]?).map (Region.wanted · (yielded ops tmps))).getD false = false) :
    stepG P main (G (mk fn rd kind tmps defers .run (.inRegion ops (i :: rest) :: k)) cs) w = .go (G ((mk fn rd kind tmps defers .run (.inRegion ops (i :: rest) :: k)).finish undef) cs) w #[] := by
  simp [G, stepG, stepG.exec, mk, h]

/-- An operation that is carried out. -/
theorem st_oper {ops : Array Oper} {i : Nat} {rest : List Nat} {o : Oper} (ho : ops[i]? = some o) (hw : Region.wanted o (yielded ops tmps) = true) (hd : rd = none ∨ ∀ c, o.op ≠ .defer c) :
    stepG P main (G (mk fn rd kind tmps defers .run (.inRegion ops (i :: rest) :: k)) cs) w = stepG.apply P true (mk fn rd kind tmps defers .run (.inRegion ops (i :: rest) :: k)) cs none (execOp ({ tmps, defers } : Act).eval o) w := by
  have he : (mk fn rd kind tmps defers .run (.inRegion ops (i :: rest) :: k)).eval = ({ tmps, defers } : Act).eval := funext (mk_eval _)
  simp only [mk] at he
  have key : stepG P main (G (mk fn rd kind tmps defers .run (.inRegion ops (i :: rest) :: k)) cs) w = stepG.oper P true (mk fn rd kind tmps defers .run (.inRegion ops (i :: rest) :: k)) cs none w := by
    simp [G, stepG, stepG.exec, mk, ho, hw]
  rw [key]
  cases rd with
  | none => simp [stepG.oper, Frame.oper?, mk, ho, he]
  | some l =>
    rcases hd with h | h
    · cases h
    · simp only [stepG.oper, Frame.oper?, mk, ho, he]
      split
      · rename_i c e1 e2; exact absurd e2 (h _)
      · rfl

section apply
variable {fr : Frame} {sem : Sem Next}
theorem ap_value {v : Value} (h : sem.run P w = .ok (.value v) w') : ∃ es, stepG.apply P true fr cs none sem w = .go (G (fr.finish v) cs) w' es := by
  simp only [stepG.apply, if_true, Sem.runT_eq, h]
  exact ⟨_, rfl⟩
theorem ap_skip (h : sem.run P w = .ok .skip w') : ∃ es, stepG.apply P true fr cs none sem w = .go (G (fr.finish undef) cs) w' es := by
  simp only [stepG.apply, if_true, Sem.runT_eq, h]
  exact ⟨_, rfl⟩
theorem ap_defer {d : Deferred} (h : sem.run P w = .ok (.defer d) w') : ∃ es, stepG.apply P true fr cs none sem w = .go (G ({ fr with defers := d :: fr.defers }.finish undef) cs) w' es := by
  simp only [stepG.apply, if_true, Sem.runT_eq, h]
  exact ⟨_, rfl⟩
theorem ap_enter {f : FuncId} {args : Array Value} (h : sem.run P w = .ok (.enter f args) w') (hk : ∀ d r s k, fr.todo ≠ .call d true r s :: k) : ∃ es, stepG.apply P true fr cs none sem w = .go (G (Frame.enter P f args .normal) (fr :: cs)) w' es := by
  simp only [stepG.apply, if_true, Sem.runT_eq, h]
  exact ⟨_, rfl⟩
theorem ap_round {l : Nat} {f : FuncId} {ts : Array Value} {a b : Code} (h : sem.run P w = .ok (.round l f ts a b) w') : ∃ es, stepG.apply P true fr cs none sem w = .go (G (Frame.round l f ts a b .normal) (fr :: cs)) w' es := by
  simp only [stepG.apply, if_true, Sem.runT_eq, h]
  exact ⟨_, rfl⟩
end apply

end
end Go.Ab
