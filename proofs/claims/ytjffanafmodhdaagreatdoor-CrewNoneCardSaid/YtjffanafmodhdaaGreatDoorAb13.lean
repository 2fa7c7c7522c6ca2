/- Own text of this claim: part Ab13. -/
import Derived.Test.YtjffanafmodhdaaGreatDoorAb12
import Derived.Conc.Own
import Derived.Conc.Listed
set_option linter.unusedVariables false
set_option linter.unusedSimpArgs false
set_option linter.unusedSectionVars false
set_option linter.unnecessarySimpa false
/-
  Own library, part 13: a goroutine's own steps, for frames of functions and of rounds.
-/
namespace Go.Ab
open Go.Conc (G Goes)

/-- All that is listed is plain, in the blocks of A. -/
def EvAll (A : Nat → Prop) (w : World) (es : Array Event) : Prop := ∀ e ∈ es, EvA (Upto A w) e

theorem EvAll.nil {A : Nat → Prop} {w : World} : EvAll A w #[] := fun e h => by simp at h
theorem EvAll.append {A : Nat → Prop} {w : World} {a b : Array Event} (h : EvAll A w a) (h' : EvAll A w b) : EvAll A w (a ++ b) := fun e he => (Array.mem_append.1 he).elim (h e) (h' e)
theorem EvAll.mono {A B : Nat → Prop} {w : World} (h : ∀ b, A b → B b) {es : Array Event} (x : EvAll A w es) : EvAll B w es := fun e he => (x e he).mono fun b hb => ⟨h b hb.1, hb.2⟩
theorem EvAll.later {A : Nat → Prop} {w w' : World} (h : w.heap.size ≤ w'.heap.size) {es : Array Event} (x : EvAll A w es) : EvAll A w' es := fun e he => (x e he).mono fun b hb => ⟨hb.1, Nat.lt_of_lt_of_le hb.2 h⟩
theorem ev_if {A : Nat → Prop} {P : Program} {α : Type} {x : Sem α} {w w' : World} {a : α} {fn : FuncId} {c : Prop} [Decidable c] (h : x.runL A P w = .ok a w') : EvAll A w' (seen P fn (if c then #[] else x.events P w #[])) := by
  intro e he
  have he := Conc.mem_seen he
  split at he
  · simp at he
  · exact runL_events h e he
theorem ev_seen {A : Nat → Prop} {P : Program} {α : Type} {x : Sem α} {w w' : World} {a : α} {fn : FuncId} (h : x.runL A P w = .ok a w') : EvAll A w' (seen P fn (x.events P w #[])) := fun e he => runL_events h e (Conc.mem_seen he)

/-- A frame. -/
def mk (fn : FuncId) (round : Option Nat) (kind : CallKind) (tmps : Array Value) (defers : List Deferred) (mode : FrameMode) (todo : List Item) : Frame :=
  { fn, tmps, todo, defers, mode, kind, roundOf := round }

section
variable {P : Program} {main : Bool} {fn : FuncId} {rd : Option Nat} {kind : CallKind} {tmps : Array Value} {defers : List Deferred} {cs : List Frame} {w w' : World} {k : List Item}

theorem mk_eval (todo : List Item) (x : Operand) : (mk fn rd kind tmps defers .run todo).eval x = ({ tmps, defers } : Act).eval x := by cases x <;> rfl

theorem st_skip : stepG P main (G (mk fn rd kind tmps defers .run (.code .skip :: k)) cs) w = .go (G (mk fn rd kind tmps defers .run k) cs) w #[] := by simp [G, stepG, stepG.exec, mk]
theorem st_label {l : Nat} : stepG P main (G (mk fn rd kind tmps defers .run (.code (.label l) :: k)) cs) w = .go (G (mk fn rd kind tmps defers .run k) cs) w #[] := by simp [G, stepG, stepG.exec, mk]
theorem st_inBlock {i : Nat} : stepG P main (G (mk fn rd kind tmps defers .run (.inBlock i :: k)) cs) w = .go (G (mk fn rd kind tmps defers .run k) cs) w #[] := by simp [G, stepG, stepG.exec, mk]
theorem st_inScope {c : Code} : stepG P main (G (mk fn rd kind tmps defers .run (.inScope c :: k)) cs) w = .go (G (mk fn rd kind tmps defers .run k) cs) w #[] := by simp [G, stepG, stepG.exec, mk]
theorem st_seq {x y : Code} : stepG P main (G (mk fn rd kind tmps defers .run (.code (.seq x y) :: k)) cs) w = .go (G (mk fn rd kind tmps defers .run (.code x :: .code y :: k)) cs) w #[] := by simp [G, stepG, stepG.exec, mk]
theorem st_cond {c : Operand} {x y : Code} {t : Bool} (h : ({ tmps, defers } : Act).eval c = .bool t) :
    stepG P main (G (mk fn rd kind tmps defers .run (.code (.cond c x y) :: k)) cs) w = .go (G (mk fn rd kind tmps defers .run (.code (if t then x else y) :: k)) cs) w #[] := by
  have h' := mk_eval (fn := fn) (rd := rd) (kind := kind) (tmps := tmps) (defers := defers) (.code (.cond c x y) :: k) c
  rw [h] at h'
  simp only [mk] at h'
  simp [G, stepG, stepG.exec, mk, h']
theorem st_block {i : Nat} {c : Code} : stepG P main (G (mk fn rd kind tmps defers .run (.code (.block i c) :: k)) cs) w = .go (G (mk fn rd kind tmps defers .run (.code c :: .inBlock i :: k)) cs) w #[] := by simp [G, stepG, stepG.exec, mk]
theorem st_scope {c : Code} : stepG P main (G (mk fn rd kind tmps defers .run (.code (.scope c) :: k)) cs) w = .go (G (mk fn rd kind tmps defers .run (.code c :: .inScope c :: k)) cs) w #[] := by simp [G, stepG, stepG.exec, mk]
theorem st_loop {c : Code} : stepG P main (G (mk fn rd kind tmps defers .run (.code (.loop c) :: k)) cs) w = .go (G (mk fn rd kind tmps defers .run (.code c :: .inLoop c :: k)) cs) w #[] := by simp [G, stepG, stepG.exec, mk]
theorem st_inLoop {c : Code} : stepG P main (G (mk fn rd kind tmps defers .run (.inLoop c :: k)) cs) w = .go (G (mk fn rd kind tmps defers .run (.code c :: .inLoop c :: k)) cs) w #[] := by simp [G, stepG, stepG.exec, mk]
theorem st_exit {i : Nat} {k' : List Item} (h : exitTo i k = some k') : stepG P main (G (mk fn rd kind tmps defers .run (.code (.exit i) :: k)) cs) w = .go (G (mk fn rd kind tmps defers .run k') cs) w #[] := by simp [G, stepG, stepG.exec, mk, h]
theorem st_ret : stepG P main (G (mk fn none kind tmps defers .run (.code .ret :: k)) cs) w = .go (G (mk fn none kind tmps defers .returning (.code .ret :: k)) cs) w #[] := by simp [G, stepG, stepG.exec, mk]
theorem st_end : stepG P main (G (mk fn none kind tmps defers .run []) cs) w = .go (G (mk fn none kind tmps defers .returning []) cs) w #[] := by simp [G, stepG, stepG.exec, mk]
theorem st_region {i : Nat} {ops : Array Oper} : stepG P main (G (mk fn rd kind tmps defers .run (.code (.region i ops false) :: k)) cs) w = .go (G (mk fn rd kind tmps defers .run (.inRegion ops (List.range ops.size) :: k)) cs) w #[] := by simp [G, stepG, stepG.exec, mk]
theorem st_draw {i : Nat} {ops : Array Oper} : stepG P main (G (mk fn rd kind tmps defers .run (.code (.region i ops true) :: k)) cs) w =
    .go (G (mk fn rd kind tmps defers .run (.inRegion ops (Region.schedule (P.follows .mixedOrders) ops (w.tape w.drawn (.order fn i))) :: k)) cs) { w with drawn := w.drawn + 1 } #[] := by
  simp [G, stepG, stepG.exec, mk, choose, Sem.run, Question.forced, Question.cut]
theorem st_region_end {ops : Array Oper} : stepG P main (G (mk fn rd kind tmps defers .run (.inRegion ops [] :: k)) cs) w = .go (G (mk fn rd kind tmps defers .run k) cs) w #[] := by simp [G, stepG, stepG.exec, mk]

theorem finish_op (tmps : Array Value) (defers : List Deferred) (ops : Array Oper) (i : Nat) (rest : List Nat) (v : Value) :
    (mk fn rd kind tmps defers .run (.inRegion ops (i :: rest) :: k)).finish v = mk fn rd kind (match (ops[i]?).bind (·.dst) with | some d => tmps.setIfInBounds d v | none => tmps) defers .run (.inRegion ops rest :: k) := by
  simp only [Frame.finish, mk]
  rfl

theorem st_skipop {ops : Array Oper} {i : Nat} {rest : List Nat} (h : ((ops[i]?).map (Region.wanted · (yielded ops tmps))).getD false = false) :
    stepG P main (G (mk fn rd kind tmps defers .run (.inRegion ops (i :: rest) :: k)) cs) w = .go (G ((mk fn rd kind tmps defers .run (.inRegion ops (i :: rest) :: k)).finish undef) cs) w #[] := by
  simp [G, stepG, stepG.exec, mk, h]

/-- An operation that is carried out. -/
theorem st_oper {ops : Array Oper} {i : Nat} {rest : List Nat} {o : Oper} (ho : ops[i]? = some o) (hw : Region.wanted o (yielded ops tmps) = true) (hd : rd = none ∨ ∀ c, o.op ≠ .defer c) :
    stepG P main (G (mk fn rd kind tmps defers .run (.inRegion ops (i :: rest) :: k)) cs) w = stepG.apply P true (mk fn rd kind tmps defers .run (.inRegion ops (i :: rest) :: k)) cs none (execOp ({ tmps, defers } : Act).eval o) w := by
  have he : (mk fn rd kind tmps defers .run (.inRegion ops (i :: rest) :: k)).eval = ({ tmps, defers } : Act).eval := funext (mk_eval _)
  simp only [mk] at he
  have key : stepG P main (G (mk fn rd kind tmps defers .run (.inRegion ops (i :: rest) :: k)) cs) w = stepG.oper P true (mk fn rd kind tmps defers .run (.inRegion ops (i :: rest) :: k)) cs none w := by
    simp [G, stepG, stepG.exec, mk, ho, hw]
  rw [key]
  cases rd with
  | none => simp [stepG.oper, Frame.oper?, mk, ho, he]
  | some l =>
    rcases hd with h | h
    · cases h
    · simp only [stepG.oper, Frame.oper?, mk, ho, he]
      split
      · rename_i c e1 e2; exact absurd e2 (h _)
      · rfl

section apply
variable {A : Nat → Prop} {fr : Frame} {sem : Sem Next}
theorem ap_value {v : Value} (h : sem.runL A P w = .ok (.value v) w') : ∃ es, stepG.apply P true fr cs none sem w = .go (G (fr.finish v) cs) w' es ∧ EvAll A w' es := by
  simp only [stepG.apply, if_true, Sem.runT_eq, runL_run h]
  exact ⟨_, rfl, (ev_if h).append EvAll.nil⟩
theorem ap_skip (h : sem.runL A P w = .ok .skip w') : ∃ es, stepG.apply P true fr cs none sem w = .go (G (fr.finish undef) cs) w' es ∧ EvAll A w' es := by
  simp only [stepG.apply, if_true, Sem.runT_eq, runL_run h]
  exact ⟨_, rfl, (ev_if h).append EvAll.nil⟩
theorem ap_defer {d : Deferred} (h : sem.runL A P w = .ok (.defer d) w') : ∃ es, stepG.apply P true fr cs none sem w = .go (G ({ fr with defers := d :: fr.defers }.finish undef) cs) w' es ∧ EvAll A w' es := by
  simp only [stepG.apply, if_true, Sem.runT_eq, runL_run h]
  exact ⟨_, rfl, (ev_if h).append EvAll.nil⟩
theorem ap_enter {f : FuncId} {args : Array Value} (h : sem.runL A P w = .ok (.enter f args) w') (hk : ∀ d r s k, fr.todo ≠ .call d true r s :: k) : ∃ es, stepG.apply P true fr cs none sem w = .go (G (Frame.enter P f args .normal) (fr :: cs)) w' es ∧ EvAll A w' es := by
  simp only [stepG.apply, if_true, Sem.runT_eq, runL_run h]
  exact ⟨_, rfl, (ev_if h).append EvAll.nil⟩
theorem ap_round {l : Nat} {f : FuncId} {ts : Array Value} {a b : Code} (h : sem.runL A P w = .ok (.round l f ts a b) w') : ∃ es, stepG.apply P true fr cs none sem w = .go (G (Frame.round l f ts a b .normal) (fr :: cs)) w' es ∧ EvAll A w' es := by
  simp only [stepG.apply, if_true, Sem.runT_eq, runL_run h]
  exact ⟨_, rfl, (ev_if h).append EvAll.nil⟩
end apply

end
end Go.Ab

