/- Own text of this claim: part Ab14. -/
import Derived.Test.YtjffanafmodhdaaGreatDoorAb13
set_option linter.unusedVariables false
set_option linter.unusedSimpArgs false
set_option linter.unusedSectionVars false
set_option linter.unnecessarySimpa false
/-
  Own library, part 14: what the evaluator's answers mean: a goroutine with a footprint, in company; the judgements; calls; regions in the text's order.
-/
namespace Go.Ab
open Go.Conc (G)

/-- A world, and the blocks in it that are this goroutine's. -/
structure FW where
  w : World
  F : Nat → Prop

abbrev FW.heap (x : FW) : Array Obj := x.w.heap

/-- What a step may touch: its own blocks, and new ones. -/
def FW.A (x : FW) : Nat → Prop := fun b => x.F b ∨ x.w.heap.size ≤ b

/-- Behind a step: new blocks are its own. -/
def FW.next (x : FW) (w' : World) : FW := ⟨w', fun b => x.F b ∨ (x.w.heap.size ≤ b ∧ b < w'.heap.size)⟩

theorem FW.next_self (x : FW) : x.next x.w = x := by
  obtain ⟨w, F⟩ := x
  unfold FW.next
  congr 1
  funext b
  apply propext
  constructor
  · rintro (h | ⟨h1, h2⟩)
    · exact h
    · simp only at h1 h2; omega
  · exact .inl

/-- What the others may have done meanwhile: anything outside the footprint; new blocks. -/
structure Rely (x y : FW) : Prop where
  foot : y.F = x.F
  size : x.heap.size ≤ y.heap.size
  keep : ∀ b, x.F b → b < x.heap.size → y.heap[b]? = x.heap[b]?

theorem Rely.refl (x : FW) : Rely x x := ⟨rfl, Nat.le_refl _, fun _ _ _ => rfl⟩
theorem Rely.trans {x y z : FW} (h : Rely x y) (h' : Rely y z) : Rely x z :=
  ⟨h'.foot.trans h.foot, Nat.le_trans h.size h'.size, fun b hb hl => by
    have hb' : y.F b := by rw [h.foot]; exact hb
    rw [h'.keep b hb' (Nat.lt_of_lt_of_le hl h.size), h.keep b hb hl]⟩

theorem FW.next_heap {y : FW} {w' : World} (h : w'.heap = y.w.heap) : y.next w' = ⟨w', y.F⟩ := by
  unfold FW.next
  congr 1
  funext b
  apply propext
  rw [h]
  constructor
  · rintro (h | ⟨h1, h2⟩)
    · exact h
    · omega
  · exact .inl
theorem Rely.heap {y : FW} {w' : World} (h : w'.heap = y.w.heap) : Rely y ⟨w', y.F⟩ := ⟨rfl, by show y.w.heap.size ≤ w'.heap.size; rw [h]; exact Nat.le_refl _, fun b _ _ => by show w'.heap[b]? = y.w.heap[b]?; rw [h]⟩

theorem FW.next_A {y : FW} {w' : World} (h : y.w.heap.size ≤ w'.heap.size) : (y.next w').A = y.A := by
  funext b
  apply propext
  constructor
  · rintro ((h1 | ⟨h1, _⟩) | h1)
    · exact .inl h1
    · exact .inr h1
    · exact .inr (Nat.le_trans h h1)
  · rintro (h1 | h1)
    · exact .inl (.inl h1)
    · rcases Nat.lt_or_ge b w'.heap.size with h2 | h2
      · exact .inl (.inr ⟨h1, h2⟩)
      · exact .inr h2

/-- What is asked of a step of its own. -/
structure Guar (y : FW) (w' : World) (es : Array Event) : Prop where
  aside : Aside y.w w'
  size : y.heap.size ≤ w'.heap.size
  keep : ∀ b, ¬ y.F b → b < y.heap.size → w'.heap[b]? = y.heap[b]?
  ev : EvAll y.A w' es

theorem Guar.idle (y : FW) : Guar y y.w #[] := ⟨Aside.refl _, Nat.le_refl _, fun _ _ _ => rfl, EvAll.nil⟩

/-- A goroutine on its way to a stop: ahead of each step the others may have turned what is not its own. -/
def GoF (P : Program) (main : Bool) (Stop : Goroutine → FW → Prop) : Nat → Goroutine → FW → Prop
  | 0, g, x => ∀ y, Rely x y → Stop g y
  | n + 1, g, x => (∀ y, Rely x y → Stop g y) ∨ (g.status = .running ∧ ∀ y, Rely x y → (stepG P main g y.w).goes fun g' w' es => Guar y w' es ∧ GoF P main Stop n g' (y.next w'))

/-- What is asked of the program. -/
structure Good (P : Program) : Prop where
  mixed : P.follows .mixedOrders = true
  names : ∀ (f : Nat) (fn : Func), P.funcs[f]? = some fn → (fn.name == "runtime.NumGoroutine") = false

section
variable {P : Program} {main : Bool} {Stop : Goroutine → FW → Prop}

theorem GoF.rely {n : Nat} {g : Goroutine} {x y : FW} (h : GoF P main Stop n g x) (hr : Rely x y) : GoF P main Stop n g y := by
  cases n with
  | zero => exact fun z hz => h z (hr.trans hz)
  | succ n =>
    rcases h with h | ⟨hs, h⟩
    · exact .inl fun z hz => h z (hr.trans hz)
    · exact .inr ⟨hs, fun z hz => h z (hr.trans hz)⟩

theorem GoF.stop {n : Nat} {g : Goroutine} {x : FW} (h : ∀ y, Rely x y → Stop g y) : GoF P main Stop n g x := by
  cases n with
  | zero => exact h
  | succ n => exact .inl h

theorem GoF.more {n : Nat} {g : Goroutine} {x : FW} (h : GoF P main Stop n g x) : GoF P main Stop (n + 1) g x := by
  induction n generalizing g x with
  | zero => exact .inl h
  | succ n ih =>
    rcases h with h | ⟨hs, h⟩
    · exact .inl h
    · refine .inr ⟨hs, fun y hy => ?_⟩
      have := h y hy
      revert this
      cases stepG P main g y.w <;> simp only [GStep.goes, imp_self]
      exact fun ⟨d, z⟩ => ⟨d, ih z⟩

theorem GoF.more' {n m : Nat} {g : Goroutine} {x : FW} (h : GoF P main Stop n g x) (hm : n ≤ m) : GoF P main Stop m g x := by
  induction hm with
  | refl => exact h
  | step _ ih => exact ih.more

theorem Good.idle (_ : Good P) {n : Nat} {g g' : Goroutine} {x : FW} (hs : g.status = .running) (h : ∀ w₁, stepG P main g w₁ = .go g' w₁ #[]) (hg : GoF P main Stop n g' x) : GoF P main Stop (n + 1) g x :=
  .inr ⟨hs, fun y hy => by
    rw [h y.w]
    refine ⟨Guar.idle y, ?_⟩
    rw [FW.next_self]
    exact hg.rely hy⟩

theorem Good.step (_ : Good P) {n : Nat} {g : Goroutine} {x : FW} (hs : g.status = .running) (h : ∀ y, Rely x y → ∃ g' w' es, stepG P main g y.w = .go g' w' es ∧ GoF P main Stop n g' (y.next w') ∧ Guar y w' es) : GoF P main Stop (n + 1) g x :=
  .inr ⟨hs, fun y hy => by
    obtain ⟨g', w', es, e, hg, ha⟩ := h y hy
    rw [e]
    exact ⟨ha, hg⟩⟩

end

section
variable {P : Program} {main : Bool} {Stop : Goroutine → FW → Prop}
/-- A step that leaves the world. -/
theorem Good.step0 (C : Good P) {n : Nat} {g : Goroutine} {x : FW} (hs : g.status = .running) (h : ∀ y, Rely x y → ∃ g' es, stepG P main g y.w = .go g' y.w es ∧ GoF P main Stop n g' y ∧ EvAll y.A y.w es) : GoF P main Stop (n + 1) g x :=
  C.step hs fun y hy => by
    obtain ⟨g', es, e, hg, he⟩ := h y hy
    exact ⟨g', y.w, es, e, by rw [FW.next_self]; exact hg, Aside.refl _, Nat.le_refl _, fun _ _ _ => rfl, he⟩
end

/-! ### What many steps do, in company -/

structure StepF (P : Program) (ρ : Map) (s : St) (x : FW) (ρ' : Map) (s' : St) (x' : FW) : Prop where
  rel : Rel x'.A P ρ' s' x'.heap
  le : ρ.le ρ'
  next : s.next ≤ s'.next
  old : ∀ id, id < s.next ∨ s'.next ≤ id → ρ' id = ρ id
  live : ∀ id l, (s'.get id).isSome → ρ' id = some l → x.heap.size ≤ l.b ∨ ∃ j m, (s.get j).isSome ∧ ρ j = some m ∧ m.b = l.b
  size : x.heap.size ≤ x'.heap.size
  foot : ∀ b, x.F b → x'.F b
  frame : ∀ B, x.F B → B < x.heap.size → (∀ id l, (s.get id).isSome → ρ id = some l → l.b ≠ B) → x'.heap[B]? = x.heap[B]?

section
variable {P : Program} {ρ ρ₁ ρ₂ : Map} {s s₁ s₂ : St} {x y z : FW}

theorem Rel.rely (hR : Rel x.A P ρ s x.heap) (h : Rely x y) : Rel y.A P ρ s y.heap := by
  have hF : ∀ id l, (s.get id).isSome → ρ id = some l → x.F l.b ∧ l.b < x.heap.size := fun id l hs hl => by
    have h1 := (hR.low id l hl).1
    rcases hR.own id l hs hl with h2 | h2
    · exact ⟨h2, h1⟩
    · have h2 : x.heap.size ≤ l.b := h2; omega
  refine ⟨fun id o hg => ?_, hR.inj, hR.glob, fun id l hl => ?_, fun id l hs hl => .inl ?_, fun b hb => .inr hb⟩
  · obtain ⟨l, hl, hat⟩ := hR.obj id o hg
    obtain ⟨h1, h2⟩ := hF id l (by rw [hg]; rfl) hl
    exact ⟨l, hl, hat.block (h.keep _ h1 h2)⟩
  · have := hR.low id l hl
    have := h.size
    omega
  · rw [h.foot]
    exact (hF id l hs hl).1

theorem Rel.next {w' : World} (hR : Rel y.A P ρ s w'.heap) : Rel (y.next w').A P ρ s (y.next w').heap := by
  refine ⟨hR.obj, hR.inj, hR.glob, hR.low, fun id l hs hl => ?_, fun b hb => .inr hb⟩
  have h1 := (hR.low id l hl).1
  rcases hR.own id l hs hl with h2 | h2
  · exact .inl (.inl h2)
  · exact .inl (.inr ⟨h2, h1⟩)

theorem StepF.refl (hR : Rel x.A P ρ s x.heap) : StepF P ρ s x ρ s x :=
  ⟨hR, Map.le_refl ρ, Nat.le_refl _, fun _ _ => rfl, fun id l h h' => .inr ⟨id, l, h, h', rfl⟩, Nat.le_refl _, fun _ h => h, fun _ _ _ _ => rfl⟩

/-- One step of its own. -/
theorem StepF.of {w' : World} (S : Step y.A P ρ s y.heap ρ₁ s₁ w'.heap) : StepF P ρ s y ρ₁ s₁ (y.next w') :=
  ⟨S.rel.next, S.le, S.next, S.old, S.live, S.size, fun _ h => .inl h, fun B _ hl hn => S.frame B hl hn⟩

/-- What the others have done ahead of it. -/
theorem StepF.pre (h : Rely x y) (S : StepF P ρ s y ρ₁ s₁ z) : StepF P ρ s x ρ₁ s₁ z where
  rel := S.rel
  le := S.le
  next := S.next
  old := S.old
  live := fun id l a b => (S.live id l a b).imp (fun c => Nat.le_trans h.size c) (fun c => c)
  size := Nat.le_trans h.size S.size
  foot := fun b hb => S.foot b (by rw [h.foot]; exact hb)
  frame := fun B hB hl hn => by
    rw [S.frame B (by rw [h.foot]; exact hB) (Nat.lt_of_lt_of_le hl h.size) hn, h.keep B hB hl]

theorem StepF.trans (a : StepF P ρ s x ρ₁ s₁ y) (b : StepF P ρ₁ s₁ y ρ₂ s₂ z) : StepF P ρ s x ρ₂ s₂ z where
  rel := b.rel
  le := Map.le_trans a.le b.le
  next := Nat.le_trans a.next b.next
  old := fun id h => by
    have h1 := a.next
    have h2 := b.next
    rw [b.old id (by omega), a.old id (by omega)]
  live := fun id l h hn => by
    rcases b.live id l h hn with hb | ⟨j, m, hj, hj', hm⟩
    · exact .inl (Nat.le_trans a.size hb)
    · rw [← hm]
      exact a.live j m hj hj'
  size := Nat.le_trans a.size b.size
  foot := fun B h => b.foot B (a.foot B h)
  frame := fun B hF hB hn => by
    rw [b.frame B (a.foot B hF) (Nat.lt_of_lt_of_le hB a.size), a.frame B hF hB hn]
    intro id l hl hl' e
    rcases a.live id l hl hl' with hb | ⟨j, m, hj, hj', hm⟩
    · omega
    · exact hn j m hj hj' (hm.trans e)

theorem StepF.fresh (a : StepF P ρ s x ρ₁ s₁ y) {c : Nat} (h : Fresh ρ s.next c) : Fresh ρ₁ s₁.next c := fun id h1 h2 => by
  rw [a.old id (.inr h1)]
  exact h id (Nat.le_trans a.next h1) h2

/-- What a step of its own gives. -/
theorem Guar.of {w' : World} {es : Array Event} (hR : Rel y.A P ρ s y.heap) (S : Step y.A P ρ s y.heap ρ₁ s₁ w'.heap) (ha : Aside y.w w') (he : EvAll y.A w' es) : Guar y w' es :=
  ⟨ha, S.size, fun b hb hl => S.frame b hl fun id l hs hl' e => by
    rcases hR.own id l hs hl' with h | h
    · rw [e] at h; exact hb h
    · rw [e] at h
      have h : y.heap.size ≤ b := h
      omega, he⟩

end

section
variable {P : Program} {main : Bool}

/-! ### Relations on frames -/

def DRel (ρ : Map) : ADef ⊕ Nat → Deferred → Prop
  | .inl d, d' => ∃ fn' c', d'.target = .fn fn' c' ∧ VFn ρ d.fn fn' ∧ VL ρ d.captured c'.toList ∧ VL ρ d.args d'.args.toList
  | .inr id, d' => ∃ l, ρ id = some l ∧ d' = { target := .collected l.b, args := #[] }

def DsRel (ρ : Map) : List (ADef ⊕ Nat) → List Deferred → Prop
  | [], [] => True
  | d :: ds, d' :: ds' => DRel ρ d d' ∧ DsRel ρ ds ds'
  | _, _ => False

def RdRel (ρ : Map) : Option Nat → Option Nat → Prop
  | none, none => True
  | some i, some b => ∃ l, ρ i = some l ∧ l.b = b
  | _, _ => False

theorem DRel.mono {ρ ρ' : Map} (h : ρ.le ρ') {d : ADef ⊕ Nat} {d' : Deferred} (r : DRel ρ d d') : DRel ρ' d d' := by
  cases d with
  | inl d => obtain ⟨fn', c', h1, h2, h3, h4⟩ := r; exact ⟨fn', c', h1, h2.mono h, h3.mono h, h4.mono h⟩
  | inr i => obtain ⟨l, h1, h2⟩ := r; exact ⟨l, h _ _ h1, h2⟩

theorem DsRel.mono {ρ ρ' : Map} (h : ρ.le ρ') : ∀ {ds : List (ADef ⊕ Nat)} {ds' : List Deferred}, DsRel ρ ds ds' → DsRel ρ' ds ds'
  | [], [], _ => trivial
  | [], _ :: _, r => r.elim
  | _ :: _, [], r => r.elim
  | _ :: _, _ :: _, r => ⟨r.1.mono h, DsRel.mono h r.2⟩

theorem RdRel.mono {ρ ρ' : Map} (h : ρ.le ρ') : ∀ {a b : Option Nat}, RdRel ρ a b → RdRel ρ' a b
  | none, none, _ => trivial
  | none, some _, r => r.elim
  | some _, none, r => r.elim
  | some _, some _, ⟨l, h1, h2⟩ => ⟨l, h _ _ h1, h2⟩

structure FrOk (ρ : Map) (cx : Cx) (fr : Fr) (rd : Option Nat) (tmps : Array Value) (defers : List Deferred) : Prop where
  tr : TR ρ fr.ts cx.nt tmps
  ds : DsRel ρ fr.ds defers
  rd : RdRel ρ cx.round rd

theorem FrOk.mono {ρ ρ' : Map} (h : ρ.le ρ') {cx : Cx} {fr : Fr} {rd : Option Nat} {tmps : Array Value} {defers : List Deferred} (r : FrOk ρ cx fr rd tmps defers) : FrOk ρ' cx fr rd tmps defers :=
  ⟨r.tr.mono h, r.ds.mono h, r.rd.mono h⟩

def putC (tmps : Array Value) (dst : Option Tmp) (v : Value) : Array Value :=
  match dst with
  | some d => tmps.setIfInBounds d v
  | none => tmps

theorem FrOk.put {ρ : Map} {cx : Cx} {fr fr' : Fr} {rd : Option Nat} {tmps : Array Value} {defers : List Deferred} (r : FrOk ρ cx fr rd tmps defers) {dst : Option Tmp} {v : AV} {v' : Value} (hv : V ρ v v') (h : fr.put cx dst v = some fr') :
    FrOk ρ cx fr' rd (putC tmps dst v') defers := by
  unfold Fr.put at h
  cases dst with
  | none => cases h; exact r
  | some d =>
    obtain ⟨hd, h⟩ := bif_some h
    cases h
    rw [Nat.blt_eq] at hd
    exact ⟨r.tr.put hd hv, r.ds, r.rd⟩

theorem eval_sound {A : Nat → Prop} {ρ : Map} {s : St} {H : Array Obj} (hR : Rel A P ρ s H) {ts : T AV} {nt : Nat} {tmps : Array Value} (h : TR ρ ts nt tmps) (defers : List Deferred) : ∀ x v, evalA P ts x = some v → V ρ v (({ tmps, defers } : Act).eval x) := by
  intro x v hx
  cases x with
  | tmp t => simp only [evalA, Option.some.injEq] at hx; subst hx; exact h.at_ t
  | const c => exact ofValue_V ρ hx
  | global g =>
    simp only [evalA] at hx
    obtain ⟨hg, hx⟩ := bif_some hx
    cases hx
    rw [Nat.blt_eq] at hg
    obtain ⟨l, hl, h1, h2⟩ := hR.glob g hg
    have := V.ptr (ρ := ρ) (off := 0) hl
    rw [h1, h2] at this
    exact this
  | func f => simp only [evalA, Option.some.injEq] at hx; subst hx; exact .func (.func f) .nil .nil

theorem yielded_sound {ρ : Map} {ts : T AV} {nt : Nat} {tmps : Array Value} (h : TR ρ ts nt tmps) (ops : Array Oper) (j : Nat) : yielded ops tmps j = yieldedA ops ts j := by
  unfold yielded yieldedA
  cases hd : (ops[j]?).bind (·.dst) with
  | none => simp
  | some d =>
    simp only [Option.bind_some]
    have hv := h.at_ d
    rw [Array.getD_eq_getD_getElem?] at hv
    cases ht : ts.get d with
    | none =>
      rw [ht] at hv
      simp only [Option.getD_none] at hv
      cases he : tmps[d]? with
      | none => rfl
      | some y =>
        rw [he] at hv
        simp only [Option.getD_some] at hv
        cases hv
        rfl
    | some x =>
      rw [ht] at hv
      simp only [Option.getD_some] at hv
      cases he : tmps[d]? with
      | none =>
        rw [he] at hv
        simp only [Option.getD_none] at hv
        have hu : (undef : Value) = .tuple #[] := rfl
        rw [hu] at hv
        cases hv
        rfl
      | some y =>
        rw [he] at hv
        simp only [Option.getD_some] at hv
        cases hv <;> rfl

theorem wanted_sound {ρ : Map} {ts : T AV} {nt : Nat} {tmps : Array Value} (h : TR ρ ts nt tmps) (ops : Array Oper) (o : Oper) : Region.wanted o (yielded ops tmps) = wantedA ops ts o := by
  unfold Region.wanted wantedA
  cases hg : o.guard with
  | none => rfl
  | some p =>
    obtain ⟨j, want⟩ := p
    simp only [yielded_sound h ops j]
    cases yieldedA ops ts j with
    | none => cases want <;> rfl
    | some b => cases b <;> cases want <;> rfl

/-! ### The judgements -/

variable (P main)

/-- What is asked behind a piece of code that is left this way. -/
def AfterG (Stop : Goroutine → FW → Prop) (n : Nat) (e : AEx) (fn : FuncId) (rd : Option Nat) (kind : CallKind) (tmps : Array Value) (defers : List Deferred) (k : List Item) (cs : List Frame) (w : FW) : Prop :=
  match e with
  | .normal => GoF P main Stop n (G (mk fn rd kind tmps defers .run k) cs) w
  | .exit i => ∀ k', exitTo i k' = exitTo i k → GoF P main Stop n (G (mk fn rd kind tmps defers .run (.code (.exit i) :: k')) cs) w
  | .ret => ∀ k', GoF P main Stop n (G (mk fn rd kind tmps defers .run (.code .ret :: k')) cs) w

/-- How a piece of code may stand on the list. -/
def Starts (c : Code) (it : Item) : Prop := it = .code c ∨ ∃ c', c = .loop c' ∧ it = .inLoop c'

def CodeSem (cx : Cx) (c : Code) (fr : Fr) (s : St) (e : AEx) (fr' : Fr) (s' : St) (N : Nat) : Prop :=
  ∀ (ρ : Map) (w : FW) (rd : Option Nat) (kind : CallKind) (tmps : Array Value) (defers : List Deferred) (k : List Item) (cs : List Frame) (Stop : Goroutine → FW → Prop) (m : Nat) (it : Item), Starts c it →
    Rel w.A P ρ s w.heap → Fresh ρ s.next s'.next → FrOk ρ cx fr rd tmps defers → kind ≠ .early →
    (∀ ρ' w' tmps' defers', StepF P ρ s w ρ' s' w' → FrOk ρ' cx fr' rd tmps' defers' → AfterG P main Stop m e cx.fn rd kind tmps' defers' k cs w') →
    GoF P main Stop (m + N) (G (mk cx.fn rd kind tmps defers .run (it :: k)) cs) w

def back (kind : CallKind) (caller : Frame) (v : Value) : Frame :=
  match kind with
  | .normal => caller.finish v
  | _ => caller

/-- How a call may be under way: an ordinary one, or a deferred one. -/
def KindOk (kind : CallKind) (caller : Frame) : Prop := kind = .normal ∨ (kind = .deferred ∧ caller.mode = .returning)

def CallSem (f : FuncId) (args : List AV) (s : St) (v : AV) (s' : St) (N : Nat) : Prop :=
  ∀ (ρ : Map) (w : FW) (args' : Array Value) (kind : CallKind) (caller : Frame) (cs : List Frame) (Stop : Goroutine → FW → Prop) (m : Nat),
    Rel w.A P ρ s w.heap → Fresh ρ s.next s'.next → VL ρ args args'.toList → KindOk kind caller →
    (∀ ρ' w' v', StepF P ρ s w ρ' s' w' → V ρ' v v' → GoF P main Stop m (G (back kind caller v') cs) w') →
    GoF P main Stop (m + N) (G (Frame.enter P f args' kind) (caller :: cs)) w

/-- What the evaluator's answers mean. -/
def RecOk (rec : Task → Option Res) : Prop :=
  (∀ cx c fr s e fr' s', rec (.code cx c fr s) = some (.code e fr' s') → s.next ≤ s'.next ∧ ∃ N, CodeSem P main cx c fr s e fr' s' N) ∧
  (∀ f args s v s', rec (.call f args s) = some (.val v s') → (∃ fn c, P.funcs[f]? = some fn ∧ fn.body = some c) ∧ s.next ≤ s'.next ∧ ∃ N, CallSem P main f args s v s' N)

def frameOf (nx : Next) (kind : CallKind) : Frame :=
  match nx with
  | .enter f args => Frame.enter P f args kind
  | .round l f ts a b => Frame.round l f ts a b kind
  | _ => default

def isEnter : Next → Prop
  | .enter _ _ => True
  | .round .. => True
  | _ => False

/-- A function value's call: what it enters, and what comes of it. -/
def InvSem (fn : Fn) (captured args : List AV) (s : St) (v : AV) (s' : St) (N : Nat) : Prop :=
  ∀ (ρ : Map) (w : FW) (fn' : Fn) (captured' args' : Array Value), Rel w.A P ρ s w.heap → Fresh ρ s.next s'.next → VFn ρ fn fn' → VL ρ captured captured'.toList → VL ρ args args'.toList →
    ∃ nx, (invoke (.fn fn' captured') args').runL w.A P w.w = .ok nx w.w ∧ isEnter nx ∧
      ∀ (kind : CallKind) (caller : Frame) (cs : List Frame) (Stop : Goroutine → FW → Prop) (m : Nat), KindOk kind caller →
        (∀ ρ' w' v', StepF P ρ s w ρ' s' w' → V ρ' v v' → GoF P main Stop m (G (back kind caller v') cs) w') →
        GoF P main Stop (m + N) (G (frameOf P nx kind) (caller :: cs)) w

end
end Go.Ab

