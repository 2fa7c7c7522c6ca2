/-
  Own library, part 14: what the evaluator's answers mean: the judgements; calls; regions in the text's order.
-/
import Derived.Test.YtflokkhbcjnklaaGreatDoorAb13
namespace Go.Ab
open Go.Conc (G Goes)

/-- The company: the others leave the heap alone; what is asked of a step, every step that stands aside gives. -/
structure Good (P : Program) (R : World → World → Prop) (D : World → World → Array Event → Prop) : Prop where
  heap : ∀ w w₁, R w w₁ → w₁.heap = w.heap
  trans : ∀ a b c, R a b → R b c → R a c
  free : ∀ w w' es, Aside w w' → D w w' es
  mixed : P.follows .mixedOrders = true
  names : ∀ (f : Nat) (fn : Func), P.funcs[f]? = some fn → (fn.name == "runtime.NumGoroutine") = false

section
variable {P : Program} {main : Bool} {R : World → World → Prop} {D : World → World → Array Event → Prop} {Stop : Goroutine → World → Prop}

theorem Good.idle (C : Good P R D) {n : Nat} {g g' : Goroutine} {w : World} (hs : g.status = .running) (h : ∀ w₁, stepG P main g w₁ = .go g' w₁ #[]) (hg : Goes P main R D Stop n g' w) : Goes P main R D Stop (n + 1) g w :=
  Goes.step hs fun w₁ h₁ => by rw [h w₁]; exact ⟨C.free _ _ _ (Aside.refl w₁), hg.rely C.trans h₁⟩

theorem Good.step (C : Good P R D) {n : Nat} {g : Goroutine} {w : World} (hs : g.status = .running) (h : ∀ w₁ : World, w₁.heap = w.heap → ∃ g' w' es, stepG P main g w₁ = .go g' w' es ∧ Goes P main R D Stop n g' w' ∧ Aside w₁ w') : Goes P main R D Stop (n + 1) g w :=
  Goes.step hs fun w₁ h₁ => by
    obtain ⟨g', w', es, e, hg, ha⟩ := h w₁ (C.heap _ _ h₁)
    rw [e]
    exact ⟨C.free _ _ _ ha, hg⟩

theorem Goes.more' {n m : Nat} {g : Goroutine} {w : World} (h : Goes P main R D Stop n g w) (hm : n ≤ m) : Goes P main R D Stop m g w := by
  induction hm with
  | refl => exact h
  | step _ ih => exact ih.more

/-! ### Relations on frames -/

def DRel (ρ : Map) : ADef ⊕ Nat → Deferred → Prop
  | .inl d, d' => ∃ fn' c', d'.target = .fn fn' c' ∧ VFn ρ d.fn fn' ∧ VL ρ d.captured c'.toList ∧ VL ρ d.args d'.args.toList
  | .inr id, d' => ∃ l, ρ id = some l ∧ d' = { target := .collected l.b, args := #[] }

def DsRel (ρ : Map) : List (ADef ⊕ Nat) → List Deferred → Prop
  | [], [] => True
  | d :: ds, d' :: ds' => DRel ρ d d' ∧ DsRel ρ ds ds'
  | _, _ => False

def RdRel (ρ : Map) : Option Nat → Option Nat → Prop
  | none, none => True
  | some i, some b => ∃ l, ρ i = some l ∧ l.b = b
  | _, _ => False

theorem DRel.mono {ρ ρ' : Map} (h : ρ.le ρ') {d : ADef ⊕ Nat} {d' : Deferred} (r : DRel ρ d d') : DRel ρ' d d' := by
  cases d with
  | inl d => obtain ⟨fn', c', h1, h2, h3, h4⟩ := r; exact ⟨fn', c', h1, h2.mono h, h3.mono h, h4.mono h⟩
  | inr i => obtain ⟨l, h1, h2⟩ := r; exact ⟨l, h _ _ h1, h2⟩

theorem DsRel.mono {ρ ρ' : Map} (h : ρ.le ρ') : ∀ {ds : List (ADef ⊕ Nat)} {ds' : List Deferred}, DsRel ρ ds ds' → DsRel ρ' ds ds'
  | [], [], _ => trivial
  | [], _ :: _, r => r.elim
  | _ :: _, [], r => r.elim
  | _ :: _, _ :: _, r => ⟨r.1.mono h, DsRel.mono h r.2⟩

theorem RdRel.mono {ρ ρ' : Map} (h : ρ.le ρ') : ∀ {a b : Option Nat}, RdRel ρ a b → RdRel ρ' a b
  | none, none, _ => trivial
  | none, some _, r => r.elim
  | some _, none, r => r.elim
  | some _, some _, ⟨l, h1, h2⟩ => ⟨l, h _ _ h1, h2⟩

structure FrOk (ρ : Map) (cx : Cx) (fr : Fr) (rd : Option Nat) (tmps : Array Value) (defers : List Deferred) : Prop where
  tr : TR ρ fr.ts cx.nt tmps
  ds : DsRel ρ fr.ds defers
  rd : RdRel ρ cx.round rd

theorem FrOk.mono {ρ ρ' : Map} (h : ρ.le ρ') {cx : Cx} {fr : Fr} {rd : Option Nat} {tmps : Array Value} {defers : List Deferred} (r : FrOk ρ cx fr rd tmps defers) : FrOk ρ' cx fr rd tmps defers :=
  ⟨r.tr.mono h, r.ds.mono h, r.rd.mono h⟩

def putC (tmps : Array Value) (dst : Option Tmp) (v : Value) : Array Value :=
  match dst with
  | some d => tmps.setIfInBounds d v
  | none => tmps

theorem FrOk.put {ρ : Map} {cx : Cx} {fr fr' : Fr} {rd : Option Nat} {tmps : Array Value} {defers : List Deferred} (r : FrOk ρ cx fr rd tmps defers) {dst : Option Tmp} {v : AV} {v' : Value} (hv : V ρ v v') (h : fr.put cx dst v = some fr') :
    FrOk ρ cx fr' rd (putC tmps dst v') defers := by
  unfold Fr.put at h
  cases dst with
  | none => cases h; exact r
  | some d =>
    obtain ⟨hd, h⟩ := bif_some h
    cases h
    rw [Nat.blt_eq] at hd
    exact ⟨r.tr.put hd hv, r.ds, r.rd⟩

theorem eval_sound {ρ : Map} {s : St} {H : Array Obj} (hR : Rel P ρ s H) {ts : T AV} {nt : Nat} {tmps : Array Value} (h : TR ρ ts nt tmps) (defers : List Deferred) : ∀ x v, evalA P ts x = some v → V ρ v (({ tmps, defers } : Act).eval x) := by
  intro x v hx
  cases x with
  | tmp t => simp only [evalA, Option.some.injEq] at hx; subst hx; exact h.at_ t
  | const c => exact ofValue_V ρ hx
  | global g =>
    simp only [evalA] at hx
    obtain ⟨hg, hx⟩ := bif_some hx
    cases hx
    rw [Nat.blt_eq] at hg
    obtain ⟨l, hl, h1, h2⟩ := hR.glob g hg
    have := V.ptr (ρ := ρ) (off := 0) hl
    rw [h1, h2] at this
    exact this
  | func f => simp only [evalA, Option.some.injEq] at hx; subst hx; exact .func (.func f) .nil .nil

theorem yielded_sound {ρ : Map} {ts : T AV} {nt : Nat} {tmps : Array Value} (h : TR ρ ts nt tmps) (ops : Array Oper) (j : Nat) : yielded ops tmps j = yieldedA ops ts j := by
  unfold yielded yieldedA
  cases hd : (ops[j]?).bind (·.dst) with
  | none => simp
  | some d =>
    simp only [Option.bind_some]
    have hv := h.at_ d
    rw [Array.getD_eq_getD_getElem?] at hv
    cases ht : ts.get d with
    | none =>
      rw [ht] at hv
      simp only [Option.getD_none] at hv
      cases he : tmps[d]? with
      | none => rfl
      | some y =>
        rw [he] at hv
        simp only [Option.getD_some] at hv
        cases hv
        rfl
    | some x =>
      rw [ht] at hv
      simp only [Option.getD_some] at hv
      cases he : tmps[d]? with
      | none =>
        rw [he] at hv
        simp only [Option.getD_none] at hv
        have hu : (undef : Value) = .tuple #[] := rfl
        rw [hu] at hv
        cases hv
        rfl
      | some y =>
        rw [he] at hv
        simp only [Option.getD_some] at hv
        cases hv <;> rfl

theorem wanted_sound {ρ : Map} {ts : T AV} {nt : Nat} {tmps : Array Value} (h : TR ρ ts nt tmps) (ops : Array Oper) (o : Oper) : Region.wanted o (yielded ops tmps) = wantedA ops ts o := by
  unfold Region.wanted wantedA
  cases hg : o.guard with
  | none => rfl
  | some p =>
    obtain ⟨j, want⟩ := p
    simp only [yielded_sound h ops j]
    cases yieldedA ops ts j with
    | none => cases want <;> rfl
    | some b => cases b <;> cases want <;> rfl

/-! ### The judgements -/

variable (P main R D)

/-- What is asked behind a piece of code that is left this way. -/
def AfterG (Stop : Goroutine → World → Prop) (n : Nat) (e : AEx) (fn : FuncId) (rd : Option Nat) (kind : CallKind) (tmps : Array Value) (defers : List Deferred) (k : List Item) (cs : List Frame) (w : World) : Prop :=
  match e with
  | .normal => Goes P main R D Stop n (G (mk fn rd kind tmps defers .run k) cs) w
  | .exit i => ∀ k', exitTo i k' = exitTo i k → Goes P main R D Stop n (G (mk fn rd kind tmps defers .run (.code (.exit i) :: k')) cs) w
  | .ret => ∀ k', Goes P main R D Stop n (G (mk fn rd kind tmps defers .run (.code .ret :: k')) cs) w

/-- How a piece of code may stand on the list. -/
def Starts (c : Code) (it : Item) : Prop := it = .code c ∨ ∃ c', c = .loop c' ∧ it = .inLoop c'

def CodeSem (cx : Cx) (c : Code) (fr : Fr) (s : St) (e : AEx) (fr' : Fr) (s' : St) (N : Nat) : Prop :=
  ∀ (ρ : Map) (w : World) (rd : Option Nat) (kind : CallKind) (tmps : Array Value) (defers : List Deferred) (k : List Item) (cs : List Frame) (Stop : Goroutine → World → Prop) (m : Nat) (it : Item), Starts c it →
    Rel P ρ s w.heap → Fresh ρ s.next s'.next → FrOk ρ cx fr rd tmps defers → kind ≠ .early →
    (∀ ρ' w' tmps' defers', Step P ρ s w.heap ρ' s' w'.heap → FrOk ρ' cx fr' rd tmps' defers' → AfterG P main R D Stop m e cx.fn rd kind tmps' defers' k cs w') →
    Goes P main R D Stop (m + N) (G (mk cx.fn rd kind tmps defers .run (it :: k)) cs) w

def back (kind : CallKind) (caller : Frame) (v : Value) : Frame :=
  match kind with
  | .normal => caller.finish v
  | _ => caller

/-- How a call may be under way: an ordinary one, or a deferred one. -/
def KindOk (kind : CallKind) (caller : Frame) : Prop := kind = .normal ∨ (kind = .deferred ∧ caller.mode = .returning)

def CallSem (f : FuncId) (args : List AV) (s : St) (v : AV) (s' : St) (N : Nat) : Prop :=
  ∀ (ρ : Map) (w : World) (args' : Array Value) (kind : CallKind) (caller : Frame) (cs : List Frame) (Stop : Goroutine → World → Prop) (m : Nat),
    Rel P ρ s w.heap → Fresh ρ s.next s'.next → VL ρ args args'.toList → KindOk kind caller →
    (∀ ρ' w' v', Step P ρ s w.heap ρ' s' w'.heap → V ρ' v v' → Goes P main R D Stop m (G (back kind caller v') cs) w') →
    Goes P main R D Stop (m + N) (G (Frame.enter P f args' kind) (caller :: cs)) w

/-- What the evaluator's answers mean. -/
def RecOk (rec : Task → Option Res) : Prop :=
  (∀ cx c fr s e fr' s', rec (.code cx c fr s) = some (.code e fr' s') → s.next ≤ s'.next ∧ ∃ N, CodeSem P main R D cx c fr s e fr' s' N) ∧
  (∀ f args s v s', rec (.call f args s) = some (.val v s') → (∃ fn c, P.funcs[f]? = some fn ∧ fn.body = some c) ∧ s.next ≤ s'.next ∧ ∃ N, CallSem P main R D f args s v s' N)

def frameOf (nx : Next) (kind : CallKind) : Frame :=
  match nx with
  | .enter f args => Frame.enter P f args kind
  | .round l f ts a b => Frame.round l f ts a b kind
  | _ => default

def isEnter : Next → Prop
  | .enter _ _ => True
  | .round .. => True
  | _ => False

/-- A function value's call: what it enters, and what comes of it. -/
def InvSem (fn : Fn) (captured args : List AV) (s : St) (v : AV) (s' : St) (N : Nat) : Prop :=
  ∀ (ρ : Map) (w : World) (fn' : Fn) (captured' args' : Array Value), Rel P ρ s w.heap → Fresh ρ s.next s'.next → VFn ρ fn fn' → VL ρ captured captured'.toList → VL ρ args args'.toList →
    ∃ nx, (invoke (.fn fn' captured') args').run P w = .ok nx w ∧ isEnter nx ∧
      ∀ (kind : CallKind) (caller : Frame) (cs : List Frame) (Stop : Goroutine → World → Prop) (m : Nat), KindOk kind caller →
        (∀ ρ' w' v', Step P ρ s w.heap ρ' s' w'.heap → V ρ' v v' → Goes P main R D Stop m (G (back kind caller v') cs) w') →
        Goes P main R D Stop (m + N) (G (frameOf P nx kind) (caller :: cs)) w

end
end Go.Ab
