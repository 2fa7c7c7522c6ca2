/- Own text of this claim: part Ab36. -/
import Derived.Test.YtjffanafmodhdaaGreatDoorAb32
import Derived.Test.YtjffanafmodhdaaGreatDoorAb35
import Derived.Conc.Company
import Derived.Conc.FxGenDone
import Derived.Conc.FxGenWait
set_option linter.unusedVariables false
set_option linter.unusedSimpArgs false
set_option linter.unusedSectionVars false
set_option linter.unnecessarySimpa false
/-
  Own library, part 36: walks that touch no memory at all: the same in every world that is large enough.
-/
namespace Go.Ab
open Go.Conc (G Goes)

noncomputable section

/-- No memory. -/
def noSt : St := { heap := .leaf, next := 0 }

def popt (a : AFr) (o : Oper) (ops : Array Oper) (rest : List Nat) (k : List Item) (v : AV) : Option AFr := a.put o.dst v (.inRegion ops rest :: k)

def advP1 (P : Program) (a : AFr) : Option AFr :=
  bif a.ret then none else
  match a.todo with
  | [] => some { a with ret := true }
  | .code c :: k =>
    match c with
    | .skip => some (a.at k)
    | .ret => some { a with ret := true, todo := [] }
    | .exit i => (exitTo i k).bind fun k' => some (a.at k')
    | c => codeU P a c k
  | .inBlock _ :: k => some (a.at k)
  | .inScope _ :: k => some (a.at k)
  | .inLoop c :: k => some (a.at (.code c :: .inLoop c :: k))
  | .inRegion _ [] :: k => some (a.at k)
  | .inRegion ops (i :: rest) :: k =>
    match ops[i]? with
    | none => none
    | some o => bif wantedA ops a.ts o then (bif isQuiet o then (aquiet P o (evalA P a.ts) noSt).bind fun v => popt a o ops rest k v else none) else popt a o ops rest k undefA
  | _ => none

def advP (P : Program) : Nat → AFr → AFr
  | 0, a => a
  | n + 1, a => match advP1 P a with
    | some a' => advP P n a'
    | none => a

end

/-- The blocks that are not there yet. -/
def Beyond (w : World) : Nat → Prop := fun b => w.heap.size ≤ b

/-- What the map says of a heap. -/
structure Based (P : Program) (ρ : Map) (n0 : Nat) : Prop where
  glob : ∀ g, g < P.globals.size → ∃ l, ρ g = some l ∧ l.b = g ∧ l.o = 0
  low : ∀ id l, ρ id = some l → l.b < n0 ∧ l.o = 0

theorem Based.rel {P : Program} {ρ : Map} {n0 : Nat} (h : Based P ρ n0) {w : World} (hw : n0 ≤ w.heap.size) : Rel (Beyond w) P ρ noSt w.heap :=
  ⟨fun id o hg => (by cases hg), fun i j l m hi => (by cases hi), h.glob, fun id l hl => ⟨Nat.lt_of_lt_of_le (h.low id l hl).1 hw, (h.low id l hl).2⟩, fun id l hs => (by cases hs), fun b hb => hb⟩

theorem Rel.based {P : Program} {ρ : Map} {A : Nat → Prop} {s : St} {H : Array Obj} (h : Rel A P ρ s H) : Based P ρ H.size := ⟨h.glob, h.low⟩

theorem EvAll.beyond {w : World} {es : Array Event} (h : EvAll (Beyond w) w es) {A : Nat → Prop} : ∀ e ∈ es, EvA A e := fun e he => (h e he).mono fun b hb => by
  have h1 : w.heap.size ≤ b := hb.1
  have h2 := hb.2
  omega

section
variable {P : Program} {main : Bool}

/-- One move that touches no memory. -/
theorem advPOne_step {a a' : AFr} {ρ : Map} {cs : List AFr} {bs : List Frame} {g : Goroutine} {w : World} (h : advP1 P a = some a') (hg : GRel ρ { top := a, cs } bs g) (hR : Rel (Beyond w) P ρ noSt w.heap) :
    g.status = .running ∧ ∃ g' es, stepG P main g w = .go g' w es ∧ (∀ e ∈ es, EvA (fun _ => False) e) ∧ GRel ρ { top := a', cs } bs g' := by
  unfold advP1 at h
  cases hr : a.ret with
  | true => rw [hr] at h; cases h
  | false =>
    rw [hr] at h
    simp only [cond_false] at h
    obtain ⟨tmps, defers, fs, rfl, h4, h5, h6⟩ := grel_run hg hr
    simp only at h4 h5 h6
    refine ⟨rfl, ?_⟩
    show ∃ g' es, stepG P main (G (mk a.fn none (kindOf a.nrm) tmps defers .run a.todo) (fs ++ bs)) w = .go g' w es ∧ (∀ e ∈ es, EvA (fun _ => False) e) ∧ GRel ρ { top := a', cs } bs g'
    have nil : ∀ e ∈ (#[] : Array Event), EvA (fun _ => False) e := by intro e he; simp at he
    have at_ : ∀ (k : List Item), a' = a.at k → stepG P main (G (mk a.fn none (kindOf a.nrm) tmps defers .run a.todo) (fs ++ bs)) w = .go (G (mk a.fn none (kindOf a.nrm) tmps defers .run k) (fs ++ bs)) w #[] →
        ∃ g' es, stepG P main (G (mk a.fn none (kindOf a.nrm) tmps defers .run a.todo) (fs ++ bs)) w = .go g' w es ∧ (∀ e ∈ es, EvA (fun _ => False) e) ∧ GRel ρ { top := a', cs } bs g' := by
      rintro k rfl h1
      exact ⟨_, _, h1, nil, grel_of (a := a.at k) hr h4 h5 h6⟩
    split at h
    · rename_i ht
      cases h
      exact ⟨_, _, by rw [ht]; exact st_end, nil, grel_of_ret (a := { a with ret := true }) rfl h4 h5 h6⟩
    · rename_i c k ht
      rw [ht] at at_ ⊢
      split at h
      · cases h; exact at_ _ rfl st_skip
      · cases h
        exact ⟨_, _, st_ret, nil, grel_of_ret (a := { a with ret := true, todo := [] }) rfl h4 h5 h6⟩
      · obtain ⟨k', hk, h⟩ := bind_some h
        cases h
        exact at_ _ rfl (st_exit hk)
      · unfold codeU at h
        split at h
        · cases h; exact at_ _ rfl st_seq
        · split at h
          · rename_i t ho
            cases h
            refine at_ _ rfl ?_
            have hv := eval_sound hR h4 defers _ _ ho
            generalize hcx : ({ tmps, defers } : Act).eval _ = cx' at hv
            cases hv
            rw [st_cond hcx]
            cases t <;> rfl
          · cases h
        · cases h; exact at_ _ rfl st_block
        · cases h; exact at_ _ rfl st_loop
        · cases h; exact at_ _ rfl st_scope
        · cases h; exact at_ _ rfl st_region
        · cases h
    · rename_i k ht; cases h; rw [ht] at at_ ⊢; exact at_ _ rfl st_inBlock
    · rename_i k ht; cases h; rw [ht] at at_ ⊢; exact at_ _ rfl st_inScope
    · rename_i c k ht; cases h; rw [ht] at at_ ⊢; exact at_ _ rfl st_inLoop
    · rename_i k ht; cases h; rw [ht] at at_ ⊢; exact at_ _ rfl st_region_end
    · rename_i ops i rest k ht
      rw [ht]
      split at h
      · cases h
      · rename_i o ho
        cases hw : wantedA ops a.ts o with
        | true =>
          rw [hw] at h
          simp only [cond_true] at h
          obtain ⟨hq, h⟩ := bif_some h
          obtain ⟨v, hv, h⟩ := bind_some h
          obtain ⟨v', h1, h2⟩ := quiet_sound hR (eval_sound hR h4 defers) hv
          have hst := st_oper (P := P) (main := main) (fn := a.fn) (kind := kindOf a.nrm) (defers := defers) (cs := fs ++ bs) (w := w) (k := k) (rest := rest) ho (by rw [wanted_sound h4]; exact hw) (rd := none) (.inl rfl)
          obtain ⟨es, e1, he⟩ := ap_value (fr := mk a.fn none (kindOf a.nrm) tmps defers .run (.inRegion ops (i :: rest) :: k)) (cs := fs ++ bs) h1
          obtain ⟨e, h7⟩ := AFr.put_rel h h4 h2
          refine ⟨_, es, hst.trans e1, he.beyond, ?_⟩
          rw [finish_opC, ho, e]
          exact grel_of (a := { a with ts := a'.ts, todo := .inRegion ops rest :: k }) hr h7 h5 h6
        | false =>
          rw [hw] at h
          simp only [cond_false] at h
          obtain ⟨e, h7⟩ := AFr.put_rel (v' := undef) h h4 (.tuple .nil)
          refine ⟨_, _, st_skipop (by rw [ho]; show Region.wanted o (yielded ops tmps) = false; rw [wanted_sound h4]; exact hw), nil, ?_⟩
          rw [finish_opC, ho, e]
          exact grel_of (a := { a with ts := a'.ts, todo := .inRegion ops rest :: k }) hr h7 h5 h6
    · cases h

/-- Whatever the others do, as long as no block goes. -/
def Any (n0 : Nat) : World → World → Prop := fun _ w => n0 ≤ w.heap.size
/-- A step that touches no memory. -/
def Not (w w' : World) (es : Array Event) : Prop := w' = w ∧ ∀ e ∈ es, EvA (fun _ => False) e

theorem advP_goes {ρ : Map} {n0 : Nat} (hB : Based P ρ n0) {cs : List AFr} {bs : List Frame} {Stop : Goroutine → World → Prop} {m : Nat} : ∀ (n : Nat) (a : AFr) (g : Goroutine) (w : World), GRel ρ { top := a, cs } bs g →
    (∀ g' w', GRel ρ { top := advP P n a, cs } bs g' → Goes P main (Any n0) Not Stop m g' w') → Goes P main (Any n0) Not Stop (m + n) g w
  | 0, a, g, w, hg, hK => hK g w hg
  | n + 1, a, g, w, hg, hK => by
    unfold advP at hK
    cases h1 : advP1 P a with
    | none => rw [h1] at hK; exact (hK g w hg).mono (by omega)
    | some a' =>
      rw [h1] at hK
      refine Goes.step (n := m + n) ?_ fun w₁ hw₁ => ?_
      · obtain ⟨f, fs, e, _⟩ := hg.is
        rw [e]
        rfl
      · obtain ⟨_, g', es, h2, h3, h4⟩ := advPOne_step (main := main) h1 hg (hB.rel hw₁)
        rw [h2]
        exact ⟨⟨rfl, h3⟩, advP_goes hB n a' g' w₁ h4 hK⟩

theorem Goes.weaken {R R' : World → World → Prop} {D D' : World → World → Array Event → Prop} {Stop Stop' : Goroutine → World → Prop} (hR : ∀ a b, R' a b → R a b) (hD : ∀ a b es, D a b es → D' a b es) (hS : ∀ g w, Stop g w → Stop' g w) :
    ∀ {n : Nat} {g : Goroutine} {w : World}, Goes P main R D Stop n g w → Goes P main R' D' Stop' n g w := by
  intro n
  induction n with
  | zero => exact fun h w₁ h₁ => hS _ _ (h w₁ (hR _ _ h₁))
  | succ n ih =>
    intro g w h
    rcases h with h | ⟨hs, h⟩
    · exact .inl fun w₁ h₁ => hS _ _ (h w₁ (hR _ _ h₁))
    · refine .inr ⟨hs, fun w₁ h₁ => ?_⟩
      obtain ⟨g', w', es, e, h1, h2⟩ := Go.Conc.goes_elim (h w₁ (hR _ _ h₁))
      rw [e]
      exact ⟨hD _ _ _ h1, ih h2⟩

end
end Go.Ab

/-
  Own library, part 37: the last phase: goroutine 0 closes the channel; goroutine 1 is on its way to receive, or waits.
-/
namespace Go.Ab
open Go.Conc

def _root_.Go.World.shutC (w : World) (c n : Nat) : World := { w with heap := w.heap.setIfInBounds c (.chan 0 #[] true n n false) }

/-- What closing lists. -/
def shutEs (c : Nat) : Array Event := #[⟨.obj c, false, true⟩, ⟨.obj c, true, true⟩]

section
variable (P : Program)

/-- Goroutine 0 stands at its close. -/
def AtClose (c : Nat) (K : Goroutine → FW → Prop) (g : Goroutine) (x : FW) : Prop :=
  g.status = .running ∧ mayWake P g = true ∧ ∃ a, a.status = .running ∧ (∀ n, x.heap[c]? = some (.chan 0 #[] false n n false) → stepG P true g x.w = .go a (x.w.shutC c n) (shutEs c)) ∧ ∀ y, Rely x y → K a y

/-- Goroutine 1 stands where it receives, whatever it offered before. -/
def KidAt (c n0 : Nat) (z : Value) (Kc : Goroutine → Prop) (b : Goroutine) : Prop :=
  (∀ off w, n0 ≤ w.heap.size → stepG P false { b with status := .running, offers := off } w = .comm b #[rcase c z] true (.recv true) w #[]) ∧ Kc b

def AtRecv (c n0 : Nat) (z : Value) (Kc : Goroutine → Prop) (g : Goroutine) (w : World) : Prop :=
  g.status = .running ∧ ∃ b, stepG P false g w = .comm b #[rcase c z] true (.recv true) w #[] ∧ KidAt P c n0 z Kc b

inductive Kid (c n0 : Nat) (z : Value) (Kc : Goroutine → Prop) : Nat → Goroutine → Prop
  | run {m : Nat} {g : Goroutine} {w : World} (h : Goes P false (Any n0) Not (AtRecv P c n0 z Kc) m g w) : Kid c n0 z Kc (m + 1) g
  | wait {b : Goroutine} (h : KidAt P c n0 z Kc b) : Kid c n0 z Kc 0 (parked b #[rcase c z] (.recv true))
end

section
variable {P : Program} {c n0 : Nat} {z : Value} {Kc : Goroutine → Prop}

theorem goes_any {main : Bool} {Stop : Goroutine → World → Prop} {m : Nat} {g : Goroutine} {w : World} (w' : World) (h : Goes P main (Any n0) Not Stop m g w) : Goes P main (Any n0) Not Stop m g w' := by
  cases m <;> exact h

theorem Kid.status {r : Nat} {g : Goroutine} {w : World} (h : Kid P c n0 z Kc r g) (hw : n0 ≤ w.heap.size) : (∃ m, r = m + 1 ∧ g.status = .running) ∨ (r = 0 ∧ g.status = .blocked) := by
  cases h with
  | run h => exact .inl ⟨_, rfl, (goes_any w h).running (fun _ _ h => h.1) w hw⟩
  | wait h => exact .inr ⟨rfl, rfl⟩

theorem shut_keep {w : World} {c n b : Nat} (h : b ≠ c) : (w.shutC c n).heap[b]? = w.heap[b]? := by
  simp only [World.shutC]
  rw [Array.getElem?_setIfInBounds_ne (Ne.symm h)]

theorem shut_size {w : World} {c n : Nat} : (w.shutC c n).heap.size = w.heap.size := by simp [World.shutC]

theorem none_app {t u : Trace} {p g : Nat} {F0 F1 : Nat → Prop} (h : Tr t p F0 F1) (hg : g = 0 ∨ g = 1) (hu : ∀ op ∈ u, op.g = g ∧ Still (fun _ => False) op.act) : Tr (t ++ u) p F0 F1 :=
  h.app (A := fun _ => False) (hg.imp (fun e => ⟨e, fun _ => False.elim⟩) (fun e => ⟨e, fun _ => False.elim⟩)) hu

theorem none_ops {es : Array Event} (h : ∀ e ∈ es, EvA (fun _ => False) e) (g : Nat) (fn : FuncId) (pos : String) : ∀ op ∈ MemOp.ofEvents g fn pos es, op.g = g ∧ Still (fun _ => False) op.act := by
  intro op hop
  rw [ofEvents_eq] at hop
  obtain ⟨e, he, rfl⟩ := Array.mem_map.1 hop
  exact ⟨rfl, still_of (h e he)⟩

theorem shut_ops (c : Nat) (fn : FuncId) (pos : String) : ∀ op ∈ MemOp.ofEvents 0 fn pos (shutEs c), op.g = 0 ∧ Still (fun b => b = c) op.act := by
  intro op hop
  rw [ofEvents_eq] at hop
  obtain ⟨e, he, rfl⟩ := Array.mem_map.1 hop
  refine ⟨rfl, ?_⟩
  simp only [shutEs, List.mem_toArray, List.mem_cons, List.not_mem_nil, or_false] at he
  rcases he with rfl | rfl
  · exact ⟨fun a ha => by simp [MemAct.ofEvent, MemAct.touch?] at ha; subst ha; rfl, by simp [MemAct.ofEvent], by simp [MemAct.ofEvent]⟩
  · exact ⟨fun a ha => by simp [MemAct.ofEvent, MemAct.touch?] at ha, by simp [MemAct.ofEvent], by simp [MemAct.ofEvent]⟩

theorem kid_woken {r : Nat} {g g' b : Goroutine} {w w' : World} (hw : n0 ≤ w.heap.size) (h : Kid P c n0 z Kc r b) {n : Nat} (hc : w'.heap[c]? = some (.chan 0 #[] false n n false)) : woken P g g' w' b = b := by
  cases h with
  | run h => exact woken_running ((goes_any w h).running (fun _ _ h => h.1) w hw)
  | wait h =>
    unfold woken
    split
    · exact (meets_send (P := P) (v := undef) (z' := undef)).again1 hc
    · rfl

/-- Behind the close it runs. -/
theorem kid_freed {r : Nat} {g g' b : Goroutine} {w w' : World} (hw : n0 ≤ w.heap.size) (h : Kid P c n0 z Kc r b) {n : Nat} (hc : w'.heap[c]? = some (.chan 0 #[] true n n false)) (hg : mayWake P g = true) (hg' : g'.status = .running) :
    ∃ m, Goes P false (Any n0) Not (AtRecv P c n0 z Kc) m (woken P g g' w' b) w' := by
  cases h with
  | @run m _ w0 h =>
    rw [woken_running ((goes_any w h).running (fun _ _ h => h.1) w hw)]
    exact ⟨m, goes_any w' h⟩
  | @wait b h =>
    refine ⟨0, ?_⟩
    have e : woken P g g' w' (parked b #[rcase c z] (.recv true)) = { b with status := .running, offers := some (#[rcase c z], .recv true) } := by
      unfold woken
      rw [hg, hg']
      simp [Goroutine.again, parked, rcase, hc]
    rw [e]
    exact fun w₁ h₁ => ⟨rfl, b, h.1 _ w₁ h₁, h⟩

variable (P c n0 z Kc) in
/-- It is closed. -/
def Shut (K : Goroutine → FW → Prop) (n p : Nat) (F0 : Nat → Prop) (w : World) (m' : Machine) (t' : Trace) : Prop :=
  ∃ a b w1 sl G0 m, m' = duo a b (w1.shutC c n) sl ∧ Grown w F0 (fun _ => False) w1 G0 (fun _ => False) ∧ K a ⟨w1.shutC c n, G0⟩ ∧ Goes P false (Any n0) Not (AtRecv P c n0 z Kc) m b w1 ∧
    w1.heap[c]? = some (.chan 0 #[] false n n false) ∧ (∀ b, G0 b → b < w1.heap.size) ∧ ¬ G0 c ∧ Tr t' p (fun b => G0 b ∨ b = c) (fun _ => False)

theorem Shut.of_grown {K : Goroutine → FW → Prop} {n p : Nat} {F0 H0 : Nat → Prop} {w w2 : World} {m' : Machine} {t' : Trace} (hg : Grown w F0 (fun _ => False) w2 H0 (fun _ => False)) (h : Shut P c n0 z Kc K n p H0 w2 m' t') : Shut P c n0 z Kc K n p F0 w m' t' := by
  obtain ⟨a, b, w1, sl, G0, m, e, g, h⟩ := h
  exact ⟨a, b, w1, sl, G0, m, e, hg.trans g, h⟩

theorem phaseClose {K : Goroutine → FW → Prop} {n : Nat} : ∀ (N m r : Nat) (a b : Goroutine) (w : World) (sl : Option (Nat × Nat)) (t : Trace) (p : Nat) (F0 : Nat → Prop), m + r < N →
    GoF P true (AtClose P c K) m a ⟨w, F0⟩ → Kid P c n0 z Kc r b → Ph t p w F0 (fun _ => False) → ¬ F0 c → w.heap[c]? = some (.chan 0 #[] false n n false) → n0 ≤ w.heap.size →
    ∃ k m' t', runNT P k (duo a b w sl) t = (.next m', t') ∧ Shut P c n0 z Kc K n p F0 w m' t' := by
  intro N
  induction N with
  | zero => intro m r a b w sl t p F0 hN; omega
  | succ N ih =>
    intro m r a b w sl t p F0 hN hA hK hP c0 hc hn0
    have hra : a.status = .running := hA.running fun _ _ h => h.1
    have hcl : c < w.heap.size := obj_lt hc
    have hat : ∀ d, (w.at d).heap[c]? = some (.chan 0 #[] false n n false) := fun _ => hc
    have hPat : ∀ d, Ph t p (w.at d) F0 (fun _ => False) := fun d => ⟨hP.tr, hP.lt0, hP.lt1⟩
    have hGat : ∀ d, Grown w F0 (fun _ => False) (w.at d) F0 (fun _ => False) := fun d => ⟨Aside.of_heap rfl rfl rfl, Nat.le_refl _, fun _ _ _ _ => rfl, fun _ => .inl, fun _ => .inl, fun _ => id, fun _ => id⟩
    have awB : awake b := by
      intro t
      rcases hK.status hn0 with ⟨_, _, e⟩ | ⟨_, e⟩ <;> rw [e] <;> simp
    obtain ⟨d, sl', hmv⟩ := duo_pick (P := P) (sl := sl) (w := w) (by intro t; rw [hra]; simp) awB (.inl hra)
    have hA' := hA.rely (rely_at w F0 d)
    rcases hmv with ⟨_, hst⟩ | ⟨hrb, hst⟩
    · -- goroutine 0 moves
      have close : AtClose P c K a ⟨w.at d, F0⟩ → ∃ k m' t', runNT P k (duo a b w sl) t = (.next m', t') ∧ Shut P c n0 z Kc K n p F0 w m' t' := by
        rintro ⟨_, hmw, a', hra', hs, hKa⟩
        have hrun := runT_duo0 (b := b) (sl := sl') (hs n (hat d))
        have hsh : ((w.at d).shutC c n).heap[c]? = some (.chan 0 #[] true n n false) := by
          simp only [World.shutC]
          rw [Array.getElem?_setIfInBounds_self_of_lt (show c < (w.at d).heap.size from hcl)]
        obtain ⟨m', hm'⟩ := kid_freed (w := w) hn0 hK hsh hmw hra'
        refine ⟨1, _, _, by rw [runNT_succ_next (hst.trans hrun)]; rfl, a', _, w.at d, sl', F0, m', rfl, hGat d, hKa _ ⟨rfl, by show w.heap.size ≤ _; rw [shut_size]; exact Nat.le_refl _, fun b hb _ => shut_keep (fun e => c0 (e ▸ hb))⟩, goes_any _ hm', hat d, hP.lt0, c0, ?_⟩
        refine (hP.tr.widen (fun b hb => .inl hb) (fun b hb => hb) (fun b _ => id)).app (A := fun b => b = c) (.inl ⟨rfl, fun b hb => .inr hb⟩) (shut_ops c _ _)
      have step : ∀ m2, m = m2 + 1 → (stepG P true a (w.at d)).goes (fun g' w' es => Guar ⟨w.at d, F0⟩ w' es ∧ GoF P true (AtClose P c K) m2 g' ((⟨w.at d, F0⟩ : FW).next w')) → ∃ k m' t', runNT P k (duo a b w sl) t = (.next m', t') ∧ Shut P c n0 z Kc K n p F0 w m' t' := by
        intro m2 hm2 hgoes
        obtain ⟨a', w', es, hs, hG, hgo'⟩ := goes_elim hgoes
        have hc' : w'.heap[c]? = some (.chan 0 #[] false n n false) := (hG.keep c c0 hcl).trans hc
        have hrun := runT_duo0 (b := b) (sl := sl') hs
        rw [kid_woken (w := w) hn0 hK hc'] at hrun
        obtain ⟨hP', hGr, _⟩ := (hPat d).step0 hG a.frame.fn a.frame.place
        have hsz : w.heap.size ≤ w'.heap.size := hG.size
        obtain ⟨k, m', t', hk, hm⟩ := ih m2 r a' b w' sl' _ p _ (by omega) hgo' hK hP' (fun e => e.elim c0 fun e => by
          have e1 : (w.at d).heap.size ≤ c := e.1
          have e2 : (w.at d).heap.size = w.heap.size := rfl
          omega) hc' (Nat.le_trans hn0 hsz)
        refine ⟨k + 1, m', t', ?_, (hm.of_grown hGr).of_grown (hGat d)⟩
        rw [runNT_succ_next (hst.trans hrun)]
        exact hk
      cases m with
      | zero => exact close (hA' _ (Rely.refl _))
      | succ m =>
        rcases hA' with h | ⟨_, h⟩
        · exact close (h _ (Rely.refl _))
        · exact step m rfl (h _ (Rely.refl _))
    · -- goroutine 1 moves
      cases hK with
      | wait _ => cases hrb
      | @run m1 _ w0 hgo =>
        have hgo := goes_any (w.at d) hgo
        have offer : AtRecv P c n0 z Kc b (w.at d) → ∃ k m' t', runNT P k (duo a b w sl) t = (.next m', t') ∧ Shut P c n0 z Kc K n p F0 w m' t' := by
          rintro ⟨_, b2, hs, hK2⟩
          have hrun := (meets_send (P := P) (v := undef) (z' := undef)).wait1 (a := a) (sl := sl') hs (hat d) (by rw [hra]; simp)
          obtain ⟨k, m', t', hk, hm⟩ := ih m 0 a (parked b2 #[rcase c z] (.recv true)) (w.at d) sl' t p F0 (by omega) hA' (.wait hK2) (hPat d) c0 (hat d) hn0
          refine ⟨k + 1, m', t', ?_, hm.of_grown (hGat d)⟩
          rw [runNT_succ_next (hst.trans hrun), ofEvents_nil, Array.append_empty]
          exact hk
        have step : ∀ m2, m1 = m2 + 1 → (stepG P false b (w.at d)).goes (fun g' w' es => Not (w.at d) w' es ∧ Goes P false (Any n0) Not (AtRecv P c n0 z Kc) m2 g' w') → ∃ k m' t', runNT P k (duo a b w sl) t = (.next m', t') ∧ Shut P c n0 z Kc K n p F0 w m' t' := by
          intro m2 hm2 hgoes
          obtain ⟨b', w', es, hs, ⟨rfl, hes⟩, hgo'⟩ := goes_elim hgoes
          have hrun := runT_duo1 (a := a) (sl := sl') hs
          rw [woken_running hra] at hrun
          obtain ⟨k, m', t', hk, hm⟩ := ih m (m2 + 1) a b' (w.at d) sl' (t ++ MemOp.ofEvents 1 b.frame.fn b.frame.place es) p F0 (by omega) hA' (.run hgo') ⟨none_app hP.tr (.inr rfl) (none_ops hes 1 _ _), hP.lt0, hP.lt1⟩ c0 (hat d) hn0
          refine ⟨k + 1, m', t', ?_, hm.of_grown (hGat d)⟩
          rw [runNT_succ_next (hst.trans hrun)]
          exact hk
        cases m1 with
        | zero => exact offer (hgo _ hn0)
        | succ m1 =>
          rcases hgo with h | ⟨_, h⟩
          · exact offer (h _ hn0)
          · exact step m1 rfl (h _ hn0)
end
end Go.Ab

