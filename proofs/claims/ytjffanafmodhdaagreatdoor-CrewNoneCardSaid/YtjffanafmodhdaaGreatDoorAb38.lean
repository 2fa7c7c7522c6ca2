/- Own text of this claim: part Ab38. -/
import Derived.Test.YtjffanafmodhdaaGreatDoorAb36
import Derived.Conc.FxEnd
set_option linter.unusedVariables false
set_option linter.unusedSimpArgs false
set_option linter.unusedSectionVars false
set_option linter.unnecessarySimpa false
/-
  Own library, part 38: behind the close: goroutine 1 sees it and goes to its Done; goroutine 0 goes to its Wait: up to 'Acquired' of the kit's family.
-/
set_option linter.unusedSectionVars false
namespace Go.Ab
open Go.Conc Go.ConcX

def RunsTo (P : Program) (m m' : Machine) (u : Trace) : Prop := ∃ k, ∀ t, runNT P k m t = (.next m', t ++ u)

theorem RunsTo.refl (P : Program) (m : Machine) : RunsTo P m m #[] := ⟨0, fun t => by simp [runNT]⟩
theorem RunsTo.step {P : Program} {m m1 m' : Machine} {ops u : Trace} (h : Go.stepT P m = (.next m1, ops)) (h' : RunsTo P m1 m' u) : RunsTo P m m' (ops ++ u) := by
  obtain ⟨k, hk⟩ := h'
  exact ⟨k + 1, fun t => by rw [runNT_succ_next h, hk, Array.append_assoc]⟩
theorem RunsTo.trans {P : Program} {m m1 m' : Machine} {u v : Trace} (h : RunsTo P m m1 u) (h' : RunsTo P m1 m' v) : RunsTo P m m' (u ++ v) := by
  obtain ⟨k, hk⟩ := h
  obtain ⟨l, hl⟩ := h'
  exact ⟨k + l, fun t => by rw [runNT_add, hk]; simp only; rw [hl, Array.append_assoc]⟩

theorem runT_of_X {P : Program} {m m' : Machine} {i : Nat} {ops : Array MemOp} (h : runTX P m i = (.next m', ops)) : runT P m i = (.next m', ops) := by
  unfold runTX at h
  split at h
  · split at h
    · exact h
    · exact h
    · cases h
  · cases h

variable [Payload]

def NoMine : Loc → Prop := fun _ => False

section
variable (P : Program) (ty : TypeId) (Wg C Low : Nat) [Shy Wg C] (vals : List Value) (AnchW : Goroutine → World → Prop) (Post : Value → World → Prop) (p : Nat)

/-- Where goroutine 0 may be, while goroutine 1 has not begun its Done. -/
inductive Par : Nat × Nat → Goroutine → World → Trace → Prop
  | a {d0 rp mp : Nat} {g : Goroutine} {w : World} {s : Trace} (hB : Base NoMine ty Wg C vals.length KK 0 vals.toArray false vals.length 0 d0 0 false w s p) (hp : PA P ty Wg C Low vals NoMine AnchW Post rp d0 mp g w) : Par (rp + 2, mp) g w s
  | b {rp mp : Nat} {g : Goroutine} {w : World} {s : Trace} (hB : Base NoMine ty Wg C vals.length (KK + 1) 0 vals.toArray false vals.length 0 1 0 false w s p) (hp : PB P ty Wg C Low vals NoMine Post rp mp g w) : Par (rp, mp) g w s
end

section
variable {P : Program} {ty : TypeId} {Wg C Low : Nat} [Shy Wg C] {vals : List Value} {AnchW : Goroutine → World → Prop} {Post : Value → World → Prop} {p : Nat}

theorem Par.status (hAr : ∀ g w, AnchW g w → g.status = .running) {μ : Nat × Nat} {g : Goroutine} {w : World} {s : Trace} (h : Par P ty Wg C Low vals AnchW Post p μ g w s) : g.status = .running ∨ (g.status = .blocked ∧ g.offers = none) := by
  cases h with
  | a hB hp => exact .inl (hp.running hAr)
  | b hB hp => exact hp.status.imp (·.2) (·.2)

theorem Par.at {μ : Nat × Nat} {g : Goroutine} {w : World} {s : Trace} (h : Par P ty Wg C Low vals AnchW Post p μ g w s) (d : Nat) : Par P ty Wg C Low vals AnchW Post p μ g (w.at d) s := by
  cases h with
  | a hB hp => exact .a (hB.at d) (hp.rely (RPa.at w d))
  | b hB hp => exact .b (hB.at d) (hp.rely (RPb.at w d))

theorem Par.kca {μ : Nat × Nat} {g : Goroutine} {w : World} {s : Trace} (h : Par P ty Wg C Low vals AnchW Post p μ g w s) : KCa ty Wg w := by
  cases h with
  | a hB hp => exact .inl hB.wg
  | b hB hp => exact .inr hB.wg

/-- Goroutine 0's own step. -/
theorem Par.move (hW : Wg < Low) (hC : C < Low) (hCW : C ≠ Wg) (hAr : ∀ g w, AnchW g w → g.status = .running) (hAn : ∀ g w, AnchW g w → ∃ m, Goes P true (RPa ty Wg C vals) (DPi NoMine Wg C Low) (AtW1 P ty Wg C Low vals NoMine AnchW Post) m g w)
    {μ : Nat × Nat} {g b : Goroutine} {w : World} {sl : Option (Nat × Nat)} {s : Trace} (h : Par P ty Wg C Low vals AnchW Post p μ g w s) (hg : g.status = .running) :
    ∃ a' w' ops μ', runT P (duo g b w sl) 0 = (.next (duo a' (woken P g a' w' b) w' sl), ops) ∧ RCa ty Wg Low w w' ∧ Lt2 μ' μ ∧ Par P ty Wg C Low vals AnchW Post p μ' a' w' (s ++ ops) := by
  cases h with
  | a hB hp =>
    obtain ⟨a', w', ops, hrun, hrc, hout⟩ := PA.moveA hW hC hCW hAn (b := b) (sl := sl) hB hp
    cases hout with
    | stay rp' d0' mp' hl hB' hp' => exact ⟨a', w', ops, _, runT_of_X hrun, hrc, (by rcases Prod.lex_def.1 hl with x | ⟨x, y⟩; exact .left _ _ (by simp only at x ⊢; omega); simp only at x y; subst x; exact .right _ y), .a hB' hp'⟩
    | reg mp' hB' hp' => exact ⟨a', w', ops, _, runT_of_X hrun, hrc, .left _ _ (by omega), .b hB' hp'⟩
  | @b rp mp _ _ _ hB hp =>
    obtain rfl : rp = 1 := hp.status.elim (fun x => x.1) (fun x => by rw [x.2.1] at hg; cases hg)
    obtain ⟨a', w', ops, hrun, hrc, rp', mp', hl, hB', hp'⟩ := PB.move0 hW hC (b := b) (sl := sl) hB hp
    exact ⟨a', w', ops, _, runT_of_X hrun, hrc.toA hW, hl, .b hB' hp'⟩

theorem evQ_none (hok : ∀ act : MemAct, act.touch? = none → Shy.ok Wg C act) {g : Nat} {e : Event} (h : EvA (fun _ => False) e) : EvQ NoMine Wg C g e := by
  cases h with
  | cell h => exact h.elim
  | obj h => exact h.elim
  | @mark m h =>
    have ht : (MemAct.ofEvent ⟨.mark m, false, true⟩).touch? = none := h.touch
    have hm : m = .noRoom := h
    subst hm
    exact ⟨fun fn pos => okOp_still ht (by simp [MemAct.ofEvent]) (hok _ ht), by simp, by simp, by simp⟩

/-- A step of goroutine 1's that touches no memory. -/
theorem Par.idle (hok : ∀ act : MemAct, act.touch? = none → Shy.ok Wg C act) (hAr : ∀ g w, AnchW g w → g.status = .running) {μ : Nat × Nat} {g b b' : Goroutine} {w : World} {s : Trace} (h : Par P ty Wg C Low vals AnchW Post p μ g w s) (fn : FuncId) (pos : String) {es : Array Event} (hes : ∀ e ∈ es, EvA (fun _ => False) e) :
    ∃ μ', Par P ty Wg C Low vals AnchW Post p μ' (woken P b b' w g) w (s ++ MemOp.ofEvents 1 fn pos es) := by
  have hq : ∀ e ∈ es, EvQ NoMine Wg C 1 e := fun e he => evQ_none hok (hes e he)
  cases h with
  | a hB hp =>
    rw [woken_run (hp.running hAr)]
    exact ⟨_, .a (hB.step1 fn pos hq hB.wg hB.ch) hp⟩
  | b hB hp =>
    obtain ⟨r', m', hp'⟩ := hp.woken (b := b) (b' := b')
    exact ⟨_, .b (hB.step1 fn pos hq hB.wg hB.ch) hp'⟩

theorem base_op {n : Nat} {st sm : Int} {buf : Array Value} {cl : Bool} {s r d0 d1 : Nat} {w : World} {t : Trace} (h : Base NoMine ty Wg C n st sm buf cl s r d0 d1 false w t p) {op : MemOp} (hg : op.g = 1) (ht : op.act.touch? = none) (hm : ∀ m, op.act ≠ .mark m) (hok : Shy.ok Wg C op.act) :
    Base NoMine ty Wg C n st sm buf cl s r d0 d1 false w (t ++ #[op]) p := by
  have hO : ∀ x ∈ (#[op] : Trace), OkOp NoMine Wg C 1 x := by
    intro x hx
    simp only [List.mem_toArray, List.mem_singleton] at hx
    subst hx
    exact ⟨hg, (fun y hy => by rw [ht] at hy; cases hy), hm _, hok⟩
  have hd : ∀ g, Deaf (t ++ #[op]) g = Deaf t g := fun g => deaf_still t g _ (by intro x hx; simp only [List.mem_toArray, List.mem_singleton] at hx; subst hx; exact ⟨hm _, hm _⟩)
  refine ⟨h.wg, h.ch, h.jt.app (.inr rfl) hO (fun _ => .inr (h.noacq rfl)), by rw [hd, h.deaf0], by rw [hd, h.deaf1], fun e => (h.noacq e).app (by intro x hx; simp only [List.mem_toArray, List.mem_singleton] at hx; subst hx; exact hm _), fun e => by cases e⟩

/-- Goroutine 1 sees that the channel is closed. -/
theorem Par.seen {μ : Nat × Nat} {g : Goroutine} {w : World} {s : Trace} (h : Par P ty Wg C Low vals AnchW Post p μ g w s) {op : MemOp} (hg : op.g = 1) (ht : op.act.touch? = none) (hm : ∀ m, op.act ≠ .mark m) (hok : Shy.ok Wg C op.act) :
    Par P ty Wg C Low vals AnchW Post p μ g w (s ++ #[op]) := by
  cases h with
  | a hB hp => exact .a (base_op hB hg ht hm hok) hp
  | b hB hp => exact .b (base_op hB hg ht hm hok) hp

theorem Par.join {μ : Nat × Nat} {a b : Goroutine} {w : World} {sl : Option (Nat × Nat)} {s : Trace} {m : Nat} (h : Par P ty Wg C Low vals AnchW Post p μ a w s) (hb : Goes P false (RCa ty Wg Low) (DCs NoMine Wg C) (AtR0 P ty Wg C Low vals) m b w) :
    ∃ μ', JInv P ty Wg C Low vals NoMine AnchW Post μ' (duo a b w sl) s := by
  cases h with
  | a hB hp => exact ⟨_, .a a b w sl s p _ _ _ _ _ _ _ _ vals [] (by simp) hB hp (.r0 hb)⟩
  | b hB hp => exact ⟨_, .b a b w sl s p _ _ _ _ _ _ _ vals [] (by simp) hB hp (.r0 hb)⟩

theorem runT_recv_shut {P : Program} {a b b₂ : Goroutine} {w w₁ : World} {sl : Option (Nat × Nat)} {es : Array Event} {c n : Nat} {z : Value} (h : stepG P false b w = .comm b₂ #[rcase c z] true (.recv true) w₁ es) (hc : w₁.heap[c]? = some (.chan 0 #[] true n n false)) (ha : a.status ≠ .blocked ∨ a.offers = none) :
    runT P (duo a b w sl) 1 = (.next (duo a (Go.Conc.served b₂ (.tuple #[z, .bool false])) w₁ sl), MemOp.ofEvents 1 b.frame.fn b.frame.place es ++ #[{ g := 1, fn := b₂.frame.fn, pos := b₂.frame.place, act := .recvClosed c }]) := by
  have hp : partners #[a, { (default : Goroutine) with status := .finished }] c true = [] := by
    rcases ha with h | h
    · exact noPartners (by simp [h])
    · cases hs : a.status <;> simp [partners, h, hs]
  simp [runT, duo, Array.swapAt!, Array.swapAt, h, GStep.es, communicate, ways, rcase, hc, hp, choose, Sem.run, Question.forced, bind, Sem.bind, pure, Goroutine.finishComm, commResult, Go.Conc.served]

variable {c n0 b0 : Nat} {z : Value} {Kc : Goroutine → Prop}

/-- Up to where goroutine 1 is on its way to its Done's release. -/
theorem phaseSee (hW : Wg < Low) (hC : C < Low) (hCW : C ≠ Wg) (hAr : ∀ g w, AnchW g w → g.status = .running) (hAn : ∀ g w, AnchW g w → ∃ m, Goes P true (RPa ty Wg C vals) (DPi NoMine Wg C Low) (AtW1 P ty Wg C Low vals NoMine AnchW Post) m g w)
    (hok : ∀ act : MemAct, act.touch? = none → Shy.ok Wg C act) (hcL : c < Low) (hcW : c ≠ Wg) (hb0 : b0 < Low) (hn0 : n0 = b0 + 1)
    (hKc : ∀ b, Kc b → ∀ w, KCa ty Wg w ∧ Full C vals w → n0 ≤ w.heap.size → ∃ m, Goes P false (RCa ty Wg Low) (DCs NoMine Wg C) (AtR0 P ty Wg C Low vals) m (Go.Conc.served b (.tuple #[z, .bool false])) w) :
    ∀ (μ : Nat × Nat × Nat) (a b : Goroutine) (w : World) (sl : Option (Nat × Nat)) (s : Trace) (n : Nat), Par P ty Wg C Low vals AnchW Post p μ.2 a w s → Goes P false (Any n0) Not (AtRecv P c n0 z Kc) μ.1 b w →
      w.heap[c]? = some (.chan 0 #[] true n n false) → n0 ≤ w.heap.size → Full C vals w →
      ∃ m' u μ', RunsTo P (duo a b w sl) m' u ∧ JInv P ty Wg C Low vals NoMine AnchW Post μ' m' (s ++ u) := by
  have wf : WellFounded (Prod.Lex (· < ·) (Prod.Lex (· < ·) (· < ·)) : Nat × Nat × Nat → Nat × Nat × Nat → Prop) := (Prod.lex Nat.lt_wfRel (Prod.lex Nat.lt_wfRel Nat.lt_wfRel)).wf
  intro μ
  induction μ using wf.induction with
  | _ μ ih =>
    intro a b w sl s n hA hB hc hn hF
    have hrb : b.status = .running := hB.running (fun _ _ h => h.1) w hn
    have awA : awake a := awake_of ((hA.status hAr).elim .inl fun x => .inr (.inl x.1))
    obtain ⟨d, sl', hmv⟩ := duo_pick (P := P) (sl := sl) (w := w) awA (awake_of (.inl hrb)) (.inr hrb)
    have hA' := hA.at d
    rcases hmv with ⟨hra, hst⟩ | ⟨_, hst⟩
    · -- goroutine 0
      obtain ⟨a', w', ops, μ', hrun, hrc, hlt, hA''⟩ := hA'.move hW hC hCW hAr hAn (b := b) (sl := sl') hra
      rw [woken_run hrb] at hrun
      have hk : ∀ k, k < Low → k ≠ Wg → w'.heap[k]? = w.heap[k]? := fun k h1 h2 => hrc.low k h1 h2
      have hn' : n0 ≤ w'.heap.size := by
        by_cases hb0W : b0 = Wg
        · have : Wg < w'.heap.size := by rcases hA''.kca with h | h <;> exact obj_lt h
          omega
        have h1 := hk b0 hb0 hb0W
        rw [Array.getElem?_eq_getElem (show b0 < w.heap.size by omega)] at h1
        have := (Array.getElem?_eq_some_iff.1 h1).1
        omega
      obtain ⟨m', u, μ'', hr, hJ⟩ := ih (μ.1, μ') (.right _ hlt) a' b w' sl' (s ++ ops) n hA'' (goes_any w' hB) ((hk c hcL hcW).trans hc) hn' (fun e => (hk C hC hCW).trans (hF e))
      exact ⟨m', ops ++ u, μ'', RunsTo.step (hst.trans hrun) hr, by rw [← Array.append_assoc]; exact hJ⟩
    · -- goroutine 1
      have seen : AtRecv P c n0 z Kc b (w.at d) → ∃ m' u μ', RunsTo P (duo a b w sl) m' u ∧ JInv P ty Wg C Low vals NoMine AnchW Post μ' m' (s ++ u) := by
        rintro ⟨_, b2, hs, hK⟩
        have hrun := runT_recv_shut (a := a) (sl := sl') hs (show (w.at d).heap[c]? = _ from hc) ((hA.status hAr).imp (fun e => by rw [e]; simp) (·.2))
        have hA2 := hA'.seen (op := { g := 1, fn := b2.frame.fn, pos := b2.frame.place, act := .recvClosed c }) rfl rfl (by simp) (hok _ rfl)
        obtain ⟨m, hG⟩ := hKc b2 hK.2 (w.at d) ⟨hA2.kca, hF⟩ hn
        obtain ⟨μ', hJ⟩ := hA2.join (sl := sl') hG
        refine ⟨_, _, μ', RunsTo.step (hst.trans hrun) (RunsTo.refl _ _), ?_⟩
        rw [ofEvents_nil, Array.empty_append, Array.append_empty]
        exact hJ
      have step : ∀ m2, μ.1 = m2 + 1 → (stepG P false b (w.at d)).goes (fun g' w' es => Not (w.at d) w' es ∧ Goes P false (Any n0) Not (AtRecv P c n0 z Kc) m2 g' w') → ∃ m' u μ', RunsTo P (duo a b w sl) m' u ∧ JInv P ty Wg C Low vals NoMine AnchW Post μ' m' (s ++ u) := by
        intro m2 hm2 hgoes
        obtain ⟨b', w', es, hs, ⟨rfl, hes⟩, hgo'⟩ := goes_elim hgoes
        have hrun := runT_duo1 (a := a) (sl := sl') hs
        obtain ⟨μ', hA2⟩ := hA'.idle (b := b) (b' := b') hok hAr b.frame.fn b.frame.place hes
        obtain ⟨m', u, μ'', hr, hJ⟩ := ih (m2, μ') (.left _ _ (by omega)) _ b' (w.at d) sl' _ n hA2 hgo' hc hn hF
        exact ⟨m', _ ++ u, μ'', RunsTo.step (hst.trans hrun) hr, by rw [← Array.append_assoc]; exact hJ⟩
      have hB' := goes_any (w.at d) hB
      obtain ⟨m1, μ2⟩ := μ
      cases m1 with
      | zero => exact seen (hB' _ hn)
      | succ m1 =>
        rcases hB' with h | ⟨_, h⟩
        · exact seen (h _ hn)
        · exact step m1 rfl (h _ hn)

/-- Up to 'Acquired'. -/
theorem phaseJoin (hW : Wg < Low) (hC : C < Low) (hCW : C ≠ Wg) (hAr : ∀ g w, AnchW g w → g.status = .running) (hAn : ∀ g w, AnchW g w → ∃ m, Goes P true (RPa ty Wg C vals) (DPi NoMine Wg C Low) (AtW1 P ty Wg C Low vals NoMine AnchW Post) m g w) :
    ∀ (μ : Nat × Nat × Nat × Nat) (m : Machine) (s : Trace), JInv P ty Wg C Low vals NoMine AnchW Post μ m s → ∃ m' u, RunsTo P m m' u ∧ Acquired P ty Wg C Low vals NoMine Post m' (s ++ u) := by
  intro μ
  have wf : WellFounded Lt4 := (Prod.lex Nat.lt_wfRel (Prod.lex Nat.lt_wfRel (Prod.lex Nat.lt_wfRel Nat.lt_wfRel))).wf
  induction μ using wf.induction with
  | _ μ ih =>
    intro m s h
    obtain ⟨a, b, w, sl, rfl, awa, awb, some1, _⟩ := h.shape hAr
    obtain ⟨d, sl', hmv⟩ := duo_pick (P := P) (sl := sl) (w := w) awa awb some1
    have go : ∀ i, Go.stepT P (duo a b w sl) = runT P (duo a b (w.at d) sl') i → ((a.status = .running ∧ i = 0) ∨ (b.status = .running ∧ i = 1)) → ∃ m' u, RunsTo P (duo a b w sl) m' u ∧ Acquired P ty Wg C Low vals NoMine Post m' (s ++ u) := by
      intro i hst hi
      rcases join_step hW hC hCW hAr hAn μ _ s h (runTX P (duo a b (w.at d) sl') i) (fun a2 b2 w2 sl2 e2 => by
        obtain ⟨rfl, rfl, rfl, rfl⟩ := duo_inj e2
        exact ⟨d, sl', hi.imp (fun ⟨x, y⟩ => ⟨x, by rw [y]⟩) (fun ⟨x, y⟩ => ⟨x, by rw [y]⟩)⟩) with hacq | ⟨m1, ops, μ', hX, hlt, hJ'⟩
      · exact ⟨_, #[], RunsTo.refl _ _, by rw [Array.append_empty]; exact hacq⟩
      · obtain ⟨m', u, hr, hA⟩ := ih μ' hlt m1 _ hJ'
        exact ⟨m', ops ++ u, RunsTo.step (hst.trans (runT_of_X hX)) hr, by rw [← Array.append_assoc]; exact hA⟩
    rcases hmv with ⟨h1, h2⟩ | ⟨h1, h2⟩
    · exact go 0 h2 (.inl ⟨h1, rfl⟩)
    · exact go 1 h2 (.inr ⟨h1, rfl⟩)

end
end Go.Ab

