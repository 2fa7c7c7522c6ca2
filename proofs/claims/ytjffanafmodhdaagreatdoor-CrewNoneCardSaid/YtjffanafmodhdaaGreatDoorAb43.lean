/- Own text of this claim: part Ab43. -/
import Derived.Test.YtjffanafmodhdaaGreatDoorAb42
set_option linter.unusedVariables false
set_option linter.unusedSimpArgs false
set_option linter.unusedSectionVars false
set_option linter.unnecessarySimpa false
/-
  Own library, part 43: from the last meeting to the run's end.
-/
set_option linter.unusedSectionVars false
namespace Go.Ab
open Go.Conc Go.ConcX Go.ConcX.Gen Go.Conc.Lib

/-- The run ends well. -/
def Ends (P : Program) (m : Machine) (t : Trace) (Post : Value → World → Prop) : Prop :=
  ∃ N last o w' t', runNT P (N + 1) m t = (.ended o w', t') ∧ runN P N m = .next last ∧ Go.step P last = .ended o w' ∧ Go.Conc.Good P Post last o w' t'

theorem Ends.after {P : Program} {m m' : Machine} {t t' : Trace} {Post : Value → World → Prop} {k : Nat} (h : runNT P k m t = (.next m', t')) (h' : Ends P m' t' Post) : Ends P m t Post := by
  obtain ⟨N, last, o, w', t'', h1, h2, h3, h4⟩ := h'
  refine ⟨k + N, last, o, w', t'', ?_, ?_, h3, h4⟩
  · rw [Nat.add_assoc, runNT_add, h]; exact h1
  · rw [runN_add, ← runNT_fst P k m t, h]; exact h2

theorem runNT_ext {P : Program} : ∀ {k : Nat} {m m' : Machine} {t t' : Trace}, runNT P k m t = (.next m', t') → ∃ v, t' = t ++ v := by
  intro k
  induction k with
  | zero => intro m m' t t' h; simp only [runNT, Prod.mk.injEq] at h; exact ⟨#[], by rw [← h.2]; simp⟩
  | succ k ih =>
    intro m m' t t' h
    match hs : Go.stepT P m with
    | (.next m1, ops) =>
      rw [runNT_succ_next hs] at h
      obtain ⟨v, hv⟩ := ih h
      exact ⟨ops ++ v, by rw [hv, Array.append_assoc]⟩
    | (.ended o w, ops) => simp [runNT, hs] at h

/-! ### What is kept of the world from the call's entry on -/

structure Since (W0 : World) (I : Nat → Prop) (w : World) : Prop where
  os : w.os = W0.os
  out : w.output = W0.output
  size : W0.heap.size ≤ w.heap.size
  keep : ∀ b, b < W0.heap.size → ¬ I b → w.heap[b]? = W0.heap[b]?
  rows : ∀ (b : Nat) (c : Array Value) (e : TypeId) (f : Nat × Nat), W0.heap[b]? = some (.cells c e f) → ∃ c', w.heap[b]? = some (.cells c' e f) ∧ c'.size = c.size

/-- Of the old blocks, only those. -/
def Foot (W0 : World) (I F : Nat → Prop) : Prop := ∀ b, b < W0.heap.size → F b → I b

section
variable {W0 : World} {I : Nat → Prop}

theorem Since.refl (W0 : World) (I : Nat → Prop) : Since W0 I W0 := ⟨rfl, rfl, Nat.le_refl _, fun _ _ _ => rfl, fun _ c _ _ h => ⟨c, h, rfl⟩⟩

theorem Since.grown {w w' : World} {F0 F1 G0 G1 : Nat → Prop} (h : Since W0 I w) (hg : Grown w F0 F1 w' G0 G1) (h0 : Foot W0 I F0) (h1 : Foot W0 I F1) : Since W0 I w' := by
  refine ⟨hg.aside.os.trans h.os, hg.aside.out.trans h.out, Nat.le_trans h.size hg.size, fun b hb hI => ?_, fun b c e f hr => ?_⟩
  · rw [hg.keep b (Nat.lt_of_lt_of_le hb h.size) (fun e => hI (h0 b hb e)) (fun e => hI (h1 b hb e)), h.keep b hb hI]
  · obtain ⟨c1, h2, h3⟩ := h.rows b c e f hr
    obtain ⟨c2, h4, h5⟩ := hg.aside.rows b c1 e f h2
    exact ⟨c2, h4, h5.trans h3⟩

theorem Foot.grown {w w' : World} {F0 F1 G0 G1 : Nat → Prop} (h : Since W0 I w) (hg : Grown w F0 F1 w' G0 G1) (h0 : Foot W0 I F0) : Foot W0 I G0 := fun b hb hG => by
  rcases hg.new0 b hG with e | e
  · exact h0 b hb e
  · have := h.size; omega
theorem Foot.grown1 {w w' : World} {F0 F1 G0 G1 : Nat → Prop} (h : Since W0 I w) (hg : Grown w F0 F1 w' G0 G1) (h1 : Foot W0 I F1) : Foot W0 I G1 := fun b hb hG => by
  rcases hg.new1 b hG with e | e
  · exact h1 b hb e
  · have := h.size; omega

/-- A change of new blocks alone. -/
theorem Since.fresh {w w' : World} (h : Since W0 I w) (ho : w'.os = w.os) (hu : w'.output = w.output) (hs : w.heap.size ≤ w'.heap.size) (hk : ∀ b, b < W0.heap.size → w'.heap[b]? = w.heap[b]?) : Since W0 I w' := by
  refine ⟨ho.trans h.os, hu.trans h.out, Nat.le_trans h.size hs, fun b hb hI => (hk b hb).trans (h.keep b hb hI), fun b c e f hr => ?_⟩
  obtain ⟨c1, h2, h3⟩ := h.rows b c e f hr
  exact ⟨c1, (hk b (obj_lt hr)).trans h2, h3⟩

theorem Since.guar {y : FW} {w' : World} {es : Array Event} (h : Since W0 I y.w) (hg : Guar y w' es) (hF : Foot W0 I y.F) : Since W0 I w' ∧ Foot W0 I (y.next w').F := by
  refine ⟨⟨hg.aside.os.trans h.os, hg.aside.out.trans h.out, Nat.le_trans h.size hg.size, fun b hb hI => ?_, fun b c e f hr => ?_⟩, fun b hb hn => ?_⟩
  · exact (hg.keep b (fun e => hI (hF b hb e)) (Nat.lt_of_lt_of_le hb h.size)).trans (h.keep b hb hI)
  · obtain ⟨c1, h2, h3⟩ := h.rows b c e f hr
    obtain ⟨c2, h4, h5⟩ := hg.aside.rows b c1 e f h2
    exact ⟨c2, h4, h5.trans h3⟩
  · rcases hn with e | ⟨e, _⟩
    · exact hF b hb e
    · have := h.size
      have e : y.w.heap.size ≤ b := e
      omega
end

/-! ### The last walk, alone but for one that leaves -/

/-- At the step that ends the run, in the abstract state sF, with the abstract value vF. -/
def EndG (P : Program) (vF : AV) (sF : St) (g : Goroutine) (x : FW) : Prop :=
  g.status = .running ∧ ∃ v es ρ, stepG P true g x.w = .ended (.done v) x.w es ∧ (∀ e ∈ es, EvA (Upto x.A x.w) e) ∧ Rel x.A P ρ sF x.heap ∧ V ρ vF v

def PostG (P : Program) (W0 : World) (I : Nat → Prop) (vF : AV) (sF : St) (v : Value) (w : World) : Prop :=
  Since W0 I w ∧ ∃ ρ F, Rel (FW.A ⟨w, F⟩) P ρ sF w.heap ∧ V ρ vF v

theorem gof_goes {P : Program} {W0 : World} {I : Nat → Prop} {Wg : Nat} {vF : AV} {sF : St} : ∀ (n : Nat) (g : Goroutine) (w : World) (F : Nat → Prop), GoF P true (EndG P vF sF) n g ⟨w, F⟩ → ¬ F Wg → Wg < w.heap.size → Foot W0 I F → Since W0 I w →
    Goes P true AtRel (DF Wg) (AtEndF P Wg (PostG P W0 I vF sF)) n g w := by
  have ends : ∀ (g : Goroutine) (w : World) (F : Nat → Prop), ¬ F Wg → Wg < w.heap.size → Since W0 I w → EndG P vF sF g ⟨w, F⟩ → AtEndF P Wg (PostG P W0 I vF sF) g w := by
    rintro g w F hF hW hS ⟨hr, v, es, ρ, h1, h2, h3, h4⟩
    refine ⟨hr, v, es, h1, fun e he => evF_of (A := Upto (FW.A ⟨w, F⟩) w) (fun h => ?_) (h2 e he), hS, ρ, F, h3, h4⟩
    rcases h.1 with h | h
    · exact hF h
    · have h : w.heap.size ≤ Wg := h
      omega
  intro n
  induction n with
  | zero =>
    rintro g w F h hF hW hFt hS _ ⟨d, rfl⟩
    exact ends g (w.at d) F hF hW (hS.fresh rfl rfl (Nat.le_refl _) fun _ _ => rfl) (h _ (rely_at w F d))
  | succ n ih =>
    intro g w F h hF hW hFt hS
    rcases h with h | ⟨hs, h⟩
    · exact .inl (by rintro _ ⟨d, rfl⟩; exact ends g (w.at d) F hF hW (hS.fresh rfl rfl (Nat.le_refl _) fun _ _ => rfl) (h _ (rely_at w F d)))
    · refine .inr ⟨hs, ?_⟩
      rintro _ ⟨d, rfl⟩
      obtain ⟨g', w', es, e, hG, hg⟩ := goes_elim (h ⟨w.at d, F⟩ (rely_at w F d))
      have e : stepG P true g (w.at d) = .go g' w' es := e
      rw [e]
      have hSd : Since W0 I (w.at d) := hS.fresh rfl rfl (Nat.le_refl _) fun _ _ => rfl
      obtain ⟨hS', hF'⟩ := Since.guar (y := ⟨w.at d, F⟩) hSd hG hFt
      have hnW : ¬ (FW.next ⟨w.at d, F⟩ w').F Wg := by
        rintro (h | ⟨h, _⟩)
        · exact hF h
        · have h : w.heap.size ≤ Wg := h
          omega
      refine ⟨fun e he => evF_of (A := Upto (FW.A ⟨w.at d, F⟩) w') (fun h => ?_) (hG.ev e he), ih g' w' _ hg hnW (Nat.lt_of_lt_of_le hW hG.size) hF' hS'⟩
      rcases h.1 with h | h
      · exact hF h
      · have h : w.heap.size ≤ Wg := h
        omega

/-! ### From the last meeting -/

section
variable {P : Program} {L : WgLink}

/-- What goroutine 0 is, once it has closed. -/
def BehindClose (P : Program) (ρ0 : Map) (aC : AFr) (cs : List AFr) (bs : List Frame) (s1 : St) (a : Goroutine) (y : FW) : Prop :=
  ∃ ρ, ρ0.le ρ ∧ GRel ρ { top := aC, cs } bs a ∧ Rel y.A P ρ s1 y.heap ∧ ∀ id, s1.next ≤ id → ρ id = none

/-- What goroutine 1 is, once it has found the channel closed. -/
def BehindRecv (ρ1 : Map) (aQ : AFr) (bsC : List Frame) (z : Value) (b : Goroutine) : Prop := GRel ρ1 { top := aQ, cs := [] } bsC (Go.Conc.served b (.tuple #[z, .bool false]))

theorem endgame (H : WgLib P L) (Cg : Good P) {W0 : World} {I : Nat → Prop}
    {a b : Goroutine} {w : World} {sl : Option (Nat × Nat)} {t : Trace} {p pg ps : Nat} {F0 : Nat → Prop} (hP : Ph t p w F0 (fun _ => False)) (hf : Forked t pg ps) (hS : Since W0 I w) (hFt : Foot W0 I F0)
    {c n Wg C : Nat} {ety : TypeId} {buf : Array Value} (hc : w.heap[c]? = some (.chan 0 #[] false n n false)) (hWg : WgAt L.tWg Wg w KK 0) (hCb : w.heap[C]? = some (.cells buf ety)) (c0 : ¬ F0 c) (W0' : ¬ F0 Wg) (C0 : ¬ F0 C)
    (hWc : Wg ≠ c) (hCW : C ≠ Wg) (hCc : C ≠ c) (hnew : W0.heap.size ≤ Wg ∧ W0.heap.size ≤ C ∧ W0.heap.size ≤ c)
    -- goroutine 1
    {z : Value} {r : Nat} {ρ1 : Map} {aQ aD : AFr} {nQ : Nat} (hB1 : Based P ρ1 w.heap.size) (hK : Kid P c w.heap.size z (BehindRecv ρ1 aQ [bot P] z) r b) (hadvQ : advP P nQ aQ = aD) (hret : aD.ret = true) (hnrm : aD.nrm = false) {wg1 : Nat} {l1 : Pl}
    (hds : aD.ds = [.inl { fn := .func L.done, captured := [], args := [.ptr wg1 0] }]) (hl1 : ρ1 wg1 = some l1) (hlb1 : l1.b = Wg) (hlo1 : l1.o = 0) {fnD : Func} (hfnD : P.funcs[aD.fn]? = some fnD) (hresD : fnD.results = #[])
    -- goroutine 0
    {m : Nat} {ρ0 : Map} {aC aW aR : AFr} {cs : List AFr} {bs : List Frame} {s1 : St} {nC : Nat} (hA : GoF P true (AtClose P c (BehindClose P ρ0 aC cs bs s1)) m a ⟨w, F0⟩) (hadvC : advP P nC aC = aW)
    {o : Oper} {ops : Array Oper} {i : Nat} {rest : List Nat} {k : List Item} (hop : opAt aW = some (o, ops, i, rest, k)) {cl : Call} {f : Operand} (ho : o.op = .call cl) (hfv : cl.callee = .value f)
    (hv : evalA P aW.ts f = some (.func (.func L.wait) [] [])) {wg : Nat} {l : Pl} (ha : mapO (evalA P aW.ts) cl.args.toList = some [.ptr wg 0]) (hl : ρ0 wg = some l) (hlb : l.b = Wg) (hlo : l.o = 0) (hput : opPut aW undefA = some aR)
    {vF : AV} {sF : St} {mF : Nat} (hfin : ∀ ρ (x : FW) g, GRel ρ { top := aR, cs } bs g → Rel x.A P ρ s1 x.heap → (∀ id, s1.next ≤ id → ρ id = none) → GoF P true (EndG P vF sF) mF g x) :
    Ends P (duo a b w sl) t (PostG P W0 I vF sF) := by
  obtain ⟨k1, m1, t1, hr1, hSh⟩ := phaseClose _ m r a b w sl t p F0 (Nat.lt_succ_self _) hA hK hP c0 hc (Nat.le_refl _)
  refine Ends.after hr1 ?_
  obtain ⟨a', b', w1, sl', G0, m', rfl, hG, ⟨ρ, hle, hgC, hRel, htop⟩, hB, hc1, hG0, cG0, hTr⟩ := hSh
  -- the world behind the close
  have hcl : c < w1.heap.size := obj_lt hc1
  have hcl0 : c < w.heap.size := obj_lt hc
  have hWl : Wg < w.heap.size := obj_lt hWg
  have hCl : C < w.heap.size := obj_lt hCb
  have nF : ∀ b, b < w.heap.size → ¬ F0 b → ¬ G0 b := fun b hb h e => (hG.new0 b e).elim h (fun h => by omega)
  have hWg1 : WgAt L.tWg Wg (w1.shutC c n) KK 0 := by
    show (w1.shutC c n).heap[Wg]? = _
    rw [shut_keep (by omega), hG.keep Wg hWl W0' id]
    exact hWg
  have hC1 : (w1.shutC c n).heap[C]? = some (.cells buf ety) := by
    rw [shut_keep hCc, hG.keep C hCl C0 id]
    exact hCb
  have hc2 : (w1.shutC c n).heap[c]? = some (.chan 0 #[] true n n false) := by
    simp only [World.shutC]
    rw [Array.getElem?_setIfInBounds_self_of_lt hcl]
  have hsz : (w1.shutC c n).heap.size = w1.heap.size := shut_size
  have hS1 : Since W0 I w1 := hS.grown hG hFt (fun b _ h => h.elim)
  have hFG : Foot W0 I G0 := hFt.grown hS hG
  have hS2 : Since W0 I (w1.shutC c n) := hS1.fresh rfl rfl (Nat.le_of_eq hsz.symm) fun b hb => shut_keep (by omega)
  generalize hws : w1.shutC c n = ws at *
  -- the family's data
  letI : Payload := ⟨ety⟩
  let F : World → Prop := fun w' => w'.os = ws.os ∧ w'.output = ws.output ∧ w'.heap.size = ws.heap.size ∧ ∀ k, k ≠ C → k ≠ Wg → w'.heap[k]? = ws.heap[k]?
  let stop : Goroutine → World → Prop := fun g w' => GRel ρ { top := aR, cs } bs g ∧ F w' ∧ w'.heap[C]? = some (.cells buf ety)
  letI : Shy Wg C := shyJ Wg C stop
  have hF2 : ∀ w w', Aside2 C Wg w w' → F w → F w' := fun w w' h hF => ⟨h.os.trans hF.1, h.output.trans hF.2.1, h.size.trans hF.2.2.1, fun k h1 h2 => (h.block k h1 h2).trans (hF.2.2.2 k h1 h2)⟩
  have hFull : Full C buf.toList ws := fun _ => by rw [Array.toArray_toList]; exact hC1
  have hok : ∀ act : MemAct, act.touch? = none → Shy.ok Wg C act := fun act h x hx => by rw [h] at hx; cases hx
  have hBas : Based P ρ ws.heap.size := hRel.based
  obtain ⟨mk0, hkd⟩ := wait_kd (Low := ws.heap.size) (vals := buf.toList) (F := F) (n0 := ws.heap.size) (w := ws) H Cg hBas hok hF2 hadvC hop ho hfv hv ha (hle _ _ hl) hlb hlo hput hgC (Nat.le_refl _) ⟨⟨rfl, rfl, rfl, fun _ _ _ => rfl⟩, .inl hWg1⟩
  -- the ghost's beginning
  let x0 : MemOp := { g := 0, fn := 0, pos := "", act := .go 1 }
  let y0 : MemOp := { g := 1, fn := 0, pos := "", act := .start }
  have hgh : ((#[] : Trace).push x0).push y0 = ghost x0 y0 #[] := by simp [ghost]
  obtain ⟨hJ0, hd0, hd1, hna⟩ := JT.init (Mine := NoMine) (ST.nil (Wg := Wg) (C := C)) (x := x0) (y := y0) ⟨rfl, rfl⟩ ⟨rfl, rfl⟩
  rw [hgh] at hJ0 hd0 hd1 hna
  have hPar : Par P L.tWg Wg C ws.heap.size buf.toList (AnW L F Wg C buf.toList ρ { top := aR, cs } bs ops i rest k) (fun _ _ => True) 0 (4 + 2, mk0) a' ws (ghost x0 y0 #[]) :=
    .a (d0 := 0) ⟨hWg1, (fun e => by cases e), hJ0, hd0, hd1, fun _ => hna, fun e => by cases e⟩ (.kd hkd)
  have hWL : Wg < ws.heap.size := by have := hG.size; omega
  have hCL : C < ws.heap.size := by have := hG.size; omega
  have hn0 : w.heap.size ≤ ws.heap.size := by have := hG.size; omega
  obtain ⟨m2, u1, μ, hr2, hJ⟩ := phaseSee (p := 0) (Post := fun _ _ => True) (n0 := w.heap.size) (b0 := w.heap.size - 1) hWL hCL hCW (fun g w h => anW_running g w h) (anW_round H hCW hF2 (fun g w hg hF _ hU => ⟨hg, hF, (by have h := hU rfl; rw [Array.toArray_toList] at h; exact h)⟩)) hok (by omega) (by omega) (by omega) (by omega)
    (fun b hKb w' hKF hn => done_r0 (n0 := w.heap.size) (b0 := w.heap.size - 1) H Cg hB1 hok hWL hCL hCW (by omega) (by omega) hadvQ hret hnrm hds hl1 hlb1 hlo1 hfnD hresD hKb hn hKF)
    (m', 4 + 2, mk0) a' b' ws sl' (ghost x0 y0 #[]) n hPar (goes_any ws hB) hc2 hn0 hFull
  obtain ⟨m3, u2, hr3, hAcq⟩ := phaseJoin hWL hCL hCW (fun g w h => anW_running g w h) (anW_round H hCW hF2 (fun g w hg hF _ hU => ⟨hg, hF, (by have h := hU rfl; rw [Array.toArray_toList] at h; exact h)⟩)) μ m2 _ hJ
  obtain ⟨kk, hkk⟩ := hr2.trans hr3
  rw [ghost_app, ghost_app] at hAcq
  simp only [Array.empty_append] at hAcq
  refine Ends.after (hkk t1) ?_
  have hfork : Forked t1 pg ps := by
    have : ∃ v, t1 = t ++ v := runNT_ext hr1
    obtain ⟨v, rfl⟩ := this
    exact hf.app v
  refine end_of_acquired hAcq hfork ⟨rfl, rfl⟩ ⟨rfl, rfl⟩ hTr (fun h => h.elim (nF Wg hWl W0') (fun e => by omega)) (fun h => h.elim (nF C hCl C0) hCc) (fun act h => h) (mF := mF) ?_
  rintro g w' ⟨hg, hF, hCw⟩
  have hSw : Since W0 I w' := by
    refine ⟨hF.1.trans hS2.os, hF.2.1.trans hS2.out, by rw [hF.2.2.1]; exact hS2.size, fun b hb hI => ?_, fun b c e f hr => ?_⟩
    · rw [hF.2.2.2 b (by omega) (by omega)]
      exact hS2.keep b hb hI
    · have hb := obj_lt hr
      rw [hF.2.2.2 b (by omega) (by omega)]
      exact hS2.rows b c e f hr
  have hRw : Rel (FW.A ⟨w', G0⟩) P ρ s1 w'.heap := by
    refine Rel.rely (x := ⟨ws, G0⟩) (y := ⟨w', G0⟩) hRel ⟨rfl, Nat.le_of_eq hF.2.2.1.symm, fun b hb _ => ?_⟩
    exact hF.2.2.2 b (fun e => nF C hCl C0 (e ▸ hb)) (fun e => nF Wg hWl W0' (e ▸ hb))
  exact gof_goes mF g w' G0 (hfin ρ ⟨w', G0⟩ g hg hRw htop) (nF Wg hWl W0') (by rw [hF.2.2.1]; exact hWL) hFG hSw

end
end Go.Ab

