/- Own text of this claim: part Ab35. -/
import Derived.Test.YtjffanafmodhdaaGreatDoorAb14
import Derived.Test.YtjffanafmodhdaaGreatDoorAb33
set_option linter.unusedVariables false
set_option linter.unusedSimpArgs false
set_option linter.unusedSectionVars false
set_option linter.unnecessarySimpa false
/-
  Own library, part 35: the machine of two goroutines from one meeting to the next.
-/
namespace Go.Ab
open Go.Conc

section
variable (P : Program)

/-! ### Who offers what: D: goroutine 0 sends -/
def cs0 (D : Bool) (c : Nat) (v z : Value) : Array CommCase := if D then #[scase c v z] else #[rcase c z]
def sh0 (D : Bool) : CommShape := if D then .send else .select
def cs1 (D : Bool) (c : Nat) (v z : Value) : Array CommCase := if D then #[rcase c z] else #[scase c v z]
def sh1 (D : Bool) : CommShape := if D then .recv true else .send
def got0 (D : Bool) (v : Value) : Value := if D then undef else .tuple #[goInt 0, .bool true, v]
def got1 (D : Bool) (v : Value) : Value := if D then .tuple #[v, .bool true] else undef
def said (D : Bool) (v0 v1 : Value) : Value := if D then v0 else v1
def snd (D : Bool) : Nat := if D then 0 else 1
def rcv (D : Bool) : Nat := if D then 1 else 0

theorem meets (D : Bool) (c : Nat) (v0 v1 z0 z1 : Value) : Meets P c (cs0 D c v0 z0) (sh0 D) (cs1 D c v1 z1) (sh1 D) (got0 D (said D v0 v1)) (got1 D (said D v0 v1)) (snd D) (rcv D) := by
  cases D with
  | true => exact meets_send
  | false => exact meets_select

/-- It stands at its offer. -/
def AtOff (main : Bool) (cs : Value → Value → Array CommCase) (sh : CommShape) (K : Goroutine → Value → FW → Prop) (g : Goroutine) (x : FW) : Prop :=
  g.status = .running ∧ ∃ a v z, stepG P main g x.w = .comm a (cs v z) true sh x.w #[] ∧ ∀ y, Rely x y → K a v y

/-- On its way to its offer, or waiting there. -/
inductive Stage (main : Bool) (cs : Value → Value → Array CommCase) (sh : CommShape) (K : Goroutine → Value → FW → Prop) : Nat → Goroutine → FW → Prop
  | run {m : Nat} {g : Goroutine} {x : FW} (h : GoF P main (AtOff P main cs sh K) m g x) : Stage main cs sh K (m + 1) g x
  | wait {a : Goroutine} {v z : Value} {x : FW} (h : ∀ y, Rely x y → K a v y) : Stage main cs sh K 0 (parked a (cs v z) sh) x
end

theorem GoF.running {P : Program} {main : Bool} {Stop : Goroutine → FW → Prop} (hS : ∀ g x, Stop g x → g.status = .running) {m : Nat} {g : Goroutine} {x : FW} (h : GoF P main Stop m g x) : g.status = .running := by
  cases m with
  | zero => exact hS _ _ (h x (Rely.refl x))
  | succ m =>
    rcases h with h | h
    · exact hS _ _ (h x (Rely.refl x))
    · exact h.1

section
variable {P : Program} {main : Bool} {cs : Value → Value → Array CommCase} {sh : CommShape} {K : Goroutine → Value → FW → Prop}

theorem Stage.rely {r : Nat} {g : Goroutine} {x y : FW} (h : Stage P main cs sh K r g x) (hr : Rely x y) : Stage P main cs sh K r g y := by
  cases h with
  | run h => exact .run (h.rely hr)
  | wait h => exact .wait fun z hz => h z (hr.trans hz)

theorem Stage.status {r : Nat} {g : Goroutine} {x : FW} (h : Stage P main cs sh K r g x) : (∃ m, r = m + 1 ∧ g.status = .running) ∨ (r = 0 ∧ g.status = .blocked) := by
  cases h with
  | run h => exact .inl ⟨_, rfl, h.running fun _ _ h => h.1⟩
  | wait h => exact .inr ⟨rfl, rfl⟩

theorem Stage.awake {r : Nat} {g : Goroutine} {x : FW} (h : Stage P main cs sh K r g x) : awake g := by
  intro t
  rcases h.status with ⟨_, _, e⟩ | ⟨_, e⟩ <;> rw [e] <;> simp
end

/-- What has come to pass between two worlds. -/
structure Grown (w : World) (F0 F1 : Nat → Prop) (w' : World) (G0 G1 : Nat → Prop) : Prop where
  aside : Aside w w'
  size : w.heap.size ≤ w'.heap.size
  keep : ∀ b, b < w.heap.size → ¬ F0 b → ¬ F1 b → w'.heap[b]? = w.heap[b]?
  new0 : ∀ b, G0 b → F0 b ∨ w.heap.size ≤ b
  new1 : ∀ b, G1 b → F1 b ∨ w.heap.size ≤ b
  old0 : ∀ b, F0 b → G0 b
  old1 : ∀ b, F1 b → G1 b

theorem Grown.refl (w : World) (F0 F1 : Nat → Prop) : Grown w F0 F1 w F0 F1 := ⟨Aside.refl _, Nat.le_refl _, fun _ _ _ _ => rfl, fun _ => .inl, fun _ => .inl, fun _ => id, fun _ => id⟩
theorem Grown.trans {w w1 w2 : World} {F0 F1 G0 G1 I0 I1 : Nat → Prop} (h : Grown w F0 F1 w1 G0 G1) (h' : Grown w1 G0 G1 w2 I0 I1) : Grown w F0 F1 w2 I0 I1 := by
  have n0 : ∀ b, I0 b → F0 b ∨ w.heap.size ≤ b := fun b hb => by
    rcases h'.new0 b hb with h1 | h1
    · exact h.new0 b h1
    · exact .inr (Nat.le_trans h.size h1)
  have n1 : ∀ b, I1 b → F1 b ∨ w.heap.size ≤ b := fun b hb => by
    rcases h'.new1 b hb with h1 | h1
    · exact h.new1 b h1
    · exact .inr (Nat.le_trans h.size h1)
  refine ⟨h.aside.trans h'.aside, Nat.le_trans h.size h'.size, fun b hb h0 h1 => ?_, n0, n1, fun b hb => h'.old0 b (h.old0 b hb), fun b hb => h'.old1 b (h.old1 b hb)⟩
  rw [h'.keep b (Nat.lt_of_lt_of_le hb h.size) (fun e => (h.new0 b e).elim h0 (fun e => by omega)) (fun e => (h.new1 b e).elim h1 (fun e => by omega)), h.keep b hb h0 h1]

/-- The machine between two meetings. -/
structure Ph (t : Trace) (p : Nat) (w : World) (F0 F1 : Nat → Prop) : Prop where
  tr : Tr t p F0 F1
  lt0 : ∀ b, F0 b → b < w.heap.size
  lt1 : ∀ b, F1 b → b < w.heap.size

theorem rely_at (w : World) (F : Nat → Prop) (d : Nat) : Rely ⟨w, F⟩ ⟨w.at d, F⟩ := ⟨rfl, Nat.le_refl _, fun _ _ _ => rfl⟩

/-- A step of goroutine 0's. -/
theorem Ph.step0 {t : Trace} {p : Nat} {w w' : World} {F0 F1 : Nat → Prop} {es : Array Event} (h : Ph t p w F0 F1) (hg : Guar ⟨w, F0⟩ w' es) (fn : FuncId) (pos : String) :
    Ph (t ++ MemOp.ofEvents 0 fn pos es) p w' ((⟨w, F0⟩ : FW).next w').F F1 ∧ Grown w F0 F1 w' ((⟨w, F0⟩ : FW).next w').F F1 ∧ Rely ⟨w, F1⟩ ⟨w', F1⟩ := by
  have hap : ∀ b, ((⟨w, F0⟩ : FW).next w').F b → F1 b → False := by
    rintro b (hb | ⟨hb, _⟩) h1
    · exact h.tr.apart b hb h1
    · have := h.lt1 b h1
      have hb : w.heap.size ≤ b := hb
      omega
  refine ⟨⟨(h.tr.widen (fun b hb => .inl hb) (fun b hb => hb) hap).app (A := Upto (FW.A ⟨w, F0⟩) w') (.inl ⟨rfl, ?_⟩) (still_ops hg.ev 0 fn pos), ?_, fun b hb => Nat.lt_of_lt_of_le (h.lt1 b hb) hg.size⟩, ?_, ⟨rfl, hg.size, fun b hb hl => hg.keep b (fun e => h.tr.apart b e hb) hl⟩⟩
  · rintro b ⟨hb | hb, hl⟩
    · exact .inl hb
    · exact .inr ⟨hb, hl⟩
  · rintro b (hb | ⟨_, hb⟩)
    · exact Nat.lt_of_lt_of_le (h.lt0 b hb) hg.size
    · exact hb
  · refine ⟨hg.aside, hg.size, fun b hb h0 _ => hg.keep b h0 hb, ?_, fun b => .inl, fun b hb => .inl hb, fun b hb => hb⟩
    rintro b (hb | ⟨hb, _⟩)
    · exact .inl hb
    · exact .inr hb

theorem Ph.step1 {t : Trace} {p : Nat} {w w' : World} {F0 F1 : Nat → Prop} {es : Array Event} (h : Ph t p w F0 F1) (hg : Guar ⟨w, F1⟩ w' es) (fn : FuncId) (pos : String) :
    Ph (t ++ MemOp.ofEvents 1 fn pos es) p w' F0 ((⟨w, F1⟩ : FW).next w').F ∧ Grown w F0 F1 w' F0 ((⟨w, F1⟩ : FW).next w').F ∧ Rely ⟨w, F0⟩ ⟨w', F0⟩ := by
  have hap : ∀ b, F0 b → ((⟨w, F1⟩ : FW).next w').F b → False := by
    rintro b h1 (hb | ⟨hb, _⟩)
    · exact h.tr.apart b h1 hb
    · have := h.lt0 b h1
      have hb : w.heap.size ≤ b := hb
      omega
  refine ⟨⟨(h.tr.widen (fun b hb => hb) (fun b hb => .inl hb) hap).app (A := Upto (FW.A ⟨w, F1⟩) w') (.inr ⟨rfl, ?_⟩) (still_ops hg.ev 1 fn pos), fun b hb => Nat.lt_of_lt_of_le (h.lt0 b hb) hg.size, ?_⟩, ?_, ⟨rfl, hg.size, fun b hb hl => hg.keep b (fun e => h.tr.apart b hb e) hl⟩⟩
  · rintro b ⟨hb | hb, hl⟩
    · exact .inl hb
    · exact .inr ⟨hb, hl⟩
  · rintro b (hb | ⟨_, hb⟩)
    · exact Nat.lt_of_lt_of_le (h.lt1 b hb) hg.size
    · exact hb
  · refine ⟨hg.aside, hg.size, fun b hb _ h1 => hg.keep b h1 hb, fun b => .inl, ?_, fun b hb => hb, fun b hb => .inl hb⟩
    rintro b (hb | ⟨hb, _⟩)
    · exact .inl hb
    · exact .inr hb

theorem ofEvents_nil {g : Nat} {fn : FuncId} {pos : String} : MemOp.ofEvents g fn pos #[] = #[] := rfl

theorem woken_running {P : Program} {g g' : Goroutine} {w' : World} {o : Goroutine} (h : o.status = .running) : woken P g g' w' o = o := by
  unfold woken
  split
  · unfold Goroutine.again
    rw [h]
  · rfl

section
variable {P : Program} {c n : Nat} {D : Bool} {K0 K1 : Goroutine → Value → FW → Prop}

theorem stage_woken0 {r : Nat} {g g' a : Goroutine} {w' : World} {x : FW} (h : Stage P true (cs0 D c) (sh0 D) K0 r a x) (hc : w'.heap[c]? = some (.chan 0 #[] false n n false)) : woken P g g' w' a = a := by
  cases h with
  | run h => exact woken_running (h.running fun _ _ h => h.1)
  | wait h =>
    unfold woken
    split
    · exact (meets P D c _ undef _ undef).again0 hc
    · rfl

theorem stage_woken1 {r : Nat} {g g' a : Goroutine} {w' : World} {x : FW} (h : Stage P false (cs1 D c) (sh1 D) K1 r a x) (hc : w'.heap[c]? = some (.chan 0 #[] false n n false)) : woken P g g' w' a = a := by
  cases h with
  | run h => exact woken_running (h.running fun _ _ h => h.1)
  | wait h =>
    unfold woken
    split
    · exact (meets P D c undef _ undef _).again1 hc
    · rfl

variable (c n D K0 K1) in
/-- They have met. -/
def Met (F0 F1 : Nat → Prop) (w : World) (m' : Machine) (t' : Trace) : Prop :=
  ∃ a b v0 v1 w1 sl G0 G1, m' = duo (Go.Conc.served a (got0 D (said D v0 v1))) (Go.Conc.served b (got1 D (said D v0 v1))) (w1.passed c n n false) sl ∧ Grown w F0 F1 w1 G0 G1 ∧
    K0 a v0 ⟨w1, G0⟩ ∧ K1 b v1 ⟨w1, G1⟩ ∧ w1.heap[c]? = some (.chan 0 #[] false n n false) ∧ (∀ b, G0 b → b < w1.heap.size) ∧ (∀ b, G1 b → b < w1.heap.size) ∧ (∀ b, G0 b → G1 b → False) ∧
    ∀ (I0 I1 : Nat → Prop), (∀ b, I0 b → I1 b → False) → Tr t' t'.size I0 I1

theorem Met.of_grown {F0 F1 H0 H1 : Nat → Prop} {w w2 : World} {m' : Machine} {t' : Trace} (hg : Grown w F0 F1 w2 H0 H1) (h : Met c n D K0 K1 H0 H1 w2 m' t') : Met c n D K0 K1 F0 F1 w m' t' := by
  obtain ⟨a, b, v0, v1, w1, sl, G0, G1, e, g, h⟩ := h
  exact ⟨a, b, v0, v1, w1, sl, G0, G1, e, hg.trans g, h⟩

/-- ONE PHASE: they meet. -/
theorem phase : ∀ (N r0 r1 : Nat) (a b : Goroutine) (w : World) (sl : Option (Nat × Nat)) (t : Trace) (p : Nat) (F0 F1 : Nat → Prop), r0 + r1 ≤ N → 0 < r0 + r1 →
    Stage P true (cs0 D c) (sh0 D) K0 r0 a ⟨w, F0⟩ → Stage P false (cs1 D c) (sh1 D) K1 r1 b ⟨w, F1⟩ → Ph t p w F0 F1 → ¬ F0 c → ¬ F1 c → w.heap[c]? = some (.chan 0 #[] false n n false) →
    ∃ k m' t', runNT P k (duo a b w sl) t = (.next m', t') ∧ Met c n D K0 K1 F0 F1 w m' t' := by
  intro N
  induction N with
  | zero => intro r0 r1 a b w sl t p F0 F1 h1 h; omega
  | succ N ih =>
    intro r0 r1 a b w sl t p F0 F1 hN hpos h0 h1 hP c0 c1 hc
    have some1 : a.status = .running ∨ b.status = .running := by
      rcases h0.status with ⟨_, _, e⟩ | ⟨e0, _⟩
      · exact .inl e
      · rcases h1.status with ⟨_, _, e⟩ | ⟨e1, _⟩
        · exact .inr e
        · omega
    have hcl : c < w.heap.size := obj_lt hc
    have hat : ∀ d, (w.at d).heap[c]? = some (.chan 0 #[] false n n false) := fun _ => hc
    have hPat : ∀ d, Ph t p (w.at d) F0 F1 := fun d => ⟨hP.tr, hP.lt0, hP.lt1⟩
    have hGat : ∀ d, Grown w F0 F1 (w.at d) F0 F1 := fun d => ⟨Aside.of_heap rfl rfl rfl, Nat.le_refl _, fun _ _ _ _ => rfl, fun _ => .inl, fun _ => .inl, fun _ => id, fun _ => id⟩
    obtain ⟨d, sl', hmv⟩ := duo_pick (P := P) (sl := sl) (w := w) h0.awake h1.awake some1
    have h0' := h0.rely (rely_at w F0 d)
    have h1' := h1.rely (rely_at w F1 d)
    rcases hmv with ⟨hra, hst⟩ | ⟨hrb, hst⟩
    · -- goroutine 0 moves
      cases h0' with
      | wait _ => cases hra
      | @run m _ _ hgo =>
        have offer : AtOff P true (cs0 D c) (sh0 D) K0 a ⟨w.at d, F0⟩ → ∃ k m' t', runNT P k (duo a b w sl) t = (.next m', t') ∧ Met c n D K0 K1 F0 F1 w m' t' := by
          rintro ⟨_, a2, v, z, hs, hK⟩
          cases h1' with
          | @run m1 _ _ hgo1 =>
            have hrun := (meets P D c v undef z undef).wait0 (b := b) (sl := sl') hs (hat d) (by rw [hgo1.running fun _ _ h => h.1]; simp)
            obtain ⟨k, m', t', hk, hm⟩ := ih 0 (m1 + 1) (parked a2 (cs0 D c v z) (sh0 D)) b (w.at d) sl' t p F0 F1 (by omega) (by omega) (.wait hK) (.run hgo1) (hPat d) c0 c1 (hat d)
            refine ⟨k + 1, m', t', ?_, hm.of_grown (hGat d)⟩
            rw [runNT_succ_next (hst.trans hrun), ofEvents_nil, Array.append_empty]
            exact hk
          | @wait b2 v1 z1 _ hK1 =>
            obtain ⟨fs, fr, ps, pr, hrun⟩ := (meets P D c v v1 z z1).meet0 (b₂ := b2) (sl := sl') hs (hat d)
            refine ⟨1, _, t ++ meet4 (snd D) (rcv D) c n fs fr ps pr, by rw [runNT_succ_next (hst.trans hrun), ofEvents_nil, Array.empty_append]; rfl, a2, b2, v, v1, w.at d, sl', F0, F1, rfl, hGat d, hK _ (Rely.refl _), hK1 _ (Rely.refl _), hat d, hP.lt0, hP.lt1, hP.tr.apart, fun I0 I1 hI => hP.tr.meet (meets P D c v v1 z z1).roles hI⟩
        have step : ∀ m2, m = m2 + 1 → (stepG P true a (w.at d)).goes (fun g' w' es => Guar ⟨w.at d, F0⟩ w' es ∧ GoF P true (AtOff P true (cs0 D c) (sh0 D) K0) m2 g' ((⟨w.at d, F0⟩ : FW).next w')) → ∃ k m' t', runNT P k (duo a b w sl) t = (.next m', t') ∧ Met c n D K0 K1 F0 F1 w m' t' := by
          intro m2 hm2 hgoes
          obtain ⟨a', w', es, hs, hG, hgo'⟩ := goes_elim hgoes
          have hc' : w'.heap[c]? = some (.chan 0 #[] false n n false) := (hG.keep c c0 hcl).trans hc
          have hrun := runT_duo0 (b := b) (sl := sl') hs
          rw [stage_woken1 h1' hc'] at hrun
          obtain ⟨hP', hGr, hR⟩ := (hPat d).step0 hG a.frame.fn a.frame.place
          obtain ⟨k, m', t', hk, hm⟩ := ih (m2 + 1) r1 a' b w' sl' _ p _ F1 (by omega) (by omega) (.run hgo') (h1'.rely hR) hP' (fun e => e.elim c0 fun e => by
            have e1 : (w.at d).heap.size ≤ c := e.1
            have e2 : (w.at d).heap.size = w.heap.size := rfl
            omega) c1 hc'
          refine ⟨k + 1, m', t', ?_, (hm.of_grown hGr).of_grown (hGat d)⟩
          rw [runNT_succ_next (hst.trans hrun)]
          exact hk
        cases m with
        | zero => exact offer (hgo _ (Rely.refl _))
        | succ m =>
          rcases hgo with hgo | ⟨_, hgo⟩
          · exact offer (hgo _ (Rely.refl _))
          · exact step m rfl (hgo _ (Rely.refl _))
    · -- goroutine 1 moves
      cases h1' with
      | wait _ => cases hrb
      | @run m _ _ hgo =>
        have offer : AtOff P false (cs1 D c) (sh1 D) K1 b ⟨w.at d, F1⟩ → ∃ k m' t', runNT P k (duo a b w sl) t = (.next m', t') ∧ Met c n D K0 K1 F0 F1 w m' t' := by
          rintro ⟨_, b2, v, z, hs, hK⟩
          cases h0' with
          | @run m0 _ _ hgo0 =>
            have hrun := (meets P D c undef v undef z).wait1 (a := a) (sl := sl') hs (hat d) (by rw [hgo0.running fun _ _ h => h.1]; simp)
            obtain ⟨k, m', t', hk, hm⟩ := ih (m0 + 1) 0 a (parked b2 (cs1 D c v z) (sh1 D)) (w.at d) sl' t p F0 F1 (by omega) (by omega) (.run hgo0) (.wait hK) (hPat d) c0 c1 (hat d)
            refine ⟨k + 1, m', t', ?_, hm.of_grown (hGat d)⟩
            rw [runNT_succ_next (hst.trans hrun), ofEvents_nil, Array.append_empty]
            exact hk
          | @wait a2 v0 z0 _ hK0 =>
            obtain ⟨fs, fr, ps, pr, hrun⟩ := (meets P D c v0 v z0 z).meet1 (a₂ := a2) (sl := sl') hs (hat d)
            refine ⟨1, _, t ++ meet4 (snd D) (rcv D) c n fs fr ps pr, by rw [runNT_succ_next (hst.trans hrun), ofEvents_nil, Array.empty_append]; rfl, a2, b2, v0, v, w.at d, sl', F0, F1, rfl, hGat d, hK0 _ (Rely.refl _), hK _ (Rely.refl _), hat d, hP.lt0, hP.lt1, hP.tr.apart, fun I0 I1 hI => hP.tr.meet (meets P D c v0 v z0 z).roles hI⟩
        have step : ∀ m2, m = m2 + 1 → (stepG P false b (w.at d)).goes (fun g' w' es => Guar ⟨w.at d, F1⟩ w' es ∧ GoF P false (AtOff P false (cs1 D c) (sh1 D) K1) m2 g' ((⟨w.at d, F1⟩ : FW).next w')) → ∃ k m' t', runNT P k (duo a b w sl) t = (.next m', t') ∧ Met c n D K0 K1 F0 F1 w m' t' := by
          intro m2 hm2 hgoes
          obtain ⟨b', w', es, hs, hG, hgo'⟩ := goes_elim hgoes
          have hc' : w'.heap[c]? = some (.chan 0 #[] false n n false) := (hG.keep c c1 hcl).trans hc
          have hrun := runT_duo1 (a := a) (sl := sl') hs
          rw [stage_woken0 h0' hc'] at hrun
          obtain ⟨hP', hGr, hR⟩ := (hPat d).step1 hG b.frame.fn b.frame.place
          obtain ⟨k, m', t', hk, hm⟩ := ih r0 (m2 + 1) a b' w' sl' _ p F0 _ (by omega) (by omega) (h0'.rely hR) (.run hgo') hP' c0 (fun e => e.elim c1 fun e => by
            have e1 : (w.at d).heap.size ≤ c := e.1
            have e2 : (w.at d).heap.size = w.heap.size := rfl
            omega) hc'
          refine ⟨k + 1, m', t', ?_, (hm.of_grown hGr).of_grown (hGat d)⟩
          rw [runNT_succ_next (hst.trans hrun)]
          exact hk
        cases m with
        | zero => exact offer (hgo _ (Rely.refl _))
        | succ m =>
          rcases hgo with hgo | ⟨_, hgo⟩
          · exact offer (hgo _ (Rely.refl _))
          · exact step m rfl (hgo _ (Rely.refl _))

end
end Go.Ab

