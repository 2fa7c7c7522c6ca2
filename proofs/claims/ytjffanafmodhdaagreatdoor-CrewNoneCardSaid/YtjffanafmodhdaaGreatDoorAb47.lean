/- Own text of this claim: part Ab47. -/
import Derived.Test.YtjffanafmodhdaaGreatDoorAb44
import Derived.Conc.WgGenLone
set_option linter.unusedVariables false
set_option linter.unusedSimpArgs false
set_option linter.unusedSectionVars false
set_option linter.unnecessarySimpa false
/-
  Own library, part 47: one goroutine alone, from the call's entry to its go statement; Add in between.
-/
set_option linter.unusedSectionVars false
namespace Go.Ab
open Go.Conc Go.Conc.Lib

/-- Goroutine 0's own words alone. -/
def Lone (u : Trace) (d : Nat) : Prop := (∀ op ∈ u, op.g = 0) ∧ Deaf u 0 = d

theorem Lone.nil : Lone #[] 0 := ⟨by simp, rfl⟩

theorem Lone.still {u v : Trace} {d : Nat} (h : Lone u d) (hv : ∀ op ∈ v, op.g = 0 ∧ op.act ≠ .mark .disable ∧ op.act ≠ .mark .enable) : Lone (u ++ v) d :=
  ⟨fun op ho => (Array.mem_append.1 ho).elim (h.1 op) fun x => (hv op x).1, by rw [deaf_still u 0 v fun op x => (hv op x).2]; exact h.2⟩

section
variable {P : Program} {W0 : World} {I : Nat → Prop}

/-- ALONE: to its stop. -/
theorem solo_gof {Stop : Goroutine → FW → Prop} : ∀ {n : Nat} {g : Goroutine} {w : World} {F : Nat → Prop}, GoF P true Stop n g ⟨w, F⟩ → Since W0 I w → Foot W0 I F →
    ∃ k g' w' F' u, (∀ t, runNT P k (solo g w) t = (.next (solo g' w'), t ++ u)) ∧ Stop g' ⟨w', F'⟩ ∧ Since W0 I w' ∧ Foot W0 I F' ∧ w.heap.size ≤ w'.heap.size ∧ (∀ b, b < w.heap.size → ¬ F b → w'.heap[b]? = w.heap[b]?) ∧ (∀ b, F' b → F b ∨ w.heap.size ≤ b) ∧
      ∀ op ∈ u, op.g = 0 ∧ op.act ≠ .mark .disable ∧ op.act ≠ .mark .enable := by
  intro n
  induction n with
  | zero => exact fun {g w F} h hS hF => ⟨0, g, w, F, #[], fun t => by simp [runNT], h _ (Rely.refl _), hS, hF, Nat.le_refl _, fun _ _ _ => rfl, fun _ => .inl, by intro op hop; simp at hop⟩
  | succ n ih =>
    intro g w F h hS hF
    rcases h with h | ⟨hs, h⟩
    · exact ⟨0, g, w, F, #[], fun t => by simp [runNT], h _ (Rely.refl _), hS, hF, Nat.le_refl _, fun _ _ _ => rfl, fun _ => .inl, by intro op hop; simp at hop⟩
    · obtain ⟨g₁, w₁, es, hgo, hG, hg⟩ := goes_elim (h _ (Rely.refl _))
      obtain ⟨hS1, hF1⟩ := Since.guar (y := ⟨w, F⟩) hS hG hF
      obtain ⟨k, g', w', F', u, hrun, hstop, hS', hF', hsz, hkeep, hnew, hu⟩ := ih hg hS1 hF1
      have hsz1 : w.heap.size ≤ w₁.heap.size := hG.size
      refine ⟨k + 1, g', w', F', MemOp.ofEvents 0 g.frame.fn g.frame.place es ++ u, fun t => ?_, hstop, hS', hF', Nat.le_trans hsz1 hsz, fun b hb hFb => ?_, fun b hb => ?_, fun op hop => ?_⟩
      · rw [runNT_succ_next ((stepT_solo hs).trans (runT_solo_go hgo)), hrun, Array.append_assoc]
      · have nF : ¬ (FW.next ⟨w, F⟩ w₁).F b := by
          rintro (h | ⟨h, _⟩)
          · exact hFb h
          · have h : w.heap.size ≤ b := h
            omega
        exact (hkeep b (Nat.lt_of_lt_of_le hb hsz1) nF).trans (hG.keep b hFb hb)
      · rcases hnew b hb with (h | ⟨h, _⟩) | h
        · exact .inl h
        · exact .inr h
        · exact .inr (Nat.le_trans hsz1 h)
      · rcases Array.mem_append.1 hop with h' | h'
        · have := still_ops hG.ev 0 g.frame.fn g.frame.place op h'
          exact ⟨this.1, this.2.2⟩
        · exact hu op h'

/-- What is known of the new names. -/
structure Grew (P : Program) (ρ : Map) (s : St) (n : Nat) (ρ' : Map) (s' : St) : Prop where
  names : Names ρ s.next ρ' s'.next
  live : ∀ id l, (s'.get id).isSome → ρ' id = some l → n ≤ l.b ∨ ∃ j m, (s.get j).isSome ∧ ρ j = some m ∧ m.b = l.b

/-- ALONE, by the evaluator. -/
theorem solo_adv {a a' : AG} {s s' : St} (hadv : AdvSem P true a s a' s') {ρ : Map} {bs : List Frame} {g : Goroutine} {w : World} {F : Nat → Prop} (hg : GRel ρ a bs g) (hR : Rel (FW.A ⟨w, F⟩) P ρ s w.heap) (htop : ∀ id, s.next ≤ id → ρ id = none) (hS : Since W0 I w) (hF : Foot W0 I F) :
    ∃ k g' w' F' u ρ', (∀ t, runNT P k (solo g w) t = (.next (solo g' w'), t ++ u)) ∧ Grew P ρ s w.heap.size ρ' s' ∧ Rel (FW.A ⟨w', F'⟩) P ρ' s' w'.heap ∧ GRel ρ' a' bs g' ∧ (∀ id, s'.next ≤ id → ρ' id = none) ∧ Since W0 I w' ∧ Foot W0 I F' ∧ w.heap.size ≤ w'.heap.size ∧
      (∀ b, b < w.heap.size → ¬ F b → w'.heap[b]? = w.heap[b]?) ∧ (∀ b, F' b → F b ∨ w.heap.size ≤ b) ∧ ∀ op ∈ u, op.g = 0 ∧ op.act ≠ .mark .disable ∧ op.act ≠ .mark .enable := by
  obtain ⟨_, N, h⟩ := hadv
  have hgo := h ρ ⟨w, F⟩ bs g (fun g y => ∃ ρ', Grew P ρ s w.heap.size ρ' s' ∧ Rel y.A P ρ' s' y.heap ∧ GRel ρ' a' bs g ∧ ∀ id, s'.next ≤ id → ρ' id = none) 0 hg hR (fun id h1 _ => htop id h1) fun ρ' x' g' S hg' => GoF.stop fun y hy =>
    ⟨ρ', ⟨Names.of S, S.live⟩, S.rel.rely hy, hg', fun id hi => by rw [S.old id (.inr hi)]; exact htop id (Nat.le_trans S.next hi)⟩
  obtain ⟨k, g', w', F', u, h1, ⟨ρ', h2, h3, h4, h5⟩, h6⟩ := solo_gof hgo hS hF
  exact ⟨k, g', w', F', u, ρ', h1, h2, h3, h4, h5, h6⟩

/-- The WaitGroup's block is made: its name is not kept in the abstract heap. -/
theorem solo_alloc {ρ : Map} {a a' : AFr} {cs : List AFr} {bs : List Frame} {s : St} {g : Goroutine} {w : World} {F : Nat → Prop} {o : Oper} {ops : Array Oper} {i : Nat} {rest : List Nat} {k : List Item} {t : TypeId} {ty : ATy} (hop : opAt a = some (o, ops, i, rest, k)) (ho : o.op = .alloc t)
    (hty : tyOf P t = some ty) (hz : ty.zero = some (.agg [.int .u64 0, .int .u32 0])) (hput : opPut a (.ptr s.next 0) = some a')
    (hg : GRel ρ { top := a, cs } bs g) (hR : Rel (FW.A ⟨w, F⟩) P ρ s w.heap) (htop : ∀ id, s.next ≤ id → ρ id = none) (hS : Since W0 I w) (hF : Foot W0 I F) :
    ∃ g' w' u l, (∀ t, runNT P 1 (solo g w) t = (.next (solo g' w'), t ++ u)) ∧ l.b = w.heap.size ∧ l.o = 0 ∧ Rel (FW.A ⟨w', Blocks ρ s fun _ => true⟩) P (ρ.add s.next l) { s with next := s.next + 1 } w'.heap ∧ GRel (ρ.add s.next l) { top := a', cs } bs g' ∧ (∀ id, s.next + 1 ≤ id → ρ.add s.next l id = none) ∧
      Since W0 I w' ∧ Foot W0 I (Blocks ρ s fun _ => true) ∧ w.heap.size < w'.heap.size ∧ Go.ConcX.WgAt t l.b w' 0 0 ∧ ∀ op ∈ u, op.g = 0 ∧ op.act ≠ .mark .disable ∧ op.act ≠ .mark .enable := by
  obtain ⟨tmps, defers, fs, rfl, h4, h5, h6, hst⟩ := op_frame (P := P) hop hg
  obtain ⟨z, hz1, hz2⟩ := zero_of hty hz
  have hfr : ρ s.next = none := htop _ (Nat.le_refl _)
  have hzc : z.cells = #[.int .u64 0, .int .u32 0] := by
    have h := (ofValue_V ρ hz1).cells
    apply Array.toList_inj.1
    generalize z.cells.toList = l at h
    cases h with
    | cons h1 h => cases h with
      | cons h2 h => cases h; cases h1; cases h2; rfl
  obtain ⟨es, hex, hev⟩ : ∃ es, stepG P true (G (mk a.fn none (kindOf a.nrm) tmps defers .run (.inRegion ops (i :: rest) :: k)) (fs ++ bs)) w = .go (Go.Conc.served (G (mk a.fn none (kindOf a.nrm) tmps defers .run (.inRegion ops (i :: rest) :: k)) (fs ++ bs)) (.pointer (some ⟨w.heap.size, 0, none⟩))) { w with heap := w.heap.push (.cells #[.int .u64 0, .int .u32 0] t) } es ∧ EvAll (fun _ => False) { w with heap := w.heap.push (.cells #[.int .u64 0, .int .u32 0] t) } es := by
    have hrun : (execOp ({ tmps, defers } : Act).eval o).runL (fun _ => False) P w = .ok (.value (.pointer (some ⟨w.heap.size, 0, none⟩))) { w with heap := w.heap.push (.cells #[.int .u64 0, .int .u32 0] t) } := by
      obtain ⟨z', hz3, hz4⟩ := (tyOf_ok hty).run_zero (A := fun _ => False) w hz
      have hzz : z' = z := by
        have h1 := runL_run hz3
        rw [hz2 w] at h1
        cases h1
        rfl
      unfold execOp
      rw [ho]
      simp only [Instr.alloc, newVar, newRow, newObj, runL_bind, hz3, Result.andThen_ok, hzz, hzc, runL_pure]
      rfl
    obtain ⟨es, e1, he⟩ := ap_value (fr := mk a.fn none (kindOf a.nrm) tmps defers .run (.inRegion ops (i :: rest) :: k)) (cs := fs ++ bs) hrun
    exact ⟨es, (hst true w).trans e1, he⟩
  have hsz : ({ w with heap := w.heap.push (.cells #[.int .u64 0, .int .u32 0] t) } : World).heap.size = w.heap.size + 1 := by simp
  have hkeep : ∀ b, b < w.heap.size → ({ w with heap := w.heap.push (.cells #[.int .u64 0, .int .u32 0] t) } : World).heap[b]? = w.heap[b]? := fun b hb => by
    show (w.heap.push _)[b]? = _
    rw [Array.getElem?_push, if_neg (by omega)]
  refine ⟨Go.Conc.served (G (mk a.fn none (kindOf a.nrm) tmps defers .run (.inRegion ops (i :: rest) :: k)) (fs ++ bs)) (.pointer (some ⟨w.heap.size, 0, none⟩)), { w with heap := w.heap.push (.cells #[.int .u64 0, .int .u32 0] t) }, MemOp.ofEvents 0 (mk a.fn none (kindOf a.nrm) tmps defers .run (.inRegion ops (i :: rest) :: k)).fn (mk a.fn none (kindOf a.nrm) tmps defers .run (.inRegion ops (i :: rest) :: k)).place es, ⟨w.heap.size, 0, 2⟩, fun t' => ?_, rfl, rfl, ?_, ?_, fun id hi => ?_, ?_, ?_, by rw [hsz]; omega, ?_, fun op hop => ?_⟩
  · rw [runNT_succ_next ((stepT_solo rfl).trans (runT_solo_go hex))]
    rfl
  · refine ⟨fun id o' hg' => ?_, fun i' j l m hi hj hl hm e => ?_, fun g hg' => ?_, fun id l hl => ?_, fun id l hi hl => ?_, fun b hb => .inr hb⟩
    · obtain ⟨l, hl, hat⟩ := hR.obj id o' hg'
      have hlt := (hR.low id l hl).1
      exact ⟨l, Map.le_add hfr _ _ hl, (hat.mono (Map.le_add hfr)).block (hkeep _ hlt)⟩
    · have ho1 : ∀ i l, (s.get i).isSome → (ρ.add s.next ⟨w.heap.size, 0, 2⟩) i = some l → ρ i = some l := fun i l hi hl => by
        obtain ⟨o', ho'⟩ := Option.isSome_iff_exists.1 hi
        obtain ⟨l', hl', _⟩ := hR.obj i o' ho'
        have := Map.le_add (l := ⟨w.heap.size, 0, 2⟩) hfr _ _ hl'
        rw [hl] at this
        cases this
        exact hl'
      exact hR.inj i' j l m hi hj (ho1 i' l hi hl) (ho1 j m hj hm) e
    · obtain ⟨l, hl, h⟩ := hR.glob g hg'
      exact ⟨l, Map.le_add hfr _ _ hl, h⟩
    · unfold Map.add at hl
      split at hl
      · cases hl; exact ⟨by rw [hsz]; exact Nat.lt_succ_self _, rfl⟩
      · have := hR.low id l hl
        exact ⟨by rw [hsz]; omega, this.2⟩
    · have hi : (s.get id).isSome := hi
      obtain ⟨o', ho'⟩ := Option.isSome_iff_exists.1 hi
      obtain ⟨l', hl', _⟩ := hR.obj id o' ho'
      have := Map.le_add (l := ⟨w.heap.size, 0, 2⟩) hfr _ _ hl'
      rw [hl] at this
      cases this
      exact .inl ⟨id, l, rfl, hi, hl', rfl⟩
  · have hg1 : GRel (ρ.add s.next ⟨w.heap.size, 0, 2⟩) { top := a, cs } bs (G (mk a.fn none (kindOf a.nrm) tmps defers .run (.inRegion ops (i :: rest) :: k)) (fs ++ bs)) := hg.mono (Map.le_add hfr)
    refine op_done hop hg1 hput ?_
    have := V.ptr (ρ := ρ.add s.next ⟨w.heap.size, 0, 2⟩) (off := 0) (add_self ρ s.next ⟨w.heap.size, 0, 2⟩)
    simpa using this
  · unfold Map.add
    rw [if_neg (by omega)]
    exact htop id (by omega)
  · exact hS.fresh rfl rfl (by rw [hsz]; omega) fun b hb => hkeep b (Nat.lt_of_lt_of_le hb hS.size)
  · exact fun b hb h => hF b hb (blocks_in (p := fun _ => true) hR h).1
  · show (w.heap.push _)[w.heap.size]? = _
    rw [Array.getElem?_push, if_pos rfl]
    rfl
  · have := still_ops hev 0 _ _ op hop
    exact ⟨this.1, this.2.2⟩

variable {L : WgLink}

theorem fillAdd (x y : Value) : (#[x, y] ++ Array.replicate 115 undef : Array Value) = #[x, y, undef, undef, undef, undef, undef, undef, undef, undef, undef, undef, undef, undef, undef, undef, undef, undef, undef, undef, undef, undef, undef, undef, undef, undef, undef, undef, undef, undef, undef, undef, undef, undef, undef, undef, undef, undef, undef, undef, undef, undef, undef, undef, undef, undef, undef, undef, undef, undef, undef, undef, undef, undef, undef, undef, undef, undef, undef, undef, undef, undef, undef, undef, undef, undef, undef, undef, undef, undef, undef, undef, undef, undef, undef, undef, undef, undef, undef, undef, undef, undef, undef, undef, undef, undef, undef, undef, undef, undef, undef, undef, undef, undef, undef, undef, undef, undef, undef, undef, undef, undef, undef, undef, undef, undef, undef, undef, undef, undef, undef, undef, undef, undef, undef, undef, undef] := by
  apply Array.toList_inj.1
  simp only [Array.toList_append, Array.toList_replicate, List.replicate, List.cons_append, List.nil_append]

theorem enter_add (H : WgLib P L) (Wg : Nat) : Frame.enter P L.add #[.pointer (some ⟨Wg, 0, none⟩), .int .i64 1] .normal = (base L.add).at ⟨#[.pointer (some ⟨Wg, 0, none⟩), .int .i64 1, undef, undef, undef, undef, undef, undef, undef, undef, undef, undef, undef, undef, undef, undef, undef, undef, undef, undef, undef, undef, undef, undef, undef, undef, undef, undef, undef, undef, undef, undef, undef, undef, undef, undef, undef, undef, undef, undef, undef, undef, undef, undef, undef, undef, undef, undef, undef, undef, undef, undef, undef, undef, undef, undef, undef, undef, undef, undef, undef, undef, undef, undef, undef, undef, undef, undef, undef, undef, undef, undef, undef, undef, undef, undef, undef, undef, undef, undef, undef, undef, undef, undef, undef, undef, undef, undef, undef, undef, undef, undef, undef, undef, undef, undef, undef, undef, undef, undef, undef, undef, undef, undef, undef, undef, undef, undef, undef, undef, undef, undef, undef, undef, undef, undef, undef], []⟩ [.code (Go.ConcR.Gen.body_add L)] := by
  have hn : (addFn L).ntmps = 117 := rfl
  have hb : (addFn L).body = some (Go.ConcR.Gen.body_add L) := rfl
  simp only [Frame.enter, H.f_add, Option.map_some, Option.getD_some, Option.bind_some, hn, hb, List.size_toArray, List.length_cons, List.length_nil, Nat.reduceAdd, Nat.reduceSub, fillAdd]
  simp only [Frame.at, base]

end
end Go.Ab

/-
  Own library, part 48: Add, alone; the go statement; the first meeting.
-/
set_option linter.unusedSectionVars false
namespace Go.Ab
open Go.Conc Go.Conc.Lib

section
variable {P : Program} {L : WgLink}

theorem evs_ops {Wg C : Nat} {u : Trace} (h : ∀ op ∈ u, op.g = 0 ∧ ∃ e, Go.ConcR.EvS Wg C e ∧ op.act = .ofEvent e) : ∀ op ∈ u, op.g = 0 ∧ op.act ≠ .mark .disable ∧ op.act ≠ .mark .enable := by
  intro op hop
  obtain ⟨h1, e, h2, h3⟩ := h op hop
  exact ⟨h1, by rw [h3]; exact h2.2.2.2.1, by rw [h3]; exact h2.2.2.2.2⟩

theorem mark_ops {fn : FuncId} {pos : String} {m : Mark} : MemOp.ofEvents 0 fn pos #[Go.ConcR.mk m] = #[{ g := 0, fn, pos, act := .mark m }] := by
  rw [ofEvents_eq]
  simp [Go.ConcR.mk, MemAct.ofEvent]

/-- Add(1), alone. -/
theorem solo_add (H : WgLib P L) (Cg : Good P) {ρ : Map} {n0 : Nat} (hB : Based P ρ n0) {a a' : AFr} {cs : List AFr} {bs : List Frame} {g : Goroutine} {w : World} {wg : Nat} {l : Pl} (hg : GRel ρ { top := a, cs } bs g) (hc : callO P L.add a = some [.ptr wg 0, .int .i64 1]) (hput : opPut a undefA = some a')
    (hl : ρ wg = some l) (hlo : l.o = 0) (hW : Go.ConcX.WgAt L.tWg l.b w 0 0) :
    ∃ k g' u, (∀ t, runNT P k (solo g w) t = (.next (solo g' (w.setCell (Go.ConcX.stA l.b) (.int .u64 Go.ConcX.KK))), t ++ u)) ∧ GRel ρ { top := a', cs } bs g' ∧ ∀ t, Lone t 0 → Lone (t ++ u) 0 := by
  unfold callO at hc
  obtain ⟨⟨o, ops, i, rest, k⟩, hop, hc⟩ := bind_some hc
  simp only at hc
  split at hc
  · rename_i cl ho
    split at hc
    · rename_i f hfv
      split at hc
      · rename_i gf hev
        obtain ⟨hgb, hargs⟩ := bif_some hc
        have hge := of_beqT hgb
        rw [← hge] at hev
        obtain ⟨f0, fs, args', e1, hfs, hva, hst⟩ := call_at Cg hB hop hg ho hfv hev hargs H.f_add (body := Go.ConcR.Gen.body_add L) rfl
        obtain ⟨tmps, defers, fs2, e2, h4, h5, h6, _⟩ := op_frame (P := P) hop hg
        have hdone := op_done hop hg (v := .tuple #[]) hput (.tuple .nil)
        obtain ⟨es, hs1, hes1⟩ := hst true w
        have eargs : args' = #[.pointer (some ⟨l.b, 0, none⟩), .int .i64 1] := by
          apply Array.toList_inj.1
          generalize args'.toList = ys at hva
          cases hva with
          | cons hv hs =>
            cases hs with
            | cons hv2 hs2 =>
              cases hs2
              cases hv2
              cases hv with
              | @ptr _ _ l' hl' =>
                rw [hl] at hl'
                cases hl'
                rw [hlo]
        have e3 : f0 :: (fs ++ bs) = Frame.at (mk a.fn none (kindOf a.nrm) #[] [] .run []) ⟨tmps, defers⟩ (.inRegion ops (i :: rest) :: k) :: (fs2 ++ bs) := by
          have := e1.symm.trans e2
          simp only [G, Goroutine.mk.injEq] at this
          rw [this.1, this.2.1]
          rfl
        rw [eargs, enter_add H, e3] at hs1
        have hrun : g.status = .running := by rw [e1]; rfl
        -- the kit's walk
        have hwalk := Go.ConcR.Gen.addPos (L := L) (Wg := l.b) (C := l.b) (b₀ := mk a.fn none (kindOf a.nrm) #[] [] .run []) (a₀ := ⟨tmps, defers⟩) (ops₀ := ops) (i₀ := i) (rest₀ := rest) (k₀ := k) (cs := fs2 ++ bs) (mT := 0)
          (StopG := fun g' w' => g' = Go.Conc.served g (.tuple #[]) ∧ w' = w.setCell (Go.ConcX.stA l.b) (.int .u64 Go.ConcX.KK)) H w hW (by
            rintro w₁ rfl
            refine ⟨?_, rfl⟩
            rw [e2]
            show _ = G ((mk a.fn none (kindOf a.nrm) tmps defers .run (.inRegion ops (i :: rest) :: k)).finish (.tuple #[])) (fs2 ++ bs)
            rw [finish_opC]
            cases ((ops[i]?).bind (·.dst)) <;> rfl)
        obtain ⟨k0, a0, w0, u0, r0, ⟨s0, a0', g0, n1, h1⟩, o0⟩ := solo_goesE #[] hwalk
        have st0 := (stepT_solo (P := P) (w := w0) s0).trans (runT_solo_go g0)
        obtain ⟨k1, a1, w1, u1, r1, ⟨s1, a1', g1, n2, h2⟩, o1⟩ := solo_goesE #[] h1
        have st1 := (stepT_solo (P := P) (w := w1) s1).trans (runT_solo_go g1)
        obtain ⟨k2, a2, w2, u2, r2, ⟨rfl, rfl⟩, o2⟩ := solo_goesE #[] h2
        have R : ∀ {k : Nat} {m m' : Machine} {u : Trace}, runNT P k m #[] = (.next m', #[] ++ u) → RunsTo P m m' u := by
          intro k m m' u h
          have gen : ∀ (k : Nat) (m m' : Machine) (t0 u : Trace), runNT P k m t0 = (.next m', t0 ++ u) → ∀ t, runNT P k m t = (.next m', t ++ u) := by
            intro k
            induction k with
            | zero =>
              intro m m' t0 u h t
              simp only [runNT, Prod.mk.injEq] at h
              have : u = #[] := by
                have h2 := congrArg Array.size h.2
                simp only [Array.size_append] at h2
                exact Array.eq_empty_of_size_eq_zero (by omega)
              subst this
              simp [runNT, h.1]
            | succ k ih =>
              intro m m' t0 u h t
              match hs : Go.stepT P m with
              | (.next m1, ops) =>
                rw [runNT_succ_next hs] at h
                obtain ⟨v, hv⟩ := runNT_ext h
                have hu : u = ops ++ v := by
                  rw [Array.append_assoc] at hv
                  exact (Array.append_right_inj t0).1 hv
                subst hu
                rw [← Array.append_assoc] at h
                rw [runNT_succ_next hs, ih m1 m' _ v h, Array.append_assoc]
              | (.ended o w, ops) => simp [runNT, hs] at h
          exact ⟨k, gen k m m' #[] u h⟩
        have A := RunsTo.step ((stepT_solo (P := P) (w := w) hrun).trans (runT_solo_go hs1)) ((R r0).trans (RunsTo.step st0 ((R r1).trans (RunsTo.step st1 (R r2)))))
        obtain ⟨kk, hkk⟩ := A
        refine ⟨kk, _, _, hkk, hdone, fun t ht => ?_⟩
        have none_ : ∀ op ∈ MemOp.ofEvents 0 g.frame.fn g.frame.place es, op.g = 0 ∧ op.act ≠ .mark .disable ∧ op.act ≠ .mark .enable := fun op ho => by
          have := none_ops hes1 0 _ _ op ho
          exact ⟨this.1, this.2.2⟩
        have l0 := (ht.still none_).still (evs_ops o0)
        have l1 : Lone (t ++ MemOp.ofEvents 0 g.frame.fn g.frame.place es ++ u0 ++ MemOp.ofEvents 0 a0.frame.fn a0.frame.place #[Go.ConcR.mk .disable]) 1 :=
          ⟨fun op ho => (Array.mem_append.1 ho).elim (l0.1 op) fun x => by rw [mark_ops] at x; simp at x; rw [x], by rw [Deaf_own, l0.2]; rfl⟩
        have l2 := l1.still (evs_ops o1)
        have l3 : Lone (t ++ MemOp.ofEvents 0 g.frame.fn g.frame.place es ++ u0 ++ MemOp.ofEvents 0 a0.frame.fn a0.frame.place #[Go.ConcR.mk .disable] ++ u1 ++ MemOp.ofEvents 0 a1.frame.fn a1.frame.place #[Go.ConcR.mk .enable]) 0 :=
          ⟨fun op ho => (Array.mem_append.1 ho).elim (l2.1 op) fun x => by rw [mark_ops] at x; simp at x; rw [x], by rw [Deaf_own, l2.2]; rfl⟩
        have l4 := l3.still (evs_ops o2)
        simpa only [Array.append_assoc] using l4
      · cases hc
    · cases hc
  · cases hc

/-- At the go statement, the trace. -/
theorem tr_fork {t : Trace} (h : Lone t 0) {x y : MemOp} (hx : x.g = 0 ∧ x.act = .go 1) (hy : y.g = 1 ∧ y.act = .start) :
    (∀ I0 I1 : Nat → Prop, (∀ b, I0 b → I1 b → False) → Tr ((t.push x).push y) ((t.push x).push y).size I0 I1) ∧ Forked ((t.push x).push y) t.size (t.size + 1) := by
  have e : (t.push x).push y = t ++ #[x, y] := by apply Array.toList_inj.1; simp
  have ex : (t ++ #[x, y])[t.size]? = some x := by simp
  have ey : (t ++ #[x, y])[t.size + 1]? = some y := by simp
  have keep : ∀ op ∈ (#[x, y] : Trace), op.act ≠ .mark .disable ∧ op.act ≠ .mark .enable := by
    intro op ho; simp at ho; rcases ho with rfl | rfl
    · rw [hx.2]; simp
    · rw [hy.2]; simp
  have still : ∀ op ∈ (#[x, y] : Trace), op.act.touch? = none := by
    intro op ho; simp at ho; rcases ho with rfl | rfl
    · rw [hx.2]; rfl
    · rw [hy.2]; rfl
  have d1t : ∀ v : Trace, (∀ op ∈ v, op.g = 0) → Deaf v 1 = 0 := fun v hv => by
    have := Deaf_other #[] (g := 1) (g' := 0) (by decide) v hv
    simpa [Deaf, Trace.deaf] using this
  have d0 : Deaf (t ++ #[x, y]) 0 = 0 := by rw [deaf_still t 0 _ keep, h.2]
  have d1 : Deaf (t ++ #[x, y]) 1 = 0 := by rw [deaf_still t 1 _ keep, d1t t h.1]
  have hgo : (t ++ #[x, y]).heard t.size := ⟨0, by simp [Trace.g?, hx.1], by rw [deaf_old (Nat.le_refl _)]; exact h.2⟩
  have hstart : (t ++ #[x, y]).heard (t.size + 1) := by
    refine ⟨1, by simp [Trace.g?, hy.1], ?_⟩
    have e2 : t ++ #[x, y] = (t ++ #[x]) ++ #[y] := by apply Array.toList_inj.1; simp
    have hs : (t ++ #[x]).size = t.size + 1 := by simp
    rw [e2, ← hs, deaf_old (Nat.le_refl _)]
    exact d1t _ (fun op ho => (Array.mem_append.1 ho).elim (h.1 op) (fun q => by simp at q; subst q; exact hx.1))
  have edge : HappensBefore (t ++ #[x, y]) t.size (t.size + 1) := .single (.inr ⟨.spawn (child := 1) (by rw [act?_of ex, hx.2]) (by rw [act?_of ey, hy.2]) (by simp [Trace.g?, hy.1]), hgo, hstart⟩)
  rw [e]
  refine ⟨fun I0 I1 hI => ⟨fun said => ?_, fun i a _ ha => ?_, fun i op a hi ho ha => ?_, hI, d0, d1, fun i op ho => ?_, Nat.le_refl _⟩, ⟨Nat.lt_succ_self _, ⟨x, ex, hx.1, hx.2⟩, ⟨y, ey, hy.1, hy.2⟩, hgo, hstart⟩⟩
  · have n0 : ¬ Race said (#[] : Trace) := by
      rintro ⟨i, j, _, ⟨a, b, ha, _⟩, _⟩
      simp [Trace.act?] at ha
    have n1 : ¬ Race said (#[] ++ t) := noRace_append n0 h.1 (fun i a ha => by simp [touchAt, Trace.act?] at ha)
    have n2 : ¬ Race said (#[] ++ t ++ #[x]) := noRace_append (g := 0) n1 (by intro op ho; simp at ho; subst ho; exact hx.1) (fun i a _ op ho b hb => by simp at ho; subst ho; rw [hx.2] at hb; cases hb)
    have n3 : ¬ Race said (#[] ++ t ++ #[x] ++ #[y]) := noRace_append (g := 1) n2 (by intro op ho; simp at ho; subst ho; exact hy.1) (fun i a _ op ho b hb => by simp at ho; subst ho; rw [hy.2] at hb; cases hb)
    have e3 : #[] ++ t ++ #[x] ++ #[y] = t ++ #[x, y] := by apply Array.toList_inj.1; simp
    rw [← e3]; exact n3
  · obtain ⟨z, hz, hza⟩ := touch_of ha
    rcases getElem?_append_cases hz with ⟨hi, hz'⟩ | ⟨_, hm⟩
    · have hg := h.1 z (mem_of_getElem? hz')
      have own := knows_own hz
      rw [hg] at own
      exact ⟨own, ⟨t.size + 1, y, ey, hy.1, .inr ((hb_po hi hz ex (hg.trans hx.1.symm)).trans edge)⟩⟩
    · rw [still z hm] at hza; cases hza
  · have := lt_size_of_getElem? ho; omega
  · rcases getElem?_append_cases ho with ⟨_, ho'⟩ | ⟨_, hm⟩
    · exact .inl (h.1 op (mem_of_getElem? ho'))
    · simp at hm
      rcases hm with rfl | rfl
      · exact .inl hx.1
      · exact .inr hy.1

/-- A child's first step: its call. -/
theorem st_born (Cg : Good P) {d : Deferred} {gf : FuncId} {captured' : Array Value} (hd : d.target = .fn (.func gf) captured') {aB : AFr} {args : List AV} (he : enterA P gf args false = some aB) (w : World) :
    ∃ es, stepG P false (born P d) w = .go (G (Frame.enter P gf (d.args ++ captured') .deferred) [bot P]) w es ∧ ∀ e ∈ es, EvA (fun _ => False) e := by
  have hinv := invoke_enter (A := fun _ => False) (captured' := captured') (args' := d.args) Cg he w
  obtain ⟨tg, ar⟩ := d
  simp only at hd hinv
  subst hd
  simp only [stepG, born, unwind, callDeferred, Sem.runT_eq, runL_run hinv, Bool.false_and, Bool.false_eq_true, if_false]
  refine ⟨_, rfl, fun e h => ?_⟩
  have := (ev_seen hinv).append (EvAll.nil (A := fun _ => False) (w := w)) e h
  exact this.mono fun b hb => hb.1

theorem born_gof (Cg : Good P) {D : Bool} {ρ : Map} {s s' : St} {a' : AG} {x : FW} {c : Nat} {l : Pl} {id : Nat} {uA : AV} {d : Deferred} {gf : FuncId} {captured' : Array Value} (hd : d.target = .fn (.func gf) captured') {aB : AFr} {args captured : List AV} (he : enterA P gf (args ++ captured) false = some aB)
    (hva : VL ρ args d.args.toList) (hvc : VL ρ captured captured'.toList) (hadv : AdvSem P false { top := aB, cs := [] } s a' s') (hR : Rel x.A P ρ s x.heap) (htop : ∀ id, s.next ≤ id → ρ id = none)
    (hl : ρ id = some l) (hc : l.b = c) (hoff : offO P D false a'.top = some (id, uA)) :
    ∃ N, GoF P false (AtOff P false (csM false D c) (shM false D) (KOff P ρ s.next s' a' [bot P] uA)) N (born P d) x := by
  have hg : GRel ρ { top := aB, cs := [] } [bot P] (G (Frame.enter P gf (d.args ++ captured') .deferred) [bot P]) := enter_rel (nrm := false) (fs := []) he (by rw [Array.toList_append]; exact hva.append hvc) trivial
  obtain ⟨N, h⟩ := off_gof (x := x) hadv hg hR htop hl hc hoff
  refine ⟨N + 1, Cg.step0 rfl fun y hy => ?_⟩
  obtain ⟨es, e1, he1⟩ := st_born Cg hd he y.w
  exact ⟨_, es, e1, h.rely hy, fun e h => (he1 e h).mono fun _ x => x.elim⟩

end
end Go.Ab

/-
  Own library, part 49: from the call's entry to the first meeting.
-/
set_option linter.unusedSectionVars false
namespace Go.Ab
open Go.Conc Go.Conc.Lib

noncomputable section
/-- A go statement: what is called. -/
def goO (P : Program) (a : AFr) : Option (FuncId × List AV × List AV) :=
  (opAt a).bind fun p => match p.1.op with
  | .go c => match c.callee with
    | .value f => match evalA P a.ts f with
      | some (.func (.func g) first captured) => (mapO (evalA P a.ts) c.args.toList).bind fun args => some (g, first ++ args, captured)
      | _ => none
    | _ => none
  | _ => none

/-- The WaitGroup's allocation. -/
def allocO (P : Program) (a : AFr) : Option TypeId :=
  (opAt a).bind fun p => match p.1.op with
  | .alloc t => (tyOf P t).bind fun ty => match ty.zero with
    | some (.agg [.int .u64 0, .int .u32 0]) => some t
    | _ => none
  | _ => none
end

section
variable {P : Program}

theorem go_step {ρ : Map} {n0 : Nat} (hB : Based P ρ n0) {a : AFr} {cs : List AFr} {bs : List Frame} {g : Goroutine} (hg : GRel ρ { top := a, cs } bs g) {gf : FuncId} {args captured : List AV} (h : goO P a = some (gf, args, captured)) :
    ∃ d captured', d.target = .fn (.func gf) captured' ∧ VL ρ captured captured'.toList ∧ VL ρ args d.args.toList ∧ g.status = .running ∧ ∀ w, stepG P true g w = .spawn (Go.Conc.served g undef) (born P d) w #[] := by
  unfold goO at h
  obtain ⟨⟨o, ops, i, rest, k⟩, hop, h⟩ := bind_some h
  simp only at h
  split at h
  · rename_i c ho
    split at h
    · rename_i f hf
      split at h
      · rename_i gf' first captured0 hev
        obtain ⟨args0, hargs, h⟩ := bind_some h
        cases h
        obtain ⟨d, fn', captured', h1, h2, h3, h4, h5, h6⟩ := go_at hB hop hg ho hf hev hargs
        cases h2
        exact ⟨d, captured', h1, h3, h4, h5, h6⟩
      · cases h
    · cases h
  · cases h

theorem setCell_keep {w : World} {a : Addr} {v : Value} {b : Nat} (h : b ≠ a.block) : (w.setCell a v).heap[b]? = w.heap[b]? := by
  simp only [World.setCell]
  rw [Array.getElem?_modify, if_neg (Ne.symm h)]

variable {L : WgLink} {W0 : World} {I : Nat → Prop} {co ct cb : Nat}

/-- FROM THE ENTRY TO THE FIRST MEETING. -/
theorem lone_joint (H : WgLib P L) (Cg : Good P) {fid : FuncId} {args0 : List AV} {args0' : Array Value} {a0 : AFr} (hent : enterA P fid args0 true = some a0) {ρ0 : Map} {s0 : St} (hva0 : VL ρ0 args0 args0'.toList) (hR0 : Rel (FW.A ⟨W0, I⟩) P ρ0 s0 W0.heap) (htop0 : ∀ id, s0.next ≤ id → ρ0 id = none)
    {pA : AG} {sA : St} (hA : AdvSem P true { top := a0, cs := [] } s0 pA sA) (hal : allocO P pA.top = some L.tWg) {aA' : AFr} (hpA : opPut pA.top (.ptr sA.next 0) = some aA')
    {pB : AG} {sB : St} (hBv : AdvSem P true { top := aA', cs := pA.cs } { sA with next := sA.next + 1 } pB sB) (hadd : callO P L.add pB.top = some [.ptr sA.next 0, .int .i64 1]) {aB' : AFr} (hpB : opPut pB.top undefA = some aB')
    {pG : AG} {sG : St} (hG : AdvSem P true { top := aB', cs := pB.cs } sB pG sG) {gf : FuncId} {args captured : List AV} (hgo : goO P pG.top = some (gf, args, captured)) {aG' : AFr} (hpG : opPut pG.top undefA = some aG') {aK : AFr} (hentK : enterA P gf (args ++ captured) false = some aK)
    (hglob : ∀ j, (s0.get j).isSome → (sB.get j).isSome) (h0 : s0.get co = none ∧ s0.get ct = none ∧ s0.get cb = none) (hB3 : (sB.get co).isSome ∧ (sB.get ct).isSome ∧ (sB.get cb).isSome)
    (hco : sG.get co = some .chan) (hct : sG.get ct = some .chan) (hne : co ≠ ct)
    -- the first meeting
    {q : Nat → Bool} {n1 : Nat} {pa' ca' : AG} {sa sb : St} (m0 : AdvSem P true { top := aG', cs := pG.cs } ((sG.part (fun id => !(Nat.beq id co || Nat.beq id ct)) sG.next).part (fun id => !q id) sG.next) pa' sa) (hn : sa.next ≤ n1)
    (m1 : AdvSem P false { top := aK, cs := [] } ((sG.part (fun id => !(Nat.beq id co || Nat.beq id ct)) sG.next).part q n1) ca' sb) {u0 u1 : AV} (ho0 : offO P true true pa'.top = some (co, u0)) (ho1 : offO P true false ca'.top = some (co, u1))
    {pf cf : AFr} (hp0 : opPut pa'.top (gotA true true u0) = some pf) (hp1 : opPut ca'.top (gotA true false u0) = some cf) :
    ∃ k m' t', runNT P k (solo (G (Frame.enter P fid args0' .normal) []) W0) #[] = (.next m', t') ∧ Joint P L W0 I co ct sA.next cb [] 1 0 { top := pf, cs := pa'.cs } { top := cf, cs := ca'.cs } (sa.join sb) m' t' := by
  have hg0 : GRel ρ0 { top := a0, cs := [] } [] (G (Frame.enter P fid args0' .normal) []) := enter_rel (nrm := true) (fs := []) (bs := []) hent hva0 trivial
  -- to the allocation
  obtain ⟨k1, g1, w1, F1, u1', ρ1, r1, gr1, R1, G1, top1, S1, Ft1, sz1, kp1, nw1, q1⟩ := solo_adv (W0 := W0) (I := I) hA hg0 hR0 htop0 (Since.refl W0 I) (fun b _ h => h)
  unfold allocO at hal
  obtain ⟨⟨o, ops, i, rest, k⟩, hop, hal⟩ := bind_some hal
  simp only at hal
  split at hal
  · rename_i t ho
    obtain ⟨ty, hty, hal⟩ := bind_some hal
    split at hal
    · rename_i hz
      cases hal
      have G1' : GRel ρ1 { top := pA.top, cs := pA.cs } [] g1 := G1
      obtain ⟨g2, w2, u2, l, r2, hlb, hlo, R2, G2, top2, S2, Ft2, sz2, W2, q2⟩ := solo_alloc hop ho hty hz hpA G1' R1 top1 S1 Ft1
      have nF2 : ¬ Blocks ρ1 sA (fun _ => true) l.b := fun e => by
        have := (blocks_in (p := fun _ => true) R1 e).2
        omega
      -- to Add
      obtain ⟨k3, g3, w3, F3, u3, ρ3, r3, gr3, R3, G3, top3, S3, Ft3, sz3, kp3, nw3, q3⟩ := solo_adv (W0 := W0) (I := I) hBv G2 R2 top2 S2 Ft2
      have hl3 : ρ3 sA.next = some l := gr3.names.le _ _ (add_self _ _ _)
      have W3 : Go.ConcX.WgAt L.tWg l.b w3 0 0 := (kp3 l.b (by omega) nF2).trans W2
      have nF3 : ¬ F3 l.b := fun e => (nw3 _ e).elim nF2 (fun e => by omega)
      have newB : ∀ id, s0.get id = none → (sB.get id).isSome → ∃ l', ρ3 id = some l' ∧ W0.heap.size ≤ l'.b := by
        intro id hid hs
        obtain ⟨o', ho'⟩ := Option.isSome_iff_exists.1 hs
        obtain ⟨l', hl', _⟩ := R3.obj id o' ho'
        refine ⟨l', hl', ?_⟩
        rcases gr3.live id l' hs hl' with h | ⟨j, m, hj, hm, e⟩
        · omega
        · have hj : (sA.get j).isSome := hj
          obtain ⟨oj, hoj⟩ := Option.isSome_iff_exists.1 hj
          obtain ⟨mj, hmj, _⟩ := R1.obj j oj hoj
          have hm1 : ρ1 j = some m := by
            have := Map.le_add (l := l) (top1 _ (Nat.le_refl _)) _ _ hmj
            rw [hm] at this
            cases this
            exact hmj
          rcases gr1.live j m hj hm1 with h | ⟨j', m', hj', hm', e'⟩
          · omega
          · -- a block of the entry's: a variable's
            have h3 : ρ3 j' = some m' := gr3.names.le _ _ (Map.le_add (top1 _ (Nat.le_refl _)) _ _ (gr1.names.le _ _ hm'))
            have := R3.inj id j' l' m' hs (hglob j' hj') hl' h3 (by rw [← e, ← e'])
            subst this
            rw [hid] at hj'
            cases hj'
      -- Add
      have G3' : GRel ρ3 { top := pB.top, cs := pB.cs } [] g3 := G3
      obtain ⟨k4, g4, u4, r4, G4, q4⟩ := solo_add H Cg R3.based G3' hadd hpB hl3 hlo W3
      have hsz4 : (w3.setCell (Go.ConcX.stA l.b) (.int .u64 Go.ConcX.KK)).heap.size = w3.heap.size := setCell_size _ _ _
      have W4 : Go.ConcX.WgAt L.tWg l.b (w3.setCell (Go.ConcX.stA l.b) (.int .u64 Go.ConcX.KK)) Go.ConcX.KK 0 := Go.ConcX.WgAt.setSt W3 _
      have kp4 : ∀ b, b ≠ l.b → (w3.setCell (Go.ConcX.stA l.b) (.int .u64 Go.ConcX.KK)).heap[b]? = w3.heap[b]? := fun b hb => setCell_keep hb
      have R4 := R3.rely (y := ⟨w3.setCell (Go.ConcX.stA l.b) (.int .u64 Go.ConcX.KK), F3⟩) ⟨rfl, Nat.le_of_eq hsz4.symm, fun b hb _ => kp4 b (fun e => nF3 (e ▸ hb))⟩
      have S4 : Since W0 I (w3.setCell (Go.ConcX.stA l.b) (.int .u64 Go.ConcX.KK)) := S3.fresh rfl rfl (Nat.le_of_eq hsz4.symm) fun b hb => kp4 b (by omega)
      generalize w3.setCell (Go.ConcX.stA l.b) (.int .u64 Go.ConcX.KK) = w4 at *
      -- to the go statement
      obtain ⟨k5, g5, w5, F5, u5, ρ5, r5, gr5, R5, G5, top5, S5, Ft5, sz5, kp5, nw5, q5⟩ := solo_adv (W0 := W0) (I := I) hG G4 R4 top3 S4 Ft3
      have hlw : l.b < w4.heap.size := obj_lt W4
      have W5 : Go.ConcX.WgAt L.tWg l.b w5 Go.ConcX.KK 0 := (kp5 l.b hlw nF3).trans W4
      have nF5 : ¬ F5 l.b := fun e => (nw5 _ e).elim nF3 (fun e => by omega)
      have hl5 : ρ5 sA.next = some l := gr5.names.le _ _ hl3
      have G5' : GRel ρ5 { top := pG.top, cs := pG.cs } [] g5 := G5
      obtain ⟨d, captured', hd, hvc, hva, hrun5, hsp⟩ := go_step R5.based G5' hgo
      have hst5 := (stepT_solo (P := P) (w := w5) hrun5).trans (runT_solo_spawn (hsp w5))
      have hga : GRel ρ5 { top := aG', cs := pG.cs } [] (Go.Conc.served g5 undef) := by
        unfold goO at hgo
        obtain ⟨⟨o, ops, i, rest, k⟩, hopG, _⟩ := bind_some hgo
        exact op_done hopG G5' hpG (.tuple .nil)
      -- the trace
      have L1 : Lone (((#[] ++ u1' ++ u2 ++ u3) ++ u4) ++ u5) 0 := (q4 _ (((Lone.nil.still q1).still q2).still q3)).still q5
      obtain ⟨hTr, hFk⟩ := tr_fork L1 (x := { g := 0, fn := g5.frame.fn, pos := g5.frame.place, act := .go 1 }) (y := { g := 1, fn := (born P d).frame.fn, pos := g5.frame.place, act := .start }) ⟨rfl, rfl⟩ ⟨rfl, rfl⟩
      have hrunAll : ∃ kk, runNT P kk (solo (G (Frame.enter P fid args0' .normal) []) W0) #[] = (.next (duo (Go.Conc.served g5 undef) (born P d) w5 none), ((((#[] ++ u1' ++ u2 ++ u3) ++ u4) ++ u5).push { g := 0, fn := g5.frame.fn, pos := g5.frame.place, act := .go 1 }).push { g := 1, fn := (born P d).frame.fn, pos := g5.frame.place, act := .start }) := by
        refine ⟨k1 + (1 + (k3 + (k4 + (k5 + 1)))), ?_⟩
        rw [runNT_add, r1]; simp only
        rw [runNT_add, r2]; simp only
        rw [runNT_add, r3]; simp only
        rw [runNT_add, r4]; simp only
        rw [runNT_add, r5]; simp only
        rw [runNT_succ_next hst5]
        simp only [runNT, ofEvents_nil]
        congr 1
      obtain ⟨kk, hkk⟩ := hrunAll
      -- the first meeting
      obtain ⟨lo, hlo5, hco5⟩ := R5.obj co _ hco
      obtain ⟨lt, hlt5, hct5⟩ := R5.obj ct _ hct
      obtain ⟨lo', hlo3, nlo⟩ := newB co h0.1 hB3.1
      obtain ⟨lt', hlt3, nlt⟩ := newB ct h0.2.1 hB3.2.1
      obtain ⟨lb, hlb3, nlb⟩ := newB cb h0.2.2 hB3.2.2
      have e1 : lo' = lo := by have := gr5.names.le _ _ hlo3; rw [hlo5] at this; cases this; rfl
      have e2 : lt' = lt := by have := gr5.names.le _ _ hlt3; rw [hlt5] at this; cases this; rfl
      subst e1 e2
      have in5 : ∀ id l', (sG.get id).isSome → ρ5 id = some l' → F5 l'.b := fun id l' hi hl' => by
        have h2 := (R5.low id l' hl').1
        rcases R5.own id l' hi hl' with h | h
        · exact h
        · have h : w5.heap.size ≤ l'.b := h
          omega
      have nb : ∀ id l', (sG.get id).isSome → ρ5 id = some l' → (id = co ∨ id = ct) → ¬ Blocks ρ5 sG (fun id => !(Nat.beq id co || Nat.beq id ct)) l'.b := by
        rintro id l' hi hl' hid ⟨j, m, hj1, hj2, hj3, hj4⟩
        have := R5.inj j id m l' hj2 hi hj3 hl' hj4
        subst this
        rcases hid with rfl | rfl <;> simp at hj1
      have hap5 : l.b ≠ lo'.b ∧ l.b ≠ lt'.b := ⟨fun e => nF5 (e ▸ in5 co lo' (by rw [hco]; rfl) hlo5), fun e => nF5 (e ▸ in5 ct lt' (by rw [hct]; rfl) hlt5)⟩
      have hltne : lo'.b ≠ lt'.b := fun e => hne (R5.inj co ct lo' lt' (by rw [hco]; rfl) (by rw [hct]; rfl) hlo5 hlt5 e)
      have JJ : JW P L W0 I co ct sA.next cb 0 0 (sG.part (fun id => !(Nat.beq id co || Nat.beq id ct)) sG.next) w5 ρ5 (Blocks ρ5 sG (fun id => !(Nat.beq id co || Nat.beq id ct))) lo' lt' l lb _ _ _ :=
        ⟨hTr, hFk, S5, fun b hb e => Ft5 b hb (blocks_in R5 e).1, R5.part _ _, top5, hlo5, hco5, nb co lo' (by rw [hco]; rfl) hlo5 (.inl rfl), hlt5, hct5, nb ct lt' (by rw [hct]; rfl) hlt5 (.inr rfl), hl5, W5, fun e => nF5 (blocks_in R5 e).1, gr5.names.le _ _ hlb3, ⟨nlo, nlt, by omega, nlb⟩, hap5.1, hltne, hap5.2⟩
      obtain ⟨N0, g0⟩ := off_gof m0 hga (JJ.rel.part _ _) JJ.top JJ.ho rfl ho0
      have hn0 : sG.next ≤ n1 := Nat.le_trans m0.1 hn
      obtain ⟨N1, gk⟩ := born_gof Cg hd hentK hva hvc m1 (JJ.rel.part _ _) (fun id hi => JJ.top id (Nat.le_trans hn0 hi)) JJ.ho rfl ho1
      obtain ⟨k6, m', t', h6, hJ⟩ := meet_core (sl := none) JJ true q hn hn0 g0 gk ho0 ho1 hp0 hp1
      refine ⟨kk + k6, m', t', ?_, hJ⟩
      rw [runNT_add, hkk]
      exact h6
    · cases hal
  · cases hal

end
end Go.Ab

