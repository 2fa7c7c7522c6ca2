/- Own text of this claim: part Ab42. -/
import Derived.Test.YtjffanafmodhdaaGreatDoorAb41
import Derived.Test.YtjffanafmodhdaaGreatDoorAb39
set_option linter.unusedVariables false
set_option linter.unusedSimpArgs false
set_option linter.unusedSectionVars false
set_option linter.unnecessarySimpa false
/-
  Own library, part 42: into the library's Wait and Done.
-/
set_option linter.unusedSectionVars false
namespace Go.Ab
open Go.Conc Go.ConcX Go.ConcX.Gen Go.Conc.Lib

section
variable {P : Program} {main : Bool} {n0 : Nat}

/-- A walk without memory, under another rely; another walk behind it. -/
theorem goes_pure {R : World → World → Prop} {D : World → World → Array Event → Prop} {Stop Stop' : Goroutine → World → Prop} {I : World → Prop} {m : Nat} (hn : ∀ a b, n0 ≤ a.heap.size → I a → R a b → n0 ≤ b.heap.size) (hI : ∀ a b, R a b → I a → I b) 
    (hD : ∀ w es, (∀ e ∈ es, EvA (fun _ => False) e) → D w w es) (hS : ∀ g w, Stop g w → n0 ≤ w.heap.size → I w → Goes P main R D Stop' m g w) :
    ∀ {n : Nat} {g : Goroutine} {w : World}, Goes P main (Any n0) Not Stop n g w → n0 ≤ w.heap.size → I w → Goes P main R D Stop' (m + n) g w := by
  intro n
  induction n with
  | zero => exact fun h hw hi => hS _ _ (h _ hw) hw hi
  | succ n ih =>
    intro g w h hw hi
    rcases h with h | ⟨hs, h⟩
    · exact (hS _ _ (h _ hw) hw hi).mono (by omega)
    · refine Goes.step (n := m + n) hs fun w₁ h₁ => ?_
      have hw₁ := hn _ _ hw hi h₁
      obtain ⟨g', w', es, e, ⟨rfl, h2⟩, h3⟩ := goes_elim (h w₁ hw₁)
      rw [e]
      exact ⟨hD _ _ h2, ih h3 hw₁ (hI _ _ h₁ hi)⟩
end

theorem vl_ptr {ρ : Map} {wg Wg : Nat} {l : Pl} {args : Array Value} (h : VL ρ [.ptr wg 0] args.toList) (hl : ρ wg = some l) (hb : l.b = Wg) (ho : l.o = 0) : args = #[.pointer (some ⟨Wg, 0, none⟩)] := by
  have : args.toList = [.pointer (some ⟨Wg, 0, none⟩)] := by
    generalize args.toList = ys at h
    cases h with
    | cons hv hs =>
      cases hs
      cases hv with
      | @ptr _ _ l' hl' =>
        rw [hl] at hl'
        cases hl'
        rw [hb, ho]
  apply Array.toList_inj.1
  rw [this]

section
variable {P : Program} {L : WgLink}

theorem fill83 (x : Value) : (#[x] ++ Array.replicate 83 undef : Array Value) = #[x, undef, undef, undef, undef, undef, undef, undef, undef, undef, undef, undef, undef, undef, undef, undef, undef, undef, undef, undef, undef, undef, undef, undef, undef, undef, undef, undef, undef, undef, undef, undef, undef, undef, undef, undef, undef, undef, undef, undef, undef, undef, undef, undef, undef, undef, undef, undef, undef, undef, undef, undef, undef, undef, undef, undef, undef, undef, undef, undef, undef, undef, undef, undef, undef, undef, undef, undef, undef, undef, undef, undef, undef, undef, undef, undef, undef, undef, undef, undef, undef, undef, undef, undef] := by
  apply Array.toList_inj.1
  simp only [Array.toList_append, Array.toList_replicate, List.replicate, List.cons_append, List.nil_append]

theorem enter_wait (H : WgLib P L) (Wg : Nat) : Frame.enter P L.wait #[.pointer (some ⟨Wg, 0, none⟩)] .normal = (base L.wait).at ⟨#[.pointer (some ⟨Wg, 0, none⟩), undef, undef, undef, undef, undef, undef, undef, undef, undef, undef, undef, undef, undef, undef, undef, undef, undef, undef, undef, undef, undef, undef, undef, undef, undef, undef, undef, undef, undef, undef, undef, undef, undef, undef, undef, undef, undef, undef, undef, undef, undef, undef, undef, undef, undef, undef, undef, undef, undef, undef, undef, undef, undef, undef, undef, undef, undef, undef, undef, undef, undef, undef, undef, undef, undef, undef, undef, undef, undef, undef, undef, undef, undef, undef, undef, undef, undef, undef, undef, undef, undef, undef, undef], []⟩ [.code (body_wait L)] := by
  have hn : (waitFn L).ntmps = 84 := rfl
  have hb : (waitFn L).body = some (body_wait L) := rfl
  simp only [Frame.enter, H.f_wait, Option.map_some, Option.getD_some, Option.bind_some, hn, hb, List.size_toArray, List.length_cons, List.length_nil, Nat.reduceAdd, Nat.reduceSub, fill83]
  simp only [Frame.at, base]

theorem enter_done (H : WgLib P L) (Wg : Nat) : Frame.enter P L.done #[.pointer (some ⟨Wg, 0, none⟩)] .deferred = (baseD L.done).at ⟨#[.pointer (some ⟨Wg, 0, none⟩), undef, undef, undef], []⟩ [.code (body_done L)] := by
  simp only [Frame.enter, H.f_done, Option.map_some, Option.getD_some, Option.bind_some]
  rfl

/-- A child's bottom frame, once its call is made. -/
def bot (P : Program) : Frame := { (default : Frame) with fn := P.funcs.size, mode := .panicking [goexitEntry] }

theorem quits_bot {f : FuncId} {fn : Func} (hf : P.funcs[f]? = some fn) (hr : fn.results = #[]) (tmps : Array Value) (todo : List Item) : QuitsD P 2 0 (G (mk f none .deferred tmps [] .returning todo) [bot P]) := by
  refine QuitsD.ctl (g' := G (bot P) []) rfl (fun w => ?_) ?_
  · simp [G, stepG, unwind, doReturn, results, mk, bot, hf, hr, seen, GStep.after, goexitEntry]
  refine QuitsD.ctl (g' := { G (bot P) [] with status := .finished }) rfl (fun w => ?_) ⟨rfl, rfl⟩
  simp [G, stepG, unwind, bot, goexitEntry, Frame.catches]
  rfl

variable [Payload] {Wg C Low : Nat} [Shy Wg C] {vals : List Value} {ρ : Map} {n0 : Nat} {F : World → Prop} {cs : List AFr} {bs : List Frame}

/-- The anchor at the loop of Wait: called from a frame that stands, behind the call, as the abstract one says. -/
def AnW (L : WgLink) (F : World → Prop) (Wg C : Nat) [Shy Wg C] (vals : List Value) (ρ : Map) (aR : AG) (bs : List Frame) (ops : Array Oper) (i : Nat) (rest : List Nat) (k : List Item) (g : Goroutine) (w : World) : Prop :=
  ∃ b₀ a₀ fs, GRel ρ aR bs (G (Frame.at b₀ (Act.put a₀ ((ops[i]?).bind (·.dst)) (.tuple #[])) (.inRegion ops rest :: k)) fs) ∧ AnchW7 L F Wg C vals (Frame.at b₀ a₀ (.inRegion ops (i :: rest) :: k)) fs g w

theorem anW_running {aR : AG} {ops : Array Oper} {i : Nat} {rest : List Nat} {k : List Item} : ∀ g w, AnW L F Wg C vals ρ aR bs ops i rest k g w → g.status = .running := by
  rintro g w ⟨_, _, _, _, T, rfl, _⟩
  rfl

theorem atWOne_mono {A A' : Goroutine → World → Prop} (h : ∀ g w, A g w → A' g w) {Post : Value → World → Prop} {g : Goroutine} {w : World} (x : AtW1 P L.tWg Wg C Low vals NoMine A Post g w) : AtW1 P L.tWg Wg C Low vals NoMine A' Post g w := by
  obtain ⟨h1, g', h2, h3, h4⟩ := x
  refine ⟨h1, g', h2, fun e => ?_, h4⟩
  obtain ⟨m, hm⟩ := h3 e
  refine ⟨m, Goes.weaken (fun _ _ => id) (fun _ _ _ => id) (fun g w y => ?_) hm⟩
  obtain ⟨y1, y2, y3⟩ := y
  refine ⟨y1, y2, fun e => ?_⟩
  obtain ⟨g', z1, m, z2⟩ := y3 e
  exact ⟨g', z1, m, Goes.weaken (fun _ _ => id) (fun _ _ _ => id) h z2⟩

theorem atKd_mono {A A' : Goroutine → World → Prop} (h : ∀ g w, A g w → A' g w) {g : Goroutine} {w : World} (x : AtKd P L.tWg Wg C Low vals NoMine A g w) : AtKd P L.tWg Wg C Low vals NoMine A' g w := by
  obtain ⟨h1, g', h2, m, h3⟩ := x
  exact ⟨h1, g', h2, m, Goes.weaken (fun _ _ => id) (fun _ _ _ => id) h h3⟩

/-- The anchor leads on. -/
theorem anW_round (H : WgLib P L) (hCW : C ≠ Wg) (hF2 : ∀ w w', Aside2 C Wg w w' → F w → F w') {Post : Value → World → Prop} {aR : AG} {ops : Array Oper} {i : Nat} {rest : List Nat} {k : List Item}
    (hstop : ∀ g w, GRel ρ aR bs g → F w → WgAt L.tWg Wg w 0 0 → Full C vals w → Shy.stop Wg C g w) :
    ∀ g w, AnW L F Wg C vals ρ aR bs ops i rest k g w → ∃ m, Goes P true (RPa L.tWg Wg C vals) (DPi NoMine Wg C Low) (AtW1 P L.tWg Wg C Low vals NoMine (AnW L F Wg C vals ρ aR bs ops i rest k) Post) m g w := by
  rintro g w ⟨b₀, a₀, fs, hg, hA⟩
  obtain ⟨m, hm⟩ := waitRound (Low := Low) (Mine := NoMine) (Post := Post) (mT := 0) H hCW hF2 (fun w hF hW hU => by
    rintro _ ⟨d, rfl⟩
    exact ⟨rfl, hstop _ _ hg (hF2 w (w.at d) ⟨rfl, rfl, rfl, rfl, fun _ _ _ => rfl⟩ hF) hW hU⟩) g w hA
  exact ⟨m, Goes.weaken (fun _ _ => id) (fun _ _ _ => id) (fun g w x => atWOne_mono (fun g w y => ⟨b₀, a₀, fs, hg, y⟩) x) hm⟩

/-- From behind the close to Wait's first word. -/
theorem wait_kd (H : WgLib P L) (Cg : Good P) (hB : Based P ρ n0) (hok : ∀ act : MemAct, act.touch? = none → Shy.ok Wg C act) (hF2 : ∀ w w', Aside2 C Wg w w' → F w → F w')
    {aC aW aR : AFr} {n : Nat} (hadv : advP P n aC = aW) {o : Oper} {ops : Array Oper} {i : Nat} {rest : List Nat} {k : List Item} (hop : opAt aW = some (o, ops, i, rest, k)) {c : Call} {f : Operand} (ho : o.op = .call c) (hf : c.callee = .value f)
    (hv : evalA P aW.ts f = some (.func (.func L.wait) [] [])) {wg : Nat} {l : Pl} (ha : mapO (evalA P aW.ts) c.args.toList = some [.ptr wg 0]) (hl : ρ wg = some l) (hlb : l.b = Wg) (hlo : l.o = 0) (hput : opPut aW undefA = some aR)
    {g : Goroutine} (hg : GRel ρ { top := aC, cs } bs g) {w : World} (hw : n0 ≤ w.heap.size) (hF : F w ∧ KPa L.tWg Wg C vals w) :
    ∃ m, Goes P true (RPa L.tWg Wg C vals) (DPi NoMine Wg C Low) (AtKd P L.tWg Wg C Low vals NoMine (AnW L F Wg C vals ρ { top := aR, cs } bs ops i rest k)) m g w := by
  have h1 := advP_goes (main := true) hB (cs := cs) (bs := bs) (Stop := fun g _ => GRel ρ { top := aW, cs } bs g) (m := 0) n aC g w hg (fun g' w' h => by rw [hadv] at h; exact fun _ _ => h)
  have hDP : ∀ (w : World) (es : Array Event), (∀ e ∈ es, EvA (fun _ => False) e) → DPi NoMine Wg C Low w w es := fun w es he => ⟨fun _ _ => rfl, fun e h => evQ_none hok (he e h)⟩
  refine ⟨_, goes_pure (I := fun w => F w ∧ KPa L.tWg Wg C vals w) (m := 3 + 1) (fun a b ha _ hr => by have := hr.aside.size; omega) (fun a b hr hi => ⟨hF2 _ _ hr.aside hi.1, hr.ka hi.2⟩) hDP (fun g' w' hg' hw' hi => ?_) h1 hw hF⟩
  obtain ⟨f0, fs, args', e1, hfs, hargs, hst⟩ := call_at Cg hB hop hg' ho hf hv ha H.f_wait (body := body_wait L) rfl
  obtain ⟨tmps, defers, fs2, e2, h4, h5, h6, _⟩ := op_frame (P := P) hop hg'
  have hdone := op_done hop hg' (v := .tuple #[]) hput (.tuple .nil)
  have hrun : g'.status = .running := by rw [e1]; rfl
  refine Goes.step (n := 3) hrun fun w₁ hr₁ => ?_
  obtain ⟨es, h2, hes⟩ := hst true w₁
  rw [h2]
  refine ⟨hDP _ _ hes, ?_⟩
  have hi₁ : F w₁ ∧ KPa L.tWg Wg C vals w₁ := ⟨hF2 _ _ hr₁.aside hi.1, hr₁.ka hi.2⟩
  rw [vl_ptr hargs hl hlb hlo, enter_wait H]
  have e3 : f0 :: (fs ++ bs) = Frame.at (mk aW.fn none (kindOf aW.nrm) #[] [] .run []) ⟨tmps, defers⟩ (.inRegion ops (i :: rest) :: k) :: (fs2 ++ bs) := by
    have := e1.symm.trans e2
    simp only [G, Goroutine.mk.injEq] at this
    rw [this.1, this.2.1]
    rfl
  rw [e3]
  refine Goes.weaken (fun _ _ => id) (fun _ _ _ => id) (fun g w x => atKd_mono (fun g w y => ⟨_, _, _, ?_, y⟩) x) (waitStart (Low := Low) (Mine := NoMine) H hF2 w₁ hi₁)
  obtain ⟨_, ht, hoi, _⟩ := op_spec hop
  rw [e2] at hdone
  have : Go.Conc.served (G (mk aW.fn none (kindOf aW.nrm) tmps defers .run (.inRegion ops (i :: rest) :: k)) (fs2 ++ bs)) (.tuple #[]) = G (Frame.at (mk aW.fn none (kindOf aW.nrm) #[] [] .run []) (Act.put ⟨tmps, defers⟩ ((ops[i]?).bind (·.dst)) (.tuple #[])) (.inRegion ops rest :: k)) (fs2 ++ bs) := by
    show G ((mk aW.fn none (kindOf aW.nrm) tmps defers .run (.inRegion ops (i :: rest) :: k)).finish (.tuple #[])) (fs2 ++ bs) = _
    rw [finish_opC]
    cases ((ops[i]?).bind (·.dst)) <;> rfl
  rw [← this]
  exact hdone

/-- From behind the receive that found the channel closed to Done's release. -/
theorem done_r0 (H : WgLib P L) (Cg : Good P) (hB : Based P ρ n0) (hok : ∀ act : MemAct, act.touch? = none → Shy.ok Wg C act) (hW : Wg < Low) (hC : C < Low) (hCW : C ≠ Wg) {b0 : Nat} (hb0 : b0 < Low) (hn0 : n0 = b0 + 1)
    {aQ aD : AFr} {n : Nat} (hadv : advP P n aQ = aD) (hret : aD.ret = true) (hnrm : aD.nrm = false) {wg : Nat} {l : Pl} (hds : aD.ds = [.inl { fn := .func L.done, captured := [], args := [.ptr wg 0] }]) (hl : ρ wg = some l) (hlb : l.b = Wg) (hlo : l.o = 0)
    {fn : Func} (hfn : P.funcs[aD.fn]? = some fn) (hres : fn.results = #[]) {g : Goroutine} (hg : GRel ρ { top := aQ, cs := [] } [bot P] g) {w : World} (hw : n0 ≤ w.heap.size) (hK : KCa L.tWg Wg w ∧ Full C vals w) :
    ∃ m, Goes P false (RCa L.tWg Wg Low) (DCs NoMine Wg C) (AtR0 P L.tWg Wg C Low vals) m g w := by
  have h1 := advP_goes (main := false) hB (cs := []) (bs := [bot P]) (Stop := fun g _ => GRel ρ { top := aD, cs := [] } [bot P] g) (m := 0) n aQ g w hg (fun g' w' h => by rw [hadv] at h; exact fun _ _ => h)
  have hDC : ∀ (w : World) (es : Array Event), (∀ e ∈ es, EvA (fun _ => False) e) → DCs NoMine Wg C w w es := fun w es he => ⟨Go.Conc.Aside.refl _ _, fun e h => evQ_none hok (he e h)⟩
  have hI : ∀ a b, RCa L.tWg Wg Low a b → KCa L.tWg Wg a ∧ Full C vals a → KCa L.tWg Wg b ∧ Full C vals b := fun a b hr hi => ⟨hr.k hi.1, fun e => (hr.low C hC hCW).trans (hi.2 e)⟩
  refine ⟨_, goes_pure (I := fun w => KCa L.tWg Wg w ∧ Full C vals w) (m := 23 + 1) (fun a b ha hi hr => ?_) hI hDC (fun g' w' hg' hw' hi => ?_) h1 hw hK⟩
  · by_cases hb0W : b0 = Wg
    · have : Wg < b.heap.size := by rcases hr.k hi.1 with h | h <;> exact obj_lt h
      omega
    have h2 := hr.low b0 hb0 hb0W
    rw [Array.getElem?_eq_getElem (show b0 < a.heap.size by omega)] at h2
    have := (Array.getElem?_eq_some_iff.1 h2).1
    omega
  obtain ⟨tmps, defers, todo, fs, rfl, h4, h5, h6⟩ := grel_ret hg' hret
  simp only at h4 h5 h6 ⊢
  rw [hds] at h5
  have hfs : fs = [] := by cases fs with | nil => rfl | cons => exact h6.elim
  subst hfs
  cases defers with
  | nil => exact h5.elim
  | cons d' ds' =>
    obtain ⟨⟨fn', c', ht, hfn', hc', ha'⟩, hds'⟩ := h5
    have hd0 : ds' = [] := by cases ds' with | nil => rfl | cons => exact hds'.elim
    subst hd0
    cases hfn'
    have hc0 := vl_nil hc'
    subst hc0
    have ed : d' = { target := .fn (.func L.done) #[], args := d'.args } := by cases d'; simp only at ht; rw [ht]
    refine Goes.step (n := 23) rfl fun w₁ hr₁ => ?_
    have hinv : (invoke (.fn (.func L.done) #[]) d'.args).runL (fun _ => False) P w₁ = .ok (.enter L.done (d'.args ++ #[])) w₁ := by
      simp only [invoke, callFunc, runL_bind, runL_program, Result.andThen_ok, H.f_done, Cg.names _ _ H.f_done, Bool.false_eq_true, if_false, runL_pure]
      rfl
    obtain ⟨es, h7, he⟩ := st_calldef (main := false) (fn := aD.fn) (kind := kindOf aD.nrm) (tmps := tmps) (ds := []) (todo := todo) (cs := [bot P]) hinv trivial
    rw [ed]
    show (stepG P false (G (mk aD.fn none (kindOf aD.nrm) tmps ({ target := .fn (.func L.done) #[], args := d'.args } :: []) .returning todo) [bot P]) w₁).goes _
    rw [h7]
    refine ⟨hDC _ _ (fun e h => (he e h).mono fun b hb => hb.1), ?_⟩
    show Goes P false _ _ _ 23 (G (Frame.enter P L.done (d'.args ++ #[]) .deferred) (mk aD.fn none (kindOf aD.nrm) tmps [] .returning todo :: [bot P])) w₁
    rw [Array.append_empty, vl_ptr ha' hl hlb hlo, enter_done H, hnrm]
    exact doneD H hW hC hCW rfl (quits_bot hfn hres tmps todo) w₁ (hI _ _ hr₁ hi)

end
end Go.Ab

