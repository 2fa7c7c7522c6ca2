/- Own text of this claim: part Ab33. -/
import Derived.Test.YtjffanafmodhdaaGreatDoorAbL
import Derived.Test.YtjffanafmodhdaaGreatDoorAb13
import Derived.Conc.Deaf
import Derived.Conc.Comm2
set_option linter.unusedVariables false
set_option linter.unusedSimpArgs false
set_option linter.unusedSectionVars false
set_option linter.unnecessarySimpa false
/-
  Own library, part 33: traces of two goroutines that hand their blocks to one another at meetings.
-/
namespace Go.Ab
open Go.Conc

def LocIn (A : Nat → Prop) : Loc → Prop
  | .cell a => A a.block
  | .obj b => A b
  | _ => False

theorem LocIn.mono {A B : Nat → Prop} (h : ∀ b, A b → B b) : ∀ {l : Loc}, LocIn A l → LocIn B l
  | .cell _, x => h _ x
  | .obj _, x => h _ x
  | .mark _, x => x

theorem LocIn.apart {A B : Nat → Prop} (h : ∀ b, A b → B b → False) : ∀ {l : Loc}, LocIn A l → LocIn B l → False
  | .cell _, x, y => h _ x y
  | .obj _, x, y => h _ x y
  | .mark _, x, _ => x

/-- It touches the blocks of A alone; it orders nothing. -/
def Still (A : Nat → Prop) (act : MemAct) : Prop := (∀ a, act.touch? = some a → LocIn A a.loc) ∧ act ≠ .mark .disable ∧ act ≠ .mark .enable

theorem still_of {A : Nat → Prop} {e : Event} (h : EvA A e) : Still A (.ofEvent e) := by
  cases h with
  | cell h => exact ⟨fun a ha => by simp [MemAct.ofEvent, MemAct.touch?] at ha; subst ha; exact h, by simp [MemAct.ofEvent], by simp [MemAct.ofEvent]⟩
  | obj h => exact ⟨fun a ha => by simp [MemAct.ofEvent, MemAct.touch?] at ha; subst ha; exact h, by simp [MemAct.ofEvent], by simp [MemAct.ofEvent]⟩
  | mark h => exact ⟨fun a ha => by (have := h.touch; simp only [MemAct.ofEvent] at ha; rw [this] at ha; cases ha), by simp only [MemAct.ofEvent, ne_eq, MemAct.mark.injEq]; exact h.ne_disable, by simp only [MemAct.ofEvent, ne_eq, MemAct.mark.injEq]; exact h.ne_enable⟩

theorem Still.mono {A B : Nat → Prop} (h : ∀ b, A b → B b) {act : MemAct} (s : Still A act) : Still B act := ⟨fun a ha => (s.1 a ha).mono h, s.2⟩

theorem still_ops {A : Nat → Prop} {w : World} {es : Array Event} (h : EvAll A w es) (g : Nat) (fn : FuncId) (pos : String) : ∀ op ∈ MemOp.ofEvents g fn pos es, op.g = g ∧ Still (Upto A w) op.act := by
  intro op hop
  rw [ofEvents_eq] at hop
  obtain ⟨e, he, rfl⟩ := Array.mem_map.1 hop
  exact ⟨rfl, still_of (h e he)⟩

theorem deaf_still (t : Trace) (g : Nat) (u : Trace) (hu : ∀ op ∈ u, op.act ≠ .mark .disable ∧ op.act ≠ .mark .enable) : Deaf (t ++ u) g = Deaf t g := by
  obtain ⟨l⟩ := u
  rw [Deaf_append]
  induction l generalizing t with
  | nil => rfl
  | cons y l ih =>
    have e1 : deafStep g (Deaf t g) y = Deaf t g := by
      have hy := hu y (by simp)
      unfold deafStep
      split
      · rename_i h; exact absurd h hy.1
      · rename_i h; exact absurd h hy.2
      · rfl
    rw [List.foldl_cons, e1]
    exact ih t (fun op hop => hu op (by simp at hop ⊢; exact .inr hop))

/-- Behind the last meeting 'p' each touches what is its own; what stands ahead both know. -/
structure Tr (t : Trace) (p : Nat) (F0 F1 : Nat → Prop) : Prop where
  nr : ∀ said, ¬ Race said t
  old : ∀ i a, i < p → touchAt t i = some a → Knows t 0 i ∧ Knows t 1 i
  mine : ∀ i op a, p ≤ i → t[i]? = some op → op.act.touch? = some a → (op.g = 0 ∧ LocIn F0 a.loc) ∨ (op.g = 1 ∧ LocIn F1 a.loc)
  apart : ∀ b, F0 b → F1 b → False
  deaf0 : Deaf t 0 = 0
  deaf1 : Deaf t 1 = 0
  two : ∀ (i : Nat) (op : MemOp), t[i]? = some op → op.g = 0 ∨ op.g = 1
  le : p ≤ t.size

theorem Tr.app {t u : Trace} {p g : Nat} {F0 F1 A : Nat → Prop} (h : Tr t p F0 F1) (hg : (g = 0 ∧ ∀ b, A b → F0 b) ∨ (g = 1 ∧ ∀ b, A b → F1 b)) (hu : ∀ op ∈ u, op.g = g ∧ Still A op.act) : Tr (t ++ u) p F0 F1 := by
  refine ⟨fun said => ?_, fun i a hi ha => ?_, fun i op a hi ho ha => ?_, h.apart, ?_, ?_, fun i op ho => ?_, ?_⟩
  · refine noRace_append (h.nr said) (fun op hop => (hu op hop).1) fun i a ha op hop b hb hc => ?_
    rcases Nat.lt_or_ge i p with hi | hi
    · rcases hg with ⟨rfl, _⟩ | ⟨rfl, _⟩
      · exact (h.old i a hi ha).1
      · exact (h.old i a hi ha).2
    · obtain ⟨x, hx, hxa⟩ := touch_of ha
      have hb' := (hu op hop).2.1 b hb
      have own := knows_own hx
      rcases hg with ⟨rfl, hA⟩ | ⟨rfl, hA⟩ <;> rcases h.mine i x a hi hx hxa with ⟨e, hl⟩ | ⟨e, hl⟩
      · rwa [e] at own
      · exact (LocIn.apart h.apart (hb'.mono hA) (hc.1 ▸ hl)).elim
      · exact (LocIn.apart h.apart (hc.1 ▸ hl) (hb'.mono hA)).elim
      · rwa [e] at own
  · have hs := Nat.lt_of_lt_of_le hi h.le
    rw [touchAt_old hs] at ha
    exact ⟨(h.old i a hi ha).1.app u, (h.old i a hi ha).2.app u⟩
  · rcases getElem?_append_cases ho with ⟨_, ho'⟩ | ⟨_, hm⟩
    · exact h.mine i op a hi ho' ha
    · have := (hu op hm).2.1 a ha
      rcases hg with ⟨rfl, hA⟩ | ⟨rfl, hA⟩
      · exact .inl ⟨(hu op hm).1, this.mono hA⟩
      · exact .inr ⟨(hu op hm).1, this.mono hA⟩
  · rw [deaf_still t 0 u fun op ho => (hu op ho).2.2]; exact h.deaf0
  · rw [deaf_still t 1 u fun op ho => (hu op ho).2.2]; exact h.deaf1
  · rcases getElem?_append_cases ho with ⟨_, ho'⟩ | ⟨_, hm⟩
    · exact h.two i op ho'
    · rw [(hu op hm).1]; rcases hg with ⟨rfl, _⟩ | ⟨rfl, _⟩ <;> simp
  · simp only [Array.size_append]; have := h.le; omega

theorem Tr.widen {t : Trace} {p : Nat} {F0 F1 G0 G1 : Nat → Prop} (h : Tr t p F0 F1) (h0 : ∀ b, F0 b → G0 b) (h1 : ∀ b, F1 b → G1 b) (ha : ∀ b, G0 b → G1 b → False) : Tr t p G0 G1 :=
  ⟨h.nr, h.old, fun i op a hi ho hx => (h.mine i op a hi ho hx).imp (fun x => ⟨x.1, x.2.mono h0⟩) (fun x => ⟨x.1, x.2.mono h1⟩), ha, h.deaf0, h.deaf1, h.two, h.le⟩

/-- The four operations of a meeting at a channel without a buffer: 's' sends, 'r' receives. -/
def meet4 (s r c n : Nat) (fs fr : FuncId) (ps pr : String) : Trace :=
  #[{ g := s, fn := fs, pos := ps, act := .send c n }, { g := r, fn := fr, pos := pr, act := .recv c n 0 }, { g := s, fn := fs, pos := ps, act := .sendDone c n }, { g := r, fn := fr, pos := pr, act := .recvDone c n }]

theorem Tr.meet {t : Trace} {p s r c n : Nat} {F0 F1 G0 G1 : Nat → Prop} {fs fr : FuncId} {ps pr : String} (h : Tr t p F0 F1) (hsr : (s = 0 ∧ r = 1) ∨ (s = 1 ∧ r = 0)) (ha : ∀ b, G0 b → G1 b → False) :
    Tr (t ++ meet4 s r c n fs fr ps pr) (t ++ meet4 s r c n fs fr ps pr).size G0 G1 := by
  have hquiet : ∀ op ∈ meet4 s r c n fs fr ps pr, op.act.touch? = none ∧ op.act ≠ .mark .disable ∧ op.act ≠ .mark .enable := by
    intro op hop
    simp only [meet4, List.mem_toArray, List.mem_cons, List.not_mem_nil, or_false] at hop
    rcases hop with rfl | rfl | rfl | rfl <;> simp [MemAct.touch?]
  have e0 : (t ++ meet4 s r c n fs fr ps pr)[t.size]? = some { g := s, fn := fs, pos := ps, act := .send c n } := by rw [Array.getElem?_append_right (Nat.le_refl _)]; simp [meet4]
  have e1 : (t ++ meet4 s r c n fs fr ps pr)[t.size + 1]? = some { g := r, fn := fr, pos := pr, act := .recv c n 0 } := by rw [Array.getElem?_append_right (by omega)]; simp [meet4]
  have e2 : (t ++ meet4 s r c n fs fr ps pr)[t.size + 2]? = some { g := s, fn := fs, pos := ps, act := .sendDone c n } := by rw [Array.getElem?_append_right (by omega)]; simp [meet4]
  have e3 : (t ++ meet4 s r c n fs fr ps pr)[t.size + 3]? = some { g := r, fn := fr, pos := pr, act := .recvDone c n } := by rw [Array.getElem?_append_right (by omega)]; simp [meet4]
  have d : ∀ g, g = 0 ∨ g = 1 → ∀ k, k ≤ 4 → (t ++ meet4 s r c n fs fr ps pr).deaf g (t.size + k) = 0 := by
    intro g hg k
    have base : Deaf t g = 0 := by rcases hg with rfl | rfl; exact h.deaf0; exact h.deaf1
    induction k with
    | zero => intro _; rw [Nat.add_zero, deaf_old (Nat.le_refl _)]; exact base
    | succ k ih =>
      intro hk
      have hlt : t.size + k < (t ++ meet4 s r c n fs fr ps pr).size := by simp [meet4]; omega
      obtain ⟨y, hy⟩ : ∃ y, (t ++ meet4 s r c n fs fr ps pr)[t.size + k]? = some y := ⟨_, Array.getElem?_eq_getElem hlt⟩
      rw [← Nat.add_assoc, deaf_succ hy, ih (by omega)]
      have hm : y ∈ meet4 s r c n fs fr ps pr := by
        rcases getElem?_append_cases hy with ⟨h1, _⟩ | ⟨_, h2⟩
        · omega
        · exact h2
      obtain ⟨_, h1, h2⟩ := hquiet y hm
      unfold deafStep
      split
      · rename_i h; exact absurd h h1
      · rename_i h; exact absurd h h2
      · rfl
  have hs01 : s = 0 ∨ s = 1 := by omega
  have hr01 : r = 0 ∨ r = 1 := by omega
  have heard : ∀ g k (y : MemOp), g = 0 ∨ g = 1 → k ≤ 4 → (t ++ meet4 s r c n fs fr ps pr)[t.size + k]? = some y → y.g = g → (t ++ meet4 s r c n fs fr ps pr).heard (t.size + k) :=
    fun g k y hg hk hy hyg => ⟨g, by simp [Trace.g?, hy, hyg], d g hg k hk⟩
  have edge1 : HappensBefore (t ++ meet4 s r c n fs fr ps pr) t.size (t.size + 3) :=
    .single (.inr ⟨.handOver (c := c) (k := n) (act?_of e0) (act?_of e3), heard s 0 _ hs01 (by omega) e0 rfl, heard r 3 _ hr01 (by omega) e3 rfl⟩)
  have edge2 : HappensBefore (t ++ meet4 s r c n fs fr ps pr) (t.size + 1) (t.size + 2) :=
    .single (.inr ⟨.room (c := c) (k := n) (cap := 0) (act?_of e1) (act?_of e2), heard r 1 _ hr01 (by omega) e1 rfl, heard s 2 _ hs01 (by omega) e2 rfl⟩)
  have know : ∀ i a, touchAt (t ++ meet4 s r c n fs fr ps pr) i = some a → Knows (t ++ meet4 s r c n fs fr ps pr) 0 i ∧ Knows (t ++ meet4 s r c n fs fr ps pr) 1 i := by
    intro i a ha
    obtain ⟨x, hx, hxa⟩ := touch_of ha
    rcases getElem?_append_cases hx with ⟨hi, hx'⟩ | ⟨_, hm⟩
    · have own := knows_own hx
      have other : (x.g = s → Knows (t ++ meet4 s r c n fs fr ps pr) r i) ∧ (x.g = r → Knows (t ++ meet4 s r c n fs fr ps pr) s i) := by
        refine ⟨fun e => ⟨t.size + 3, _, e3, rfl, .inr ((hb_po hi hx e0 e).trans edge1)⟩, fun e => ⟨t.size + 2, _, e2, rfl, .inr ((hb_po (by omega) hx e1 e).trans edge2)⟩⟩
      rcases h.two i x hx' with e | e <;> rcases hsr with ⟨rfl, rfl⟩ | ⟨rfl, rfl⟩ <;> rw [e] at own
      · exact ⟨own, other.1 e⟩
      · exact ⟨own, other.2 e⟩
      · exact ⟨other.2 e, own⟩
      · exact ⟨other.1 e, own⟩
    · rw [(hquiet x hm).1] at hxa; cases hxa
  refine ⟨fun said => ?_, fun i a _ ha => know i a ha, fun i op a hi ho ha => ?_, ha, ?_, ?_, fun i op ho => ?_, Nat.le_refl _⟩
  · rintro ⟨i, j, hij, ⟨a, b, hxa, hyb, hc⟩, n1, n2⟩
    obtain ⟨x, hx, hxa'⟩ := touch_of hxa
    obtain ⟨y, hy, hyb'⟩ := touch_of hyb
    rcases getElem?_append_cases hy with ⟨hj, hy'⟩ | ⟨_, hm⟩
    · have hi : i < t.size := Nat.lt_trans hij hj
      have hx' : t[i]? = some x := by rw [← getElem?_append_old (u := meet4 s r c n fs fr ps pr) hi]; exact hx
      exact h.nr said ⟨i, j, hij, ⟨a, b, by simp [Trace.act?, hx', hxa'], by simp [Trace.act?, hy', hyb'], hc⟩, fun e => n1 (hb_app _ e), fun e => n2 (hb_app _ e)⟩
    · rw [(hquiet y hm).1] at hyb'; cases hyb'
  · have := lt_size_of_getElem? ho; omega
  · rw [deaf_still t 0 _ fun op ho => (hquiet op ho).2]; exact h.deaf0
  · rw [deaf_still t 1 _ fun op ho => (hquiet op ho).2]; exact h.deaf1
  · rcases getElem?_append_cases ho with ⟨_, ho'⟩ | ⟨_, hm⟩
    · exact h.two i op ho'
    · simp only [meet4, List.mem_toArray, List.mem_cons, List.not_mem_nil, or_false] at hm
      rcases hm with rfl | rfl | rfl | rfl <;> simp only <;> omega

end Go.Ab

/-
  Own library, part 34: two goroutines at a channel without a buffer: who comes first waits, who comes second completes both.
-/
set_option linter.unusedSimpArgs false
namespace Go.Ab
open Go.Conc

/-- What goroutine 0 and goroutine 1 offer at channel c, and what each is handed; 's' sends, 'r' receives. -/
structure Meets (P : Program) (c : Nat) (cs0 : Array CommCase) (sh0 : CommShape) (cs1 : Array CommCase) (sh1 : CommShape) (v0 v1 : Value) (s r : Nat) : Prop where
  roles : (s = 0 ∧ r = 1) ∨ (s = 1 ∧ r = 0)
  wait0 : ∀ {a a₂ b : Goroutine} {w w₁ : World} {sl : Option (Nat × Nat)} {es : Array Event} {n : Nat}, stepG P true a w = .comm a₂ cs0 true sh0 w₁ es → w₁.heap[c]? = some (.chan 0 #[] false n n false) → b.status ≠ .blocked →
    runT P (duo a b w sl) 0 = (.next (duo (parked a₂ cs0 sh0) b w₁ sl), MemOp.ofEvents 0 a.frame.fn a.frame.place es)
  wait1 : ∀ {a b b₂ : Goroutine} {w w₁ : World} {sl : Option (Nat × Nat)} {es : Array Event} {n : Nat}, stepG P false b w = .comm b₂ cs1 true sh1 w₁ es → w₁.heap[c]? = some (.chan 0 #[] false n n false) → a.status ≠ .blocked →
    runT P (duo a b w sl) 1 = (.next (duo a (parked b₂ cs1 sh1) w₁ sl), MemOp.ofEvents 1 b.frame.fn b.frame.place es)
  meet0 : ∀ {a a₂ b₂ : Goroutine} {w w₁ : World} {sl : Option (Nat × Nat)} {es : Array Event} {n : Nat}, stepG P true a w = .comm a₂ cs0 true sh0 w₁ es → w₁.heap[c]? = some (.chan 0 #[] false n n false) →
    ∃ fs fr ps pr, runT P (duo a (parked b₂ cs1 sh1) w sl) 0 = (.next (duo (Go.Conc.served a₂ v0) (Go.Conc.served b₂ v1) (w₁.passed c n n false) sl), MemOp.ofEvents 0 a.frame.fn a.frame.place es ++ meet4 s r c n fs fr ps pr)
  meet1 : ∀ {a₂ b b₂ : Goroutine} {w w₁ : World} {sl : Option (Nat × Nat)} {es : Array Event} {n : Nat}, stepG P false b w = .comm b₂ cs1 true sh1 w₁ es → w₁.heap[c]? = some (.chan 0 #[] false n n false) →
    ∃ fs fr ps pr, runT P (duo (parked a₂ cs0 sh0) b w sl) 1 = (.next (duo (Go.Conc.served a₂ v0) (Go.Conc.served b₂ v1) (w₁.passed c n n false) sl), MemOp.ofEvents 1 b.frame.fn b.frame.place es ++ meet4 s r c n fs fr ps pr)
  again0 : ∀ {a₂ : Goroutine} {w : World} {n : Nat}, w.heap[c]? = some (.chan 0 #[] false n n false) → (parked a₂ cs0 sh0).again w = parked a₂ cs0 sh0
  again1 : ∀ {b₂ : Goroutine} {w : World} {n : Nat}, w.heap[c]? = some (.chan 0 #[] false n n false) → (parked b₂ cs1 sh1).again w = parked b₂ cs1 sh1

theorem noPartners {gs : Array Goroutine} {c : Nat} {d : Bool} (h : ∀ g ∈ gs, g.status ≠ .blocked) : partners gs c d = [] := by
  unfold partners
  rw [List.flatMap_eq_nil_iff]
  rintro ⟨g, i⟩ hgi
  have hg : g ∈ gs := by
    rw [Array.toList_zipIdx] at hgi
    have := (List.mem_zipIdx hgi).2.2
    rw [this]
    exact Array.mem_toList_iff.1 (List.getElem_mem _)
  have := h g hg
  simp only
  cases hs : g.status with
  | blocked => exact absurd hs this
  | _ => rfl

theorem again_parked {a : Goroutine} {cs : Array CommCase} {sh : CommShape} {w : World} (h : ∀ cc ∈ cs, ∃ r, cc.chan = .chan (some r) ∧ ∃ n, w.heap[r]? = some (.chan 0 #[] false n n false)) : (parked a cs sh).again w = parked a cs sh := by
  unfold Goroutine.again
  simp only [parked]
  rw [if_neg]
  rw [Array.any_eq_true]
  rintro ⟨i, hi, hc⟩
  obtain ⟨r, h1, n, h2⟩ := h _ (Array.getElem_mem hi)
  simp only [h1, h2] at hc
  cases hc

theorem default_fin : ({ (default : Goroutine) with status := .finished } : Goroutine).status ≠ .blocked := by simp

section
variable {P : Program} {c : Nat} {v z z' : Value}

/-- Goroutine 0 sends; goroutine 1 receives, and asks whether it was sent. -/
theorem meets_send : Meets P c #[scase c v z'] .send #[rcase c z] (.recv true) undef (.tuple #[v, .bool true]) 0 1 where
  roles := .inl ⟨rfl, rfl⟩
  wait0 := by
    intro a a₂ b w w₁ sl es n h hc hb
    have hp : partners #[{ (default : Goroutine) with status := .finished }, b] c false = [] := noPartners (by simp [hb])
    simp [runT, duo, Array.swapAt!, Array.swapAt, h, GStep.es, communicate, ways, scase, hc, hp, waitingAt, timerAhead, parked]
  wait1 := by
    intro a b b₂ w w₁ sl es n h hc ha
    have hp : partners #[a, { (default : Goroutine) with status := .finished }] c true = [] := noPartners (by simp [ha])
    simp [runT, duo, Array.swapAt!, Array.swapAt, h, GStep.es, communicate, ways, rcase, hc, hp, waitingAt, timerAhead, parked]
  meet0 := by
    intro a a₂ b₂ w w₁ sl es n h hc
    refine ⟨a₂.frame.fn, b₂.frame.fn, a₂.frame.place, b₂.frame.place, ?_⟩
    simp [runT, duo, Array.swapAt!, Array.swapAt, h, GStep.es, communicate, ways, scase, hc, partners, choose, Sem.run, Question.forced, bind, Sem.bind, pure, finishPartner, Goroutine.finishComm, commResult, parked, rcase, Go.Conc.served, World.passed, meet4]
  meet1 := by
    intro a₂ b b₂ w w₁ sl es n h hc
    refine ⟨a₂.frame.fn, b₂.frame.fn, a₂.frame.place, b₂.frame.place, ?_⟩
    simp [runT, duo, Array.swapAt!, Array.swapAt, h, GStep.es, communicate, ways, rcase, hc, partners, choose, Sem.run, Question.forced, bind, Sem.bind, pure, finishPartner, offeredValue, Goroutine.finishComm, commResult, parked, scase, Go.Conc.served, World.passed, meet4]
  again0 := fun h => again_parked (by intro cc hcc; simp only [List.mem_toArray, List.mem_singleton] at hcc; subst hcc; exact ⟨c, rfl, _, h⟩)
  again1 := fun h => again_parked (by intro cc hcc; simp only [List.mem_toArray, List.mem_singleton] at hcc; subst hcc; exact ⟨c, rfl, _, h⟩)

/-- Goroutine 1 sends; goroutine 0 receives in a select of one case. -/
theorem meets_select : Meets P c #[rcase c z] .select #[scase c v z'] .send (.tuple #[goInt 0, .bool true, v]) undef 1 0 where
  roles := .inr ⟨rfl, rfl⟩
  wait0 := by
    intro a a₂ b w w₁ sl es n h hc hb
    have hp : partners #[{ (default : Goroutine) with status := .finished }, b] c true = [] := noPartners (by simp [hb])
    simp [runT, duo, Array.swapAt!, Array.swapAt, h, GStep.es, communicate, ways, rcase, hc, hp, waitingAt, timerAhead, parked]
  wait1 := by
    intro a b b₂ w w₁ sl es n h hc ha
    have hp : partners #[a, { (default : Goroutine) with status := .finished }] c false = [] := noPartners (by simp [ha])
    simp [runT, duo, Array.swapAt!, Array.swapAt, h, GStep.es, communicate, ways, scase, hc, hp, waitingAt, timerAhead, parked]
  meet0 := by
    intro a a₂ b₂ w w₁ sl es n h hc
    refine ⟨b₂.frame.fn, a₂.frame.fn, b₂.frame.place, a₂.frame.place, ?_⟩
    simp [runT, duo, Array.swapAt!, Array.swapAt, h, GStep.es, communicate, ways, rcase, hc, partners, choose, Sem.run, Question.forced, bind, Sem.bind, pure, finishPartner, offeredValue, Goroutine.finishComm, commResult, parked, scase, Go.Conc.served, World.passed, meet4]
  meet1 := by
    intro a₂ b b₂ w w₁ sl es n h hc
    refine ⟨b₂.frame.fn, a₂.frame.fn, b₂.frame.place, a₂.frame.place, ?_⟩
    simp [runT, duo, Array.swapAt!, Array.swapAt, h, GStep.es, communicate, ways, scase, hc, partners, choose, Sem.run, Question.forced, bind, Sem.bind, pure, finishPartner, Goroutine.finishComm, commResult, parked, rcase, Go.Conc.served, World.passed, meet4]
  again0 := fun h => again_parked (by intro cc hcc; simp only [List.mem_toArray, List.mem_singleton] at hcc; subst hcc; exact ⟨c, rfl, _, h⟩)
  again1 := fun h => again_parked (by intro cc hcc; simp only [List.mem_toArray, List.mem_singleton] at hcc; subst hcc; exact ⟨c, rfl, _, h⟩)

end
end Go.Ab

