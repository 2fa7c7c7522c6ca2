/- Own text of this claim: part Ab39. -/
import Derived.Test.YtjffanafmodhdaaGreatDoorAb38
set_option linter.unusedVariables false
set_option linter.unusedSimpArgs false
set_option linter.unusedSectionVars false
set_option linter.unnecessarySimpa false
/-
  Own library, part 39: what the small trace says, said of the true one.
-/
set_option linter.unusedSectionVars false
namespace Go.Ab
open Go.Conc Go.ConcX

/-- What is asked of an operation behind the close: it touches the group's cells and the payload's alone; atomically the group's alone. -/
def okJ (Wg C : Nat) (act : MemAct) : Prop := ∀ x, act.touch? = some x → ∃ a, x.loc = .cell a ∧ (a.block = Wg ∨ a.block = C) ∧ (x.kind = .atomic → a.block = Wg)

@[reducible] def shyJ (Wg C : Nat) (stop : Goroutine → World → Prop) : Shy Wg C where
  ok := okJ Wg C
  atomicWg a wr h := fun x hx => by simp only [MemAct.touch?, Option.some.injEq] at hx; subst hx; exact ⟨a, rfl, .inl h, fun _ => h⟩
  readWg a h := fun x hx => by simp only [MemAct.touch?, Option.some.injEq] at hx; subst hx; exact ⟨a, rfl, .inl h, fun _ => h⟩
  writeWg a h := fun x hx => by simp only [MemAct.touch?, Option.some.injEq] at hx; subst hx; exact ⟨a, rfl, .inl h, fun _ => h⟩
  theirs a wr h := fun x hx => by simp only [MemAct.touch?, Option.some.injEq] at hx; subst hx; exact ⟨a, rfl, .inr h, fun e => by simp at e⟩
  disable := fun x hx => (by cases hx)
  enable := fun x hx => (by cases hx)
  relMerge := fun x hx => (by cases hx)
  acquire := fun x hx => (by cases hx)
  go1 := fun x hx => (by cases hx)
  start := fun x hx => (by cases hx)
  stop := stop

/-- The trace, once goroutine 0 has said its 'acquire'. -/
structure Fin (Wg : Nat) (t : Trace) : Prop where
  nr : ∀ said, ¬ Race said t
  known : ∀ i a, touchAt t i = some a → a.loc.isMemory = true → Knows t 0 i ∨ (OfWg Wg a.loc ∧ a.kind = .atomic)
  over : t.HandedOver
  hears : Deaf t 0 = 0
  two : ∀ (i : Nat) (op : MemOp), t[i]? = some op → op.g = 0 ∨ op.g = 1

structure Forked (t : Trace) (pg ps : Nat) : Prop where
  lt : pg < ps
  go : ∃ op, t[pg]? = some op ∧ op.g = 0 ∧ op.act = .go 1
  start : ∃ op, t[ps]? = some op ∧ op.g = 1 ∧ op.act = .start
  hgo : t.heard pg
  hstart : t.heard ps

theorem Forked.app {t : Trace} {pg ps : Nat} (h : Forked t pg ps) (u : Trace) : Forked (t ++ u) pg ps := by
  obtain ⟨x, hx, hx'⟩ := h.go
  obtain ⟨y, hy, hy'⟩ := h.start
  exact ⟨h.lt, ⟨x, by rw [getElem?_append_old (lt_size_of_getElem? hx)]; exact hx, hx'⟩, ⟨y, by rw [getElem?_append_old (lt_size_of_getElem? hy)]; exact hy, hy'⟩, (heard_old (lt_size_of_getElem? hx)).2 h.hgo, (heard_old (lt_size_of_getElem? hy)).2 h.hstart⟩

section
variable {t₀ u : Trace} {x0 y0 : MemOp} {pg ps : Nat}

/-- The small trace: the go statement, the start, what comes behind the close. -/
def ghost (x0 y0 : MemOp) (u : Trace) : Trace := #[x0, y0] ++ u
theorem ghost_0 : (ghost x0 y0 u)[0]? = some x0 := by unfold ghost; rw [Array.getElem?_append_left (by simp)]; simp
theorem ghost_1 : (ghost x0 y0 u)[1]? = some y0 := by unfold ghost; rw [Array.getElem?_append_left (by simp)]; simp
theorem ghost_s (i : Nat) : (ghost x0 y0 u)[i + 2]? = u[i]? := by unfold ghost; rw [Array.getElem?_append_right (by simp)]; simp
theorem ghost_size : (ghost x0 y0 u).size = u.size + 2 := by unfold ghost; simp; omega
theorem ghost_app (v : Trace) : ghost x0 y0 u ++ v = ghost x0 y0 (u ++ v) := by unfold ghost; rw [Array.append_assoc]

/-- Where the small trace's operations stand in the true one. -/
def lay (n pg ps : Nat) (i : Nat) : Nat := if i = 0 then pg else if i = 1 then ps else n + (i - 2)

theorem lay_get (hf : Forked t₀ pg ps) (hx : x0.g = 0 ∧ x0.act = .go 1) (hy : y0.g = 1 ∧ y0.act = .start) {i : Nat} {op : MemOp} (h : (ghost x0 y0 u)[i]? = some op) :
    ∃ op', (t₀ ++ u)[lay t₀.size pg ps i]? = some op' ∧ op'.g = op.g ∧ op'.act = op.act := by
  obtain ⟨x, hx1, hx2, hx3⟩ := hf.go
  obtain ⟨y, hy1, hy2, hy3⟩ := hf.start
  match i, h with
  | 0, h =>
    have : x0 = op := by rw [ghost_0] at h; exact Option.some.inj h
    subst this
    exact ⟨x, by rw [show lay t₀.size pg ps 0 = pg from rfl, getElem?_append_old (lt_size_of_getElem? hx1)]; exact hx1, by rw [hx2, hx.1], by rw [hx3, hx.2]⟩
  | 1, h =>
    have : y0 = op := by rw [ghost_1] at h; exact Option.some.inj h
    subst this
    exact ⟨y, by rw [show lay t₀.size pg ps 1 = ps from rfl, getElem?_append_old (lt_size_of_getElem? hy1)]; exact hy1, by rw [hy2, hy.1], by rw [hy3, hy.2]⟩
  | i + 2, h =>
    refine ⟨op, ?_, rfl, rfl⟩
    rw [ghost_s] at h
    rw [show lay t₀.size pg ps (i + 2) = t₀.size + i from rfl, Array.getElem?_append_right (by omega)]
    simpa using h

theorem lay_back {k : Nat} {y : MemOp} (hk : t₀.size ≤ k) (h : (t₀ ++ u)[k]? = some y) : ∃ i, 2 ≤ i ∧ k = lay t₀.size pg ps i ∧ (ghost x0 y0 u)[i]? = some y := by
  refine ⟨k - t₀.size + 2, by omega, ?_, ?_⟩
  · rw [show lay t₀.size pg ps (k - t₀.size + 2) = t₀.size + (k - t₀.size) from rfl]
    omega
  · rw [ghost_s]
    rw [Array.getElem?_append_right hk] at h
    exact h

theorem lay_mono (hf : Forked t₀ pg ps) {i j : Nat} (h : i < j) : lay t₀.size pg ps i < lay t₀.size pg ps j := by
  obtain ⟨y, hy1, _⟩ := hf.start
  have h1 := hf.lt
  have h2 := lt_size_of_getElem? hy1
  unfold lay
  by_cases hi0 : i = 0
  · rw [if_pos hi0, if_neg (by omega)]
    by_cases hj1 : j = 1
    · rw [if_pos hj1]; exact h1
    · rw [if_neg hj1]; omega
  · rw [if_neg hi0]
    by_cases hi1 : i = 1
    · rw [if_pos hi1, if_neg (by omega), if_neg (by omega)]; omega
    · rw [if_neg hi1, if_neg (by omega), if_neg (by omega)]; omega

theorem lay_deaf (hx : x0.g = 0 ∧ x0.act = .go 1) (hy : y0.g = 1 ∧ y0.act = .start) {g : Nat} (hd : Deaf t₀ g = 0) : ∀ i, i ≤ u.size → (t₀ ++ u).deaf g (t₀.size + i) = (ghost x0 y0 u).deaf g (i + 2)
  | 0, _ => by
    rw [Nat.add_zero, deaf_old (Nat.le_refl _)]
    rw [deaf_succ ghost_1, deaf_succ ghost_0]
    simp only [deafStep, hx.2, hy.2, Trace.deaf]
    exact hd
  | i + 1, hi => by
    have hu : u[i]? = some u[i] := Array.getElem?_eq_getElem (by omega)
    have e1 : (t₀ ++ u)[t₀.size + i]? = some u[i] := by rw [Array.getElem?_append_right (by omega)]; simp
    have e2 : (ghost x0 y0 u)[i + 2]? = some u[i] := by rw [ghost_s]; exact hu
    rw [← Nat.add_assoc, deaf_succ e1, deaf_succ e2, lay_deaf hx hy hd i (by omega)]

section
variable (hf : Forked t₀ pg ps) (hx : x0.g = 0 ∧ x0.act = .go 1) (hy : y0.g = 1 ∧ y0.act = .start) (hd0 : Deaf t₀ 0 = 0) (hd1 : Deaf t₀ 1 = 0)
  (two : ∀ (i : Nat) (op : MemOp), (ghost x0 y0 u)[i]? = some op → op.g = 0 ∨ op.g = 1)
include hf hx hy hd0 hd1

theorem lay_act {i : Nat} {a : MemAct} (h : (ghost x0 y0 u).act? i = some a) : (t₀ ++ u).act? (lay t₀.size pg ps i) = some a := by
  obtain ⟨op, ho, rfl⟩ := Option.map_eq_some_iff.1 h
  obtain ⟨op', h1, _, h3⟩ := lay_get (u := u) hf hx hy ho
  rw [act?_of h1, h3]
theorem lay_g {i g : Nat} (h : (ghost x0 y0 u).g? i = some g) : (t₀ ++ u).g? (lay t₀.size pg ps i) = some g := by
  obtain ⟨op, ho, rfl⟩ := Option.map_eq_some_iff.1 h
  obtain ⟨op', h1, h2, _⟩ := lay_get (u := u) hf hx hy ho
  simp [Trace.g?, h1, h2]

include two in
theorem lay_heard {i : Nat} (h : (ghost x0 y0 u).heard i) : (t₀ ++ u).heard (lay t₀.size pg ps i) := by
  obtain ⟨g, hg, hd⟩ := h
  match i, hg, hd with
  | 0, _, _ =>
    obtain ⟨x, hx1, _⟩ := hf.go
    exact (heard_old (lt_size_of_getElem? hx1)).2 hf.hgo
  | 1, _, _ =>
    obtain ⟨y, hy1, _⟩ := hf.start
    exact (heard_old (lt_size_of_getElem? hy1)).2 hf.hstart
  | i + 2, hg, hd =>
    refine ⟨g, lay_g hf hx hy hd0 hd1 hg, ?_⟩
    obtain ⟨op, ho, rfl⟩ := Option.map_eq_some_iff.1 hg
    have hi : i + 2 < (ghost x0 y0 u).size := lt_size_of_getElem? ho
    rw [ghost_size] at hi
    have hdg : Deaf t₀ op.g = 0 := by rcases two _ _ ho with e | e <;> rw [e] <;> assumption
    rw [show lay t₀.size pg ps (i + 2) = t₀.size + i from rfl, lay_deaf hx hy hdg i (by omega)]
    exact hd

include two in
theorem lay_heard_back {i : Nat} (h2 : 2 ≤ i) (hi : i < (ghost x0 y0 u).size) (h : (t₀ ++ u).heard (lay t₀.size pg ps i)) : (ghost x0 y0 u).heard i := by
  obtain ⟨g, hg, hd⟩ := h
  have ho : (ghost x0 y0 u)[i]? = some (ghost x0 y0 u)[i] := Array.getElem?_eq_getElem hi
  have hg' : (ghost x0 y0 u).g? i = some (ghost x0 y0 u)[i].g := by simp only [Trace.g?, ho, Option.map_some]
  have := lay_g hf hx hy hd0 hd1 hg'
  rw [hg] at this
  cases this
  refine ⟨_, hg', ?_⟩
  have hdg : Deaf t₀ (ghost x0 y0 u)[i].g = 0 := by rcases two _ _ ho with e | e <;> rw [e] <;> assumption
  obtain ⟨j, rfl⟩ : ∃ j, i = j + 2 := ⟨i - 2, by omega⟩
  have hj : j ≤ u.size := by
    rw [ghost_size] at hi
    omega
  rw [← lay_deaf (t₀ := t₀) hx hy hdg j hj]
  exact hd

include two in
theorem lay_hb {i j : Nat} (h : HappensBefore (ghost x0 y0 u) i j) : HappensBefore (t₀ ++ u) (lay t₀.size pg ps i) (lay t₀.size pg ps j) := by
  have between : ∀ {i j k : Nat}, lay t₀.size pg ps i < k → k < lay t₀.size pg ps j → ∀ a : MemAct, 2 ≤ i → (t₀ ++ u).act? k = some a → ∃ k', i < k' ∧ k' < j ∧ (ghost x0 y0 u).act? k' = some a := by
    intro i j k h1 h2 a hi ha
    obtain ⟨y, hy', rfl⟩ := Option.map_eq_some_iff.1 ha
    have hk : t₀.size ≤ k := by
      have : t₀.size ≤ lay t₀.size pg ps i := by
        unfold lay
        rw [if_neg (by omega), if_neg (by omega)]
        omega
      omega
    obtain ⟨k', _, rfl, hk'⟩ := lay_back (x0 := x0) (y0 := y0) (pg := pg) (ps := ps) hk hy'
    refine ⟨k', ?_, ?_, act?_of hk'⟩
    · rcases Nat.lt_trichotomy i k' with e | e | e
      · exact e
      · subst e; omega
      · have := lay_mono hf e; omega
    · rcases Nat.lt_trichotomy k' j with e | e | e
      · exact e
      · subst e; omega
      · have := lay_mono hf e; omega
  have act0 : ∀ {i : Nat} {a : MemAct}, (ghost x0 y0 u).act? i = some a → a ≠ .go 1 → a ≠ .start → 2 ≤ i := by
    intro i a h h1 h2
    match i, h with
    | 0, h => exact absurd (by rw [act?_of ghost_0, hx.2] at h; exact (Option.some.inj h).symm) h1
    | 1, h => exact absurd (by rw [act?_of ghost_1, hy.2] at h; exact (Option.some.inj h).symm) h2
    | i + 2, _ => omega
  have edge : ∀ a b, (ProgramOrder (ghost x0 y0 u) a b ∨ (Notices (ghost x0 y0 u) a b ∧ (ghost x0 y0 u).heard a ∧ (ghost x0 y0 u).heard b)) →
      (ProgramOrder (t₀ ++ u) (lay t₀.size pg ps a) (lay t₀.size pg ps b) ∨ (Notices (t₀ ++ u) (lay t₀.size pg ps a) (lay t₀.size pg ps b) ∧ (t₀ ++ u).heard (lay t₀.size pg ps a) ∧ (t₀ ++ u).heard (lay t₀.size pg ps b))) := by
    rintro a b (⟨hab, g, h1, h2⟩ | ⟨n, h1, h2⟩)
    · exact .inl ⟨lay_mono hf hab, g, lay_g hf hx hy hd0 hd1 h1, lay_g hf hx hy hd0 hd1 h2⟩
    · refine .inr ⟨?_, lay_heard hf hx hy hd0 hd1 two h1, lay_heard hf hx hy hd0 hd1 two h2⟩
      have A : ∀ {i : Nat} {a : MemAct}, (ghost x0 y0 u).act? i = some a → (t₀ ++ u).act? (lay t₀.size pg ps i) = some a := fun h => lay_act hf hx hy hd0 hd1 h
      cases n with
      | atomic hij hi hj hb =>
        exact .atomic (lay_mono hf hij) (A hi) (A hj) fun k sync k1 k2 e => by
          obtain ⟨k', e1, e2, e3⟩ := between k1 k2 _ (act0 hi (by simp) (by simp)) e
          exact hb k' sync e1 e2 e3
      | spawn hi hj hg => exact .spawn (A hi) (A hj) (lay_g hf hx hy hd0 hd1 hg)
      | handOver hi hj => exact .handOver (A hi) (A hj)
      | room hi hj => exact .room (A hi) (A hj)
      | closed hi hj => exact .closed (A hi) (A hj)
      | marked hij hi hj hb =>
        exact .marked (lay_mono hf hij) (hi.imp A A) (A hj) fun k k1 k2 e => by
          obtain ⟨k', e1, e2, e3⟩ := between k1 k2 _ (hi.elim (fun h => act0 h (by simp) (by simp)) (fun h => act0 h (by simp) (by simp))) e
          exact hb k' e1 e2 e3
  induction h with
  | single e => exact .single (edge _ _ e)
  | tail _ e ih => exact .tail ih (edge _ _ e)

include two in
theorem lay_knows {i : Nat} (h : Knows (ghost x0 y0 u) 0 i) : Knows (t₀ ++ u) 0 (lay t₀.size pg ps i) := by
  obtain ⟨q, z, hz, hg, hb⟩ := h
  obtain ⟨z', h1, h2, _⟩ := lay_get (u := u) hf hx hy hz
  exact ⟨_, z', h1, h2.trans hg, hb.elim (fun e => .inl (by rw [e])) (fun e => .inr (lay_hb hf hx hy hd0 hd1 two e))⟩

variable {Wg C : Nat} [Shy Wg C] {p : Nat} {F0 : Nat → Prop}
include two in
theorem fin_join (hT : Tr t₀ p F0 (fun _ => False)) (hW : ¬ F0 Wg) (hC : ¬ F0 C) (hok : ∀ act, Shy.ok Wg C act → okJ Wg C act) {q : Nat} (hj : JT NoMine Wg C (ghost x0 y0 u) q) (hA : Acq Wg (ghost x0 y0 u)) (hear : Deaf (ghost x0 y0 u) 0 = 0) :
    Fin Wg (t₀ ++ u) ∧ Deaf (t₀ ++ u) 1 = Deaf (ghost x0 y0 u) 1 := by
  have small : ∀ i a, touchAt (ghost x0 y0 u) i = some a → a.loc.isMemory = true → Knows (ghost x0 y0 u) 0 i ∨ (OfWg Wg a.loc ∧ a.kind = .atomic) := by
    intro i a ha hm
    obtain ⟨x, hx', hxa⟩ := touch_of ha
    obtain ⟨q, r, hr, hq, hg, hh, hrq⟩ := hA
    rcases hj.fm.two hx' with e | e
    · have := knows_own hx'
      rw [e] at this
      exact .inl this
    · have hgi : (ghost x0 y0 u).g? i = some 1 := by simp only [Trace.g?, hx', Option.map_some, e]
      rcases Nat.lt_or_ge r i with hlt | hle
      · have hnc := hr.after i hlt hgi
        have hk : a.kind = .atomic := by
          by_cases hk : a.kind = .atomic
          · exact hk
          · exact absurd ⟨a, ha, hm, .inl hk⟩ hnc
        obtain ⟨ad, h1, _, h2⟩ := hok _ (hj.oks x (mem_of_getElem? hx')) a hxa
        exact .inr ⟨⟨ad, h1, h2 hk⟩, hk⟩
      · obtain ⟨z, hz, hzg⟩ := Option.map_eq_some_iff.1 hg
        have edge : HappensBefore (ghost x0 y0 u) r q := .single (.inr ⟨.marked hrq (.inr hr.act) hq (fun k _ _ => hj.norel k), hr.heard, hh⟩)
        refine .inl ⟨q, z, hz, hzg, .inr ?_⟩
        rcases Nat.lt_or_ge i r with hlt | hge
        · exact .trans (.single (.inl ⟨hlt, 1, hgi, hr.g⟩)) edge
        · obtain rfl : i = r := by omega
          exact edge
  have place : ∀ k a, touchAt (t₀ ++ u) k = some a → (k < t₀.size ∧ touchAt t₀ k = some a) ∨ ∃ i, 2 ≤ i ∧ i < (ghost x0 y0 u).size ∧ k = lay t₀.size pg ps i ∧ touchAt (ghost x0 y0 u) i = some a := by
    intro k a ha
    rcases Nat.lt_or_ge k t₀.size with hk | hk
    · exact .inl ⟨hk, by rw [← touchAt_old (u := u) hk]; exact ha⟩
    · obtain ⟨y, hy', hya⟩ := touch_of ha
      obtain ⟨i, h2, rfl, hi⟩ := lay_back (x0 := x0) (y0 := y0) (pg := pg) (ps := ps) hk hy'
      exact .inr ⟨i, h2, lt_size_of_getElem? hi, rfl, by rw [touchAt_of hi]; exact hya⟩
  have mem0 : ∀ k a, touchAt t₀ k = some a → Knows t₀ 0 k := by
    intro k a ha
    rcases Nat.lt_or_ge k p with hk | hk
    · exact (hT.old k a hk ha).1
    · obtain ⟨x, hx', hxa⟩ := touch_of ha
      rcases hT.mine k x a hk hx' hxa with ⟨e, _⟩ | ⟨_, h⟩
      · have := knows_own hx'
        rwa [e] at this
      · exact (LocIn.apart (fun b (x : False) _ => x) h h).elim
  refine ⟨⟨fun said => ?_, fun k a ha hm => ?_, fun k g hg hne hcn => ?_, ?_, fun k op hk => ?_⟩, ?_⟩
  · rintro ⟨x, y, hxy, ⟨a, b, ha, hb, hcf⟩, n1, n2⟩
    rcases place x a ha with ⟨hxl, hax⟩ | ⟨i, hi2, hi, rfl, hai⟩
    · rcases place y b hb with ⟨hyl, hby⟩ | ⟨j, hj2, hjs, rfl, hbj⟩
      · exact hT.nr said ⟨x, y, hxy, ⟨a, b, hax, hby, hcf⟩, fun e => n1 (hb_app u e), fun e => n2 (hb_app u e)⟩
      · obtain ⟨z, hz, hzb⟩ := touch_of hbj
        obtain ⟨ad, hl, hblk, _⟩ := hok _ (hj.oks z (mem_of_getElem? hz)) b hzb
        obtain ⟨z', hz', hzg, _⟩ := lay_get (u := u) hf hx hy hz
        have hlo : t₀.size ≤ lay t₀.size pg ps j := by
          unfold lay
          rw [if_neg (by omega), if_neg (by omega)]
          omega
        rcases Nat.lt_or_ge x p with hk | hk
        · obtain ⟨k0, k1⟩ := hT.old x a hk hax
          rcases two _ _ hz with e | e
          · exact n1 (k0.hb_new hlo hz' (hzg.trans e))
          · exact n1 (k1.hb_new hlo hz' (hzg.trans e))
        · obtain ⟨v, hv, hva⟩ := touch_of hax
          rcases hT.mine x v a hk hv hva with ⟨_, hin⟩ | ⟨_, hin⟩
          · rw [hcf.1, hl] at hin
            have hin : F0 ad.block := hin
            rcases hblk with e | e
            · rw [e] at hin; exact hW hin
            · rw [e] at hin; exact hC hin
          · exact (LocIn.apart (fun b (x : False) _ => x) hin hin).elim
    · rcases place y b hb with ⟨hyl, _⟩ | ⟨j, hj2, hjs, rfl, hbj⟩
      · have : t₀.size ≤ lay t₀.size pg ps i := by
          unfold lay
          rw [if_neg (by omega), if_neg (by omega)]
          omega
        omega
      · have hij : i < j := by
          rcases Nat.lt_trichotomy i j with e | e | e
          · exact e
          · subst e; omega
          · have := lay_mono hf e; omega
        by_cases h1 : HappensBefore (ghost x0 y0 u) i j
        · exact n1 (lay_hb hf hx hy hd0 hd1 two h1)
        · by_cases h2 : HappensBefore (ghost x0 y0 u) j i
          · exact n2 (lay_hb hf hx hy hd0 hd1 two h2)
          · exact hj.nr said ⟨i, j, hij, ⟨a, b, hai, hbj, hcf⟩, h1, h2⟩
  · rcases place k a ha with ⟨_, hak⟩ | ⟨i, _, _, rfl, hai⟩
    · exact .inl ((mem0 k a hak).app u)
    · exact (small i a hai hm).imp (lay_knows hf hx hy hd0 hd1 two) id
  · obtain ⟨a, ha, hmem, hkind⟩ := id hcn
    rcases place k a ha with ⟨hk, hak⟩ | ⟨i, hi2, hi, rfl, hai⟩
    · obtain ⟨j, z, hz, hzg, hb⟩ := mem0 k a hak
      have hne' : k ≠ j := by
        rintro rfl
        have : (t₀ ++ u).g? k = some z.g := by simp [Trace.g?, getElem?_append_old hk, hz]
        rw [hg, hzg] at this
        cases this
        exact hne rfl
      exact ⟨j, by simp [Trace.g?, getElem?_append_old (lt_size_of_getElem? hz), hz, hzg], hb_app u (hb.resolve_left hne')⟩
    · have ho : (ghost x0 y0 u)[i]? = some (ghost x0 y0 u)[i] := Array.getElem?_eq_getElem hi
      have hgi : (ghost x0 y0 u).g? i = some (ghost x0 y0 u)[i].g := by simp only [Trace.g?, ho, Option.map_some]
      have hge := lay_g hf hx hy hd0 hd1 hgi
      rw [hg] at hge
      cases hge
      obtain ⟨j, hj', hb⟩ := (hA.handedOver hj) i _ hgi hne ⟨a, hai, hmem, hkind.imp id (lay_heard_back hf hx hy hd0 hd1 two hi2 hi)⟩
      exact ⟨_, lay_g hf hx hy hd0 hd1 hj', lay_hb hf hx hy hd0 hd1 two hb⟩
  · have := lay_deaf (t₀ := t₀) (u := u) hx hy hd0 u.size (Nat.le_refl _)
    unfold Deaf at hear ⊢
    rw [ghost_size] at hear
    rw [Array.size_append, this]
    exact hear
  · rcases getElem?_append_cases hk with ⟨_, hk'⟩ | ⟨hk', _⟩
    · exact hT.two k op hk'
    · obtain ⟨i, _, rfl, hi⟩ := lay_back (x0 := x0) (y0 := y0) (pg := pg) (ps := ps) hk' hk
      exact two i op hi
  · have := lay_deaf (t₀ := t₀) (u := u) hx hy hd1 u.size (Nat.le_refl _)
    unfold Deaf
    rw [ghost_size, Array.size_append, this]
end
end
end Go.Ab

/-
  Own library, part 40: from 'Acquired' to the run's end.
-/
set_option linter.unusedSectionVars false
namespace Go.Ab
open Go.Conc Go.ConcX

/-- What goroutine 0 may list behind its 'acquire'. -/
def EvF (Wg : Nat) (e : Event) : Prop := (∀ x, (MemAct.ofEvent e).touch? = some x → OfWg Wg x.loc → x.kind ≠ .plain) ∧ e.loc ≠ .mark .disable ∧ e.loc ≠ .mark .enable

def DF (Wg : Nat) (_ _ : World) (es : Array Event) : Prop := ∀ e ∈ es, EvF Wg e

def AtEndF (P : Program) (Wg : Nat) (Post : Value → World → Prop) (g : Goroutine) (w : World) : Prop :=
  g.status = .running ∧ ∃ v es, stepG P true g w = .ended (.done v) w es ∧ (∀ e ∈ es, EvF Wg e) ∧ Post v w

theorem evF_of {Wg : Nat} {A : Nat → Prop} (h : ¬ A Wg) {e : Event} (x : EvA A e) : EvF Wg e := by
  cases x with
  | cell ha =>
    refine ⟨fun y hy ⟨a, e1, e2⟩ => ?_, by simp, by simp⟩
    simp [MemAct.ofEvent, MemAct.touch?] at hy
    subst hy
    cases e1
    exact (h (e2 ▸ ha)).elim
  | obj ha =>
    refine ⟨fun y hy ⟨a, e1, e2⟩ => ?_, by simp, by simp⟩
    simp [MemAct.ofEvent, MemAct.touch?] at hy
    subst hy
    cases e1
  | mark hm => exact ⟨fun y hy => (by have := hm.touch; simp only [MemAct.ofEvent] at hy; rw [this] at hy; cases hy), by simp only [ne_eq, Loc.mark.injEq]; exact hm.ne_disable, by simp only [ne_eq, Loc.mark.injEq]; exact hm.ne_enable⟩

section
variable {Wg : Nat} {t : Trace}

theorem Fin.own (h : Fin Wg t) {fn : FuncId} {pos : String} {es : Array Event} (hes : ∀ e ∈ es, EvF Wg e) : Fin Wg (t ++ MemOp.ofEvents 0 fn pos es) := by
  have g0 : ∀ op ∈ MemOp.ofEvents 0 fn pos es, op.g = 0 := fun op hop => by obtain ⟨e, _, rfl⟩ := Go.Conc.mem_ofEvents hop; rfl
  refine ⟨fun said => noRace_append (h.nr said) g0 fun i a ha op hop b hb hc => ?_, fun i a ha hm => ?_, handedOver_app h.over fun op hop => .inl (g0 op hop), ?_, fun i op ho => ?_⟩
  · rcases h.known i a ha hc.2.1 with hk | ⟨hs, hka⟩
    · exact hk
    · obtain ⟨e, he, rfl⟩ := Go.Conc.mem_ofEvents hop
      have hkb := (hes e he).1 b hb (hc.1 ▸ hs)
      obtain ⟨_, _, _, hcase⟩ := hc
      rw [hka] at hcase
      rcases hcase with x | x | ⟨_, x, _⟩
      · cases x
      · exact absurd x hkb
      · cases x
  · obtain ⟨x, hx, hxa⟩ := touch_of ha
    rcases getElem?_append_cases hx with ⟨_, hx'⟩ | ⟨_, hxu⟩
    · exact (h.known i a (by rw [touchAt_of hx']; exact hxa) hm).imp (·.app _) id
    · have := knows_own hx
      rw [g0 x hxu] at this
      exact .inl this
  · rw [Deaf_own, deafBehind_still (fun e he => ⟨(hes e he).2.1, (hes e he).2.2⟩)]
    exact h.hears
  · rcases getElem?_append_cases ho with ⟨_, ho'⟩ | ⟨_, hm⟩
    · exact h.two i op ho'
    · exact .inl (g0 op hm)

theorem Fin.mute (h : Fin Wg t) {fn : FuncId} {pos : String} {es : Array Event} (hm : ∀ e ∈ es, e.mute = true) : Fin Wg (t ++ MemOp.ofEvents 1 fn pos es) := by
  have g1 : ∀ op ∈ MemOp.ofEvents 1 fn pos es, op.g = 1 ∧ op.act.touch? = none := fun op hop => by obtain ⟨e, he, rfl⟩ := Go.Conc.mem_ofEvents hop; exact ⟨rfl, touch_mute (hm e he)⟩
  refine ⟨fun said => noRace_append (g := 1) (h.nr said) (fun op hop => (g1 op hop).1) fun i a ha op hop b hb hc => ?_, fun i a ha hmm => ?_, handedOver_app h.over fun op hop => .inr (g1 op hop).2, ?_, fun i op ho => ?_⟩
  · rw [(g1 op hop).2] at hb; cases hb
  · obtain ⟨x, hx, hxa⟩ := touch_of ha
    rcases getElem?_append_cases hx with ⟨_, hx'⟩ | ⟨_, hxu⟩
    · exact (h.known i a (by rw [touchAt_of hx']; exact hxa) hmm).imp (·.app _) id
    · rw [(g1 x hxu).2] at hxa; cases hxa
  · rw [Deaf_other t (g' := 1) (by decide) _ (fun op hop => (g1 op hop).1)]; exact h.hears
  · rcases getElem?_append_cases ho with ⟨_, ho'⟩ | ⟨_, hm'⟩
    · exact h.two i op ho'
    · exact .inr (g1 op hm').1
end

section
variable {P : Program} {main : Bool}

/-- One walk behind another; the second's length is known beforehand. -/
theorem goes_then {R : World → World → Prop} {D D' : World → World → Array Event → Prop} {S S' : Goroutine → World → Prop} {m : Nat} (hD : ∀ a b es, D a b es → D' a b es) (hS : ∀ g w, S g w → Goes P main R D' S' m g w) (hR : ∀ w, R w w) :
    ∀ {n : Nat} {g : Goroutine} {w : World}, Goes P main R D S n g w → Goes P main R D' S' (m + n) g w := by
  intro n
  induction n with
  | zero => exact fun h => hS _ _ (h _ (hR _))
  | succ n ih =>
    intro g w h
    rcases h with h | ⟨hs, h⟩
    · exact (hS _ _ (h _ (hR _))).mono (by omega)
    · refine Goes.step (n := m + n) hs fun w₁ h₁ => ?_
      obtain ⟨g', w', es, e, h2, h3⟩ := goes_elim (h w₁ h₁)
      rw [e]
      exact ⟨hD _ _ _ h2, ih h3⟩
end

section
variable {P : Program} {Wg : Nat} {Post : Value → World → Prop}

/-- Beside goroutine 1, which only leaves: to the return. -/
def LInv (P : Program) (Wg : Nat) (Post : Value → World → Prop) (μ : Nat) (m : Machine) (t : Trace) : Prop :=
  ∃ a b w sl n k, m = duo a b w sl ∧ μ = n + k ∧ Fin Wg t ∧ Goes P true AtRel (DF Wg) (AtEndF P Wg Post) n a w ∧ QuitsD P k (Deaf t 1) b

theorem last_step (μ : Nat) (m : Machine) (t : Trace) (h : LInv P Wg Post μ m t) :
    (∃ o w ops, Go.stepT P m = (.ended o w, ops) ∧ Go.Conc.Good P Post m o w (t ++ ops)) ∨ (∃ m' ops μ', Go.stepT P m = (.next m', ops) ∧ μ' < μ ∧ LInv P Wg Post μ' m' (t ++ ops)) := by
  obtain ⟨a, b, w, sl, n, k, rfl, rfl, hF, hG, hQ⟩ := h
  have hra : a.status = .running := hG.running (fun _ _ x => x.1) w (atRel_refl w)
  obtain ⟨d, sl', hmv⟩ := duo_pick (P := P) (sl := sl) (w := w) (awake_of (.inl hra)) (awake_of (hQ.status.elim .inl fun x => .inr (.inr x))) (.inl hra)
  have hG' : Goes P true AtRel (DF Wg) (AtEndF P Wg Post) n a (w.at d) := hG.rely atRel_trans ⟨d, rfl⟩
  rcases hmv with ⟨_, hst⟩ | ⟨hrb, hst⟩
  · have ends : AtEndF P Wg Post a (w.at d) → ∃ o w' ops, Go.stepT P (duo a b w sl) = (.ended o w', ops) ∧ Go.Conc.Good P Post (duo a b w sl) o w' (t ++ ops) := by
      rintro ⟨_, v, es, hend, hes, hpost⟩
      have hrun : runT P (duo a b (w.at d) sl') 0 = (.ended (.done v) (w.at d), MemOp.ofEvents 0 a.frame.fn a.frame.place es) := by
        have := runT_many_ended (P := P) (gs := #[a, b]) (sl := sl') (i := 0) (g := a) rfl hend
        exact this
      have hF' := hF.own (fn := a.frame.fn) (pos := a.frame.place) hes
      refine ⟨_, _, _, hst.trans hrun, v, rfl, hpost, hF'.nr, hF'.over, ⟨fun x hx => ?_, rfl⟩, fun j x hx hj => ?_⟩
      · simp only [duo, List.drop_succ_cons, List.drop_zero, List.mem_singleton] at hx
        subst hx
        exact ⟨_, hQ.leaves⟩
      · have hj1 : j = 1 := by
          have := (Array.getElem?_eq_some_iff.1 hx).1
          simp only [duo, List.size_toArray, List.length_cons, List.length_nil] at this
          omega
        subst hj1
        have hxb : x = b := by simpa [duo] using hx.symm
        subst hxb
        refine ⟨k, ?_⟩
        have e : (t ++ MemOp.ofEvents 0 a.frame.fn a.frame.place es).deaf 1 (t ++ MemOp.ofEvents 0 a.frame.fn a.frame.place es).size = Deaf t 1 :=
          Deaf_other t (g := 1) (g' := 0) (by decide) _ (fun op hop => by obtain ⟨e, _, rfl⟩ := Go.Conc.mem_ofEvents hop; rfl)
        rw [e]
        exact hQ.hears _
    have step : ∀ n2, n = n2 + 1 → (stepG P true a (w.at d)).goes (fun g' w' es => DF Wg (w.at d) w' es ∧ Goes P true AtRel (DF Wg) (AtEndF P Wg Post) n2 g' w') → ∃ m' ops μ', Go.stepT P (duo a b w sl) = (.next m', ops) ∧ μ' < n + k ∧ LInv P Wg Post μ' m' (t ++ ops) := by
      intro n2 hn hgoes
      obtain ⟨a', w', es, hs, hD, hg'⟩ := goes_elim hgoes
      have hrun := runT_duo0 (b := b) (sl := sl') hs
      rw [woken_quitsD hQ] at hrun
      refine ⟨_, _, n2 + k, hst.trans hrun, by omega, a', b, w', sl', n2, k, rfl, rfl, hF.own hD, hg', ?_⟩
      rw [Deaf_other t (g := 1) (g' := 0) (by decide) _ (fun op hop => by obtain ⟨e, _, rfl⟩ := Go.Conc.mem_ofEvents hop; rfl)]
      exact hQ
    cases n with
    | zero => exact .inl (ends (hG' _ (atRel_refl _)))
    | succ n =>
      rcases hG' with h | ⟨_, h⟩
      · exact .inl (ends (h _ (atRel_refl _)))
      · exact .inr (step n rfl (h _ (atRel_refl _)))
  · cases k with
    | zero => rw [hQ.1] at hrb; cases hrb
    | succ k =>
      rcases hQ with ⟨hf, _⟩ | ⟨_, b', es, hm, hstp, hq'⟩
      · rw [hf] at hrb; cases hrb
      have hrun := runT_duo1 (a := a) (sl := sl') (hstp (w.at d))
      rw [woken_run hra] at hrun
      refine .inr ⟨_, _, n + k, hst.trans hrun, by omega, a, b', w.at d, sl', n, k, rfl, rfl, hF.mute hm, hG', ?_⟩
      rw [Deaf_own]
      exact hq'

theorem last_runs {a b : Goroutine} {w : World} {sl : Option (Nat × Nat)} {n k : Nat} {t : Trace} (hF : Fin Wg t) (hG : Goes P true AtRel (DF Wg) (AtEndF P Wg Post) n a w) (hQ : QuitsD P k (Deaf t 1) b) :
    ∃ N last o w' t', runNT P (N + 1) (duo a b w sl) t = (.ended o w', t') ∧ runN P N (duo a b w sl) = .next last ∧ Go.step P last = .ended o w' ∧ Go.Conc.Good P Post last o w' t' :=
  run_of_inv Nat.lt_wfRel.wf (LInv P Wg Post) (Go.Conc.Good P Post) last_step (n + k) _ t ⟨a, b, w, sl, n, k, rfl, rfl, hF, hG, hQ⟩
end

variable [Payload]

section
variable {P : Program} {ty : TypeId} {Wg C Low : Nat} [Shy Wg C] {vals : List Value} {AnchW : Goroutine → World → Prop} {Post0 Post : Value → World → Prop}

theorem evF_of_EvJ {e : Event} (h : EvJ NoMine Wg C e) : EvF Wg e := by
  obtain ⟨h1, h2, h3⟩ := h
  obtain ⟨_, ht, _, _⟩ := h1 0 ""
  exact ⟨fun x hx ⟨a, ha, hb⟩ => (ht x hx).2.1 (.inl ⟨a, ha, hb⟩), h2, h3⟩

/-- FROM 'ACQUIRED' TO THE END. -/
theorem end_of_acquired {m : Machine} {T₀ u : Trace} {x0 y0 : MemOp} {pg ps p : Nat} {F0 : Nat → Prop} {mF : Nat} (hA : Acquired P ty Wg C Low vals NoMine Post0 m (ghost x0 y0 u))
    (hf : Forked T₀ pg ps) (hx : x0.g = 0 ∧ x0.act = .go 1) (hy : y0.g = 1 ∧ y0.act = .start) (hT : Tr T₀ p F0 (fun _ => False)) (hW : ¬ F0 Wg) (hC : ¬ F0 C) (hok : ∀ act, Shy.ok Wg C act → okJ Wg C act)
    (hstop : ∀ g w, Shy.stop Wg C g w → Goes P true AtRel (DF Wg) (AtEndF P Wg Post) mF g w) :
    ∃ N last o w' t', runNT P (N + 1) m (T₀ ++ u) = (.ended o w', t') ∧ runN P N m = .next last ∧ Go.step P last = .ended o w' ∧ Go.Conc.Good P Post last o w' t' := by
  obtain ⟨a, b, w, sl, q, d1, k, mp, r, vs, rfl, hB, hG, hAcq, hQ⟩ := hA
  have two : ∀ (i : Nat) (op : MemOp), (ghost x0 y0 u)[i]? = some op → op.g = 0 ∨ op.g = 1 := fun i op h => hB.jt.fm.two h
  obtain ⟨hF, hd⟩ := fin_join hf hx hy hT.deaf0 hT.deaf1 two hT hW hC hok hB.jt hAcq hB.deaf0
  exact last_runs (k := k) hF (goes_then (fun _ _ es hD e he => evF_of_EvJ (hD.2 e he)) (fun g w h => hstop g w h.2) atRel_refl hG) (by rw [hd, hB.deaf1]; exact hQ)
end
end Go.Ab

