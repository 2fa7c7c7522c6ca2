/- Own text of this claim: part AbL. -/
import Derived.Test.YtjffanafmodhdaaGreatDoorAb3
import Derived.Conc.Neutral
set_option linter.unusedVariables false
set_option linter.unusedSimpArgs false
set_option linter.unusedSectionVars false
set_option linter.unnecessarySimpa false
/-
  Own library: a run that touches no memory but in the blocks of A, and what it lists.
-/
namespace Go

/-- What is not a row of cells, and no channel. -/
def Obj.plain : Obj → Bool
  | .cells .. => false
  | .chan .. => false
  | _ => true

open Classical in
/-- As 'run', but it stops where memory outside the blocks of A is touched, or where anything but plain memory is. -/
noncomputable def Sem.runL {α : Type} (A : Nat → Prop) (P : Program) : Sem α → World → Result α
  | .pure a, w => .ok a w
  | .load m a k, w => if A a.block ∧ m = .plain then (match w.cell? a with
    | some v => (k v).runL A P w
    | none => .halt (.stuck "") w) else .halt (.stuck "") w
  | .store m a v k, w => if A a.block ∧ m = .plain ∧ v.oneCell' = true ∧ (w.cell? a).isSome ∧ w.frozen? a = false then k.runL A P (w.setCell a v) else .halt (.stuck "") w
  | .new o k, w => (k w.heap.size).runL A P { w with heap := w.heap.push o }
  | .shape r k, w => (k (w.shape? r)).runL A P w
  | .freeze a n k, w => k.runL A P (w.freeze a n)
  | .frozen a k, w => (k (w.frozen? a)).runL A P w
  | .getObj r k, w => match w.heap[r]? with
    | some o => if A r ∧ o.plain = true then (k o).runL A P w else .halt (.stuck "") w
    | none => .halt (.stuck "") w
  | .setObj r o k, w => match w.heap[r]? with
    | some o' => if A r ∧ o'.plain = true ∧ o.isChan = false then k.runL A P { w with heap := w.heap.setIfInBounds r o } else .halt (.stuck "") w
    | none => .halt (.stuck "") w
  | .choose q k, w =>
    if q.forced then (k 0).runL A P w
    else (k (q.cut (w.tape w.drawn q))).runL A P { w with drawn := w.drawn + 1 }
  | .sys _ _, w => .halt (.stuck "") w
  | .program k, w => (k P).runL A P w
  | .mark m k, w => if Conc.Neutral m then k.runL A P w else .halt (.stuck "") w
  | .halt h, w => .halt h w

namespace Ab

/-- A plain access in a block of A, or a mark that says nothing. -/
inductive EvA (A : Nat → Prop) : Event → Prop
  | cell {a : Addr} {wr : Bool} (h : A a.block) : EvA A ⟨.cell a, wr, false⟩
  | obj {r : Nat} {wr : Bool} (h : A r) : EvA A ⟨.obj r, wr, false⟩
  | mark {m : Mark} (h : Conc.Neutral m) : EvA A ⟨.mark m, false, true⟩

theorem EvA.mono {A B : Nat → Prop} (h : ∀ b, A b → B b) {e : Event} (x : EvA A e) : EvA B e := by
  cases x with
  | cell x => exact .cell (h _ x)
  | obj x => exact .obj (h _ x)
  | mark x => exact .mark x

theorem plain_cases {o : Obj} (h : o.plain = true) : (∀ c e f, o ≠ .cells c e f) ∧ o.isChan = false := by
  cases o <;> simp [Obj.plain, Obj.isChan] at h ⊢

section
variable {α β : Type} {A : Nat → Prop} {P : Program}

theorem setCell_size (w : World) (a : Addr) (v : Value) : (w.setCell a v).heap.size = w.heap.size := by simp [World.setCell]
theorem freeze_size (w : World) (a : Addr) (n : Nat) : (w.freeze a n).heap.size = w.heap.size := by
  unfold World.freeze
  repeat' split
  all_goals simp

/-- Those of A that are there. -/
def Upto (A : Nat → Prop) (w : World) : Nat → Prop := fun b => A b ∧ b < w.heap.size

theorem runL_size : ∀ {x : Sem α} {w w' : World} {a : α}, x.runL A P w = .ok a w' → w.heap.size ≤ w'.heap.size := by
  intro x
  induction x with
  | pure a => intro w w' b h; simp only [Sem.runL] at h; cases h; exact Nat.le_refl _
  | load m a k ih =>
    intro w w' b h
    simp only [Sem.runL] at h
    split at h
    · split at h
      · exact ih _ h
      · cases h
    · cases h
  | store m a v k ih =>
    intro w w' b h
    simp only [Sem.runL] at h
    split at h
    · have := ih h
      rw [setCell_size] at this
      exact this
    · cases h
  | new o k ih =>
    intro w w' b h
    simp only [Sem.runL] at h
    have := ih _ h
    simp only [Array.size_push] at this
    omega
  | shape r k ih => intro w w' b h; simp only [Sem.runL] at h; exact ih _ h
  | freeze a n k ih =>
    intro w w' b h
    simp only [Sem.runL] at h
    have := ih h
    rw [freeze_size] at this
    exact this
  | frozen a k ih => intro w w' b h; simp only [Sem.runL] at h; exact ih _ h
  | getObj r k ih =>
    intro w w' b h
    simp only [Sem.runL] at h
    split at h
    · split at h
      · exact ih _ h
      · cases h
    · cases h
  | setObj r o k ih =>
    intro w w' b h
    simp only [Sem.runL] at h
    split at h
    · split at h
      · have := ih h
        simp only [Array.size_setIfInBounds] at this
        exact this
      · cases h
    · cases h
  | choose q k ih =>
    intro w w' b h
    simp only [Sem.runL] at h
    split at h
    · exact ih _ h
    · have := ih _ h
      exact this
  | sys c k ih => intro w w' b h; simp only [Sem.runL] at h; cases h
  | program k ih => intro w w' b h; simp only [Sem.runL] at h; exact ih _ h
  | mark m k ih =>
    intro w w' b h
    simp only [Sem.runL] at h
    split at h
    · exact ih h
    · cases h
  | halt h => intro w w' b h; simp only [Sem.runL] at h; cases h

theorem cell_lt {w : World} {a : Addr} {v : Value} (h : w.cell? a = some v) : a.block < w.heap.size := by
  unfold World.cell? at h
  rcases Nat.lt_or_ge a.block w.heap.size with h1 | h1
  · exact h1
  · rw [Array.getElem?_eq_none h1] at h
    cases h

theorem obj_lt {w : World} {r : Nat} {o : Obj} (h : w.heap[r]? = some o) : r < w.heap.size := by
  rcases Nat.lt_or_ge r w.heap.size with h1 | h1
  · exact h1
  · rw [Array.getElem?_eq_none h1] at h
    cases h

/-- What it answers, 'run' answers; what is listed. -/
theorem runL_runT : ∀ {x : Sem α} {w w' : World} {a : α} {es : Array Event}, x.runL A P w = .ok a w' → ∃ es', x.runT P w es = (.ok a w', es') ∧ ∀ e ∈ es', e ∈ es ∨ EvA (Upto A w') e := by
  intro x
  induction x with
  | pure a => intro w w' b es h; simp only [Sem.runL] at h; cases h; exact ⟨es, rfl, fun e he => .inl he⟩
  | load m a k ih =>
    intro w w' b es h
    simp only [Sem.runL] at h
    split at h
    · rename_i hA
      split at h
      · rename_i v hv
        obtain ⟨es', h1, h2⟩ := ih v (es := es.push ⟨.cell a, false, m == .atomic⟩) h
        refine ⟨es', by simp only [Sem.runT, hv]; exact h1, fun e he => ?_⟩
        rcases h2 e he with h3 | h3
        · rcases Array.mem_push.1 h3 with h4 | rfl
          · exact .inl h4
          · rw [hA.2]; exact .inr (.cell ⟨hA.1, Nat.lt_of_lt_of_le (cell_lt hv) (runL_size h)⟩)
        · exact .inr h3
      · cases h
    · cases h
  | store m a v k ih =>
    intro w w' b es h
    simp only [Sem.runL] at h
    split at h
    · rename_i hA
      obtain ⟨h1, h2, h3, h4, h5⟩ := hA
      obtain ⟨c, hc⟩ := Option.isSome_iff_exists.1 h4
      obtain ⟨es', g1, g2⟩ := ih (es := es.push ⟨.cell a, true, m == .atomic⟩) h
      refine ⟨es', ?_, fun e he => ?_⟩
      · cases v <;> first | (simp [Value.oneCell'] at h3; done) | (simp only [Sem.runT, hc, h5, Bool.false_eq_true, if_false]; exact g1)
      · rcases g2 e he with h6 | h6
        · rcases Array.mem_push.1 h6 with h7 | rfl
          · exact .inl h7
          · rw [h2]; exact .inr (.cell ⟨h1, Nat.lt_of_lt_of_le (cell_lt hc) (by have := runL_size h; rw [setCell_size] at this; exact this)⟩)
        · exact .inr h6
    · cases h
  | new o k ih => intro w w' b es h; simp only [Sem.runL] at h; exact ih _ h
  | shape r k ih => intro w w' b es h; simp only [Sem.runL] at h; exact ih _ h
  | freeze a n k ih => intro w w' b es h; simp only [Sem.runL] at h; exact ih h
  | frozen a k ih => intro w w' b es h; simp only [Sem.runL] at h; exact ih _ h
  | getObj r k ih =>
    intro w w' b es h
    simp only [Sem.runL] at h
    split at h
    · rename_i o ho
      split at h
      · rename_i hA
        obtain ⟨hn, hc⟩ := plain_cases hA.2
        obtain ⟨es', g1, g2⟩ := ih o (es := es.push ⟨.obj r, false, o.isChan⟩) h
        refine ⟨es', ?_, fun e he => ?_⟩
        · simp only [Sem.runT, ho]
          cases o <;> first | exact g1 | exact absurd rfl (hn _ _ _)
        · rcases g2 e he with h6 | h6
          · rcases Array.mem_push.1 h6 with h7 | rfl
            · exact .inl h7
            · rw [hc]; exact .inr (.obj ⟨hA.1, Nat.lt_of_lt_of_le (obj_lt ho) (runL_size h)⟩)
          · exact .inr h6
      · cases h
    · cases h
  | setObj r o k ih =>
    intro w w' b es h
    simp only [Sem.runL] at h
    split at h
    · rename_i o' ho
      split at h
      · rename_i hA
        obtain ⟨hn, _⟩ := plain_cases hA.2.1
        obtain ⟨es', g1, g2⟩ := ih (es := es.push ⟨.obj r, true, o.isChan⟩) h
        refine ⟨es', ?_, fun e he => ?_⟩
        · simp only [Sem.runT, ho]
          cases o' <;> first | exact g1 | exact absurd rfl (hn _ _ _)
        · rcases g2 e he with h6 | h6
          · rcases Array.mem_push.1 h6 with h7 | rfl
            · exact .inl h7
            · rw [hA.2.2]; exact .inr (.obj ⟨hA.1, Nat.lt_of_lt_of_le (obj_lt ho) (by have := runL_size h; simp only [Array.size_setIfInBounds] at this; exact this)⟩)
          · exact .inr h6
      · cases h
    · cases h
  | choose q k ih =>
    intro w w' b es h
    simp only [Sem.runL] at h
    split at h
    · rename_i hq
      obtain ⟨es', g1, g2⟩ := ih 0 (es := es) h
      exact ⟨es', by simp only [Sem.runT, hq, if_true]; exact g1, g2⟩
    · rename_i hq
      obtain ⟨es', g1, g2⟩ := ih _ (es := es) h
      exact ⟨es', by simp only [Sem.runT, hq]; exact g1, g2⟩
  | sys c k ih => intro w w' b es h; simp only [Sem.runL] at h; cases h
  | program k ih => intro w w' b es h; simp only [Sem.runL] at h; exact ih _ h
  | mark m k ih =>
    intro w w' b es h
    simp only [Sem.runL] at h
    split at h
    · rename_i hm
      obtain ⟨es', g1, g2⟩ := ih (es := es.push ⟨.mark m, false, true⟩) h
      refine ⟨es', g1, fun e he => ?_⟩
      rcases g2 e he with h6 | h6
      · rcases Array.mem_push.1 h6 with h7 | rfl
        · exact .inl h7
        · exact .inr (.mark hm)
      · exact .inr h6
    · cases h
  | halt h => intro w w' b es h; simp only [Sem.runL] at h; cases h

theorem runL_run {x : Sem α} {w w' : World} {a : α} (h : x.runL A P w = .ok a w') : x.run P w = .ok a w' := by
  obtain ⟨es', h1, _⟩ := runL_runT (es := #[]) h
  rw [← Sem.runT_fst P x w #[], h1]

theorem runL_events {x : Sem α} {w w' : World} {a : α} (h : x.runL A P w = .ok a w') : ∀ e ∈ x.events P w #[], EvA (Upto A w') e := by
  obtain ⟨es', h1, h2⟩ := runL_runT (es := #[]) h
  intro e he
  unfold Sem.events at he
  rw [h1] at he
  rcases h2 e he with h3 | h3
  · simp at h3
  · exact h3

/-! ### How it goes through -/
section
variable (w : World)

theorem runL_bind' (x : Sem α) (f : α → Sem β) : ∀ w, (x.bind f).runL A P w = (x.runL A P w).andThen fun a w' => (f a).runL A P w' := by
  induction x with
  | pure a => intro w; simp [Sem.bind, Sem.runL]
  | load m a k ih => intro w; simp only [Sem.bind, Sem.runL]; (repeat' split) <;> simp [ih]
  | store m a v k ih => intro w; simp only [Sem.bind, Sem.runL]; (repeat' split) <;> simp [ih]
  | new o k ih => intro w; simp [Sem.bind, Sem.runL, ih]
  | shape r k ih => intro w; simp [Sem.bind, Sem.runL, ih]
  | freeze a n k ih => intro w; simp [Sem.bind, Sem.runL, ih]
  | frozen a k ih => intro w; simp [Sem.bind, Sem.runL, ih]
  | getObj r k ih => intro w; simp only [Sem.bind, Sem.runL]; (repeat' split) <;> simp [ih]
  | setObj r o k ih => intro w; simp only [Sem.bind, Sem.runL]; (repeat' split) <;> simp [ih]
  | choose q k ih => intro w; simp only [Sem.bind, Sem.runL]; split <;> simp [ih]
  | sys c k ih => intro w; simp [Sem.bind, Sem.runL]
  | program k ih => intro w; simp [Sem.bind, Sem.runL, ih]
  | mark m k ih => intro w; simp only [Sem.bind, Sem.runL]; split <;> simp [ih]
  | halt h => intro w; simp [Sem.bind, Sem.runL]

@[simp] theorem runL_bind (x : Sem α) (f : α → Sem β) : (x >>= f).runL A P w = (x.runL A P w).andThen fun a w' => (f a).runL A P w' := runL_bind' x f w
@[simp] theorem runL_map (x : Sem α) (f : α → β) : (f <$> x).runL A P w = (x.runL A P w).andThen fun a w' => .ok (f a) w' := runL_bind' x _ w
@[simp] theorem runL_pure (a : α) : (Pure.pure a : Sem α).runL A P w = .ok a w := rfl
@[simp] theorem runL_pure' (a : α) : (Sem.pure a).runL A P w = .ok a w := rfl
@[simp] theorem runL_ite (c : Prop) [Decidable c] (x y : Sem α) : (if c then x else y).runL A P w = if c then x.runL A P w else y.runL A P w := by split <;> rfl
@[simp] theorem runL_program : program.runL A P w = .ok P w := rfl
@[simp] theorem runL_newObj (o : Obj) : (newObj o).runL A P w = .ok w.heap.size { w with heap := w.heap.push o } := rfl
@[simp] theorem runL_shape (r : Nat) : (shape r).runL A P w = .ok (w.shape? r) w := rfl
@[simp] theorem runL_askRoom (n : Nat) : (askRoom n).runL A P w = .ok () w := by
  unfold askRoom
  split
  · simp only [mark, Sem.runL]
    rw [if_pos (show Conc.Neutral .noRoom from rfl)]
  · rfl
theorem runL_choose (q : Question) : (choose q).runL A P w = if q.forced then .ok 0 w else .ok (q.cut (w.tape w.drawn q)) { w with drawn := w.drawn + 1 } := by
  simp only [choose, Sem.runL]
theorem runL_getObj {r : Nat} {o : Obj} (h : w.heap[r]? = some o) (hA : A r) (hp : o.plain = true) : (getObj r).runL A P w = .ok o w := by
  simp only [getObj, Sem.runL, h, hA, hp, and_self, if_true]
theorem runL_setObj {r : Nat} {o o' : Obj} (h : w.heap[r]? = some o) (hA : A r) (hp : o.plain = true) (hc : o'.isChan = false) : (setObj r o').runL A P w = .ok () { w with heap := w.heap.setIfInBounds r o' } := by
  simp only [setObj, Sem.runL, h, hA, hp, hc, and_self, if_true]
theorem runL_load {a : Addr} {v : Value} (h : w.cell? a = some v) (hA : A a.block) : (load a).runL A P w = .ok v w := by
  simp only [load, Sem.runL, h, hA, and_self, if_true]
theorem runL_store {a : Addr} {v : Value} (hv : v.oneCell' = true) (hc : (w.cell? a).isSome) (hf : w.frozen? a = false) (hA : A a.block) : (store a v).runL A P w = .ok () (w.setCell a v) := by
  simp only [store, Sem.runL, hv, hc, hf, hA, and_self, if_true]
end
end
end Ab
end Go

