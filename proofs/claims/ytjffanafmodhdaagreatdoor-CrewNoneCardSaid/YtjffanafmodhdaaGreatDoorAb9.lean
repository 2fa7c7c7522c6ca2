/- Own text of this claim: part Ab9. -/
import Derived.Test.YtjffanafmodhdaaGreatDoorAb8
set_option linter.unusedVariables false
set_option linter.unusedSimpArgs false
set_option linter.unusedSectionVars false
set_option linter.unnecessarySimpa false
/-
  Own library, part 9: what a step may do to the heap; new things; cells written.
-/
namespace Go.Ab

variable {A : Nat → Prop}

def Fresh (ρ : Map) (a b : Nat) : Prop := ∀ id, a ≤ id → id < b → ρ id = none

structure Step (A : Nat → Prop) (P : Program) (ρ : Map) (s : St) (H : Array Obj) (ρ' : Map) (s' : St) (H' : Array Obj) : Prop where
  rel : Rel A P ρ' s' H'
  le : ρ.le ρ'
  next : s.next ≤ s'.next
  old : ∀ id, id < s.next ∨ s'.next ≤ id → ρ' id = ρ id
  live : ∀ id l, (s'.get id).isSome → ρ' id = some l → H.size ≤ l.b ∨ ∃ j m, (s.get j).isSome ∧ ρ j = some m ∧ m.b = l.b
  size : H.size ≤ H'.size
  frame : ∀ B, B < H.size → (∀ id l, (s.get id).isSome → ρ id = some l → l.b ≠ B) → H'[B]? = H[B]?

section
variable {P : Program} {ρ ρ₁ ρ₂ : Map} {s s₁ s₂ : St} {H H₁ H₂ : Array Obj}

theorem Step.refl (hR : Rel A P ρ s H) : Step A P ρ s H ρ s H :=
  ⟨hR, Map.le_refl ρ, Nat.le_refl _, fun _ _ => rfl, fun id l h h' => .inr ⟨id, l, h, h', rfl⟩, Nat.le_refl _, fun _ _ _ => rfl⟩

theorem Step.trans (a : Step A P ρ s H ρ₁ s₁ H₁) (b : Step A P ρ₁ s₁ H₁ ρ₂ s₂ H₂) : Step A P ρ s H ρ₂ s₂ H₂ where
  rel := b.rel
  le := Map.le_trans a.le b.le
  next := Nat.le_trans a.next b.next
  old := fun id h => by
    have h1 := a.next
    have h2 := b.next
    rw [b.old id (by omega), a.old id (by omega)]
  live := fun id l h hn => by
    rcases b.live id l h hn with hb | ⟨j, m, hj, hj', hm⟩
    · exact .inl (Nat.le_trans a.size hb)
    · rw [← hm]
      exact a.live j m hj hj'
  size := Nat.le_trans a.size b.size
  frame := fun B hB hn => by
    rw [b.frame B (Nat.lt_of_lt_of_le hB a.size), a.frame B hB hn]
    intro id l hl hl' e
    rcases a.live id l hl hl' with hb | ⟨j, m, hj, hj', hm⟩
    · omega
    · exact hn j m hj hj' (hm.trans e)

theorem Fresh.left {a b c : Nat} (h : Fresh ρ a c) (hb : b ≤ c) : Fresh ρ a b := fun id h1 h2 => h id h1 (Nat.lt_of_lt_of_le h2 hb)
theorem Step.fresh (a : Step A P ρ s H ρ₁ s₁ H₁) {c : Nat} (h : Fresh ρ s.next c) : Fresh ρ₁ s₁.next c := fun id h1 h2 => by
  rw [a.old id (.inr h1)]
  exact h id (Nat.le_trans a.next h1) h2

def Map.add (ρ : Map) (id : Nat) (l : Pl) : Map := fun j => if j = id then some l else ρ j

theorem Map.le_add {id : Nat} {l : Pl} (h : ρ id = none) : ρ.le (ρ.add id l) := fun j m hj => by
  unfold Map.add
  by_cases e : j = id
  · subst e; rw [h] at hj; cases hj
  · rw [if_neg e]; exact hj

theorem get_push_lt {o : Obj} {i : Nat} (h : i < H.size) : (H.push o)[i]? = H[i]? := by
  rw [Array.getElem?_push_lt h, Array.getElem?_eq_getElem h]

theorem St.get_new {o : AObj} (id : Nat) : (s.new o).get id = if id = s.next then some o else s.get id := by
  unfold St.new St.get
  exact T.get_put _ _ _ _

theorem St.get_set {o : AObj} (i id : Nat) : (s.set i o).get id = if id = i then some o else s.get id := by
  unfold St.set St.get
  exact T.get_put _ _ _ _

theorem St.get_kill (i id : Nat) : (s.kill i).get id = if id = i then none else s.get id := by
  unfold St.kill St.get
  exact T.get_put _ _ _ _

/-- A new thing in a new block. -/
theorem Step.new (hR : Rel A P ρ s H) (hf : ρ s.next = none) {o : AObj} {x : Obj} {c : Nat} (ho : OAt (ρ.add s.next ⟨H.size, 0, c⟩) ⟨H.size, 0, c⟩ (H.push x) o) :
    Step A P ρ s H (ρ.add s.next ⟨H.size, 0, c⟩) (s.new o) (H.push x) := by
  have hle : ρ.le (ρ.add s.next ⟨H.size, 0, c⟩) := Map.le_add hf
  have hlow : ∀ id l, ρ.add s.next ⟨H.size, 0, c⟩ id = some l → id = s.next ∧ l = ⟨H.size, 0, c⟩ ∨ id ≠ s.next ∧ ρ id = some l := by
    intro id l h
    unfold Map.add at h
    by_cases e : id = s.next
    · rw [if_pos e] at h; cases h; exact .inl ⟨e, rfl⟩
    · rw [if_neg e] at h; exact .inr ⟨e, h⟩
  refine ⟨⟨?_, ?_, ?_, ?_, ?_, ?_⟩, hle, Nat.le_succ _, ?_, ?_, by simp, ?_⟩
  · intro id ob h
    rw [St.get_new] at h
    by_cases e : id = s.next
    · rw [if_pos e] at h; cases h
      exact ⟨⟨H.size, 0, c⟩, by unfold Map.add; rw [if_pos e], ho⟩
    · rw [if_neg e] at h
      obtain ⟨l, hl, hat⟩ := hR.obj id ob h
      exact ⟨l, hle _ _ hl, (hat.block (get_push_lt hat.lt)).mono hle⟩
  · intro i j l m hi hj hl hm e
    have hget : ∀ k, (s.new o).get k |>.isSome → k = s.next ∨ (s.get k).isSome := by
      intro k hk
      rw [St.get_new] at hk
      by_cases e : k = s.next
      · exact .inl e
      · rw [if_neg e] at hk; exact .inr hk
    rcases hlow i l hl with ⟨hi1, hl1⟩ | ⟨hi1, hl1⟩ <;> rcases hlow j m hm with ⟨hj1, hm1⟩ | ⟨hj1, hm1⟩
    · rw [hi1, hj1]
    · have := (hR.low _ _ hm1).1; rw [hl1] at e; simp only at e; omega
    · have := (hR.low _ _ hl1).1; rw [hm1] at e; simp only at e; omega
    · rcases hget i hi with h | h
      · exact absurd h hi1
      · rcases hget j hj with h' | h'
        · exact absurd h' hj1
        · exact hR.inj i j l m h h' hl1 hm1 e
  · intro g hg
    obtain ⟨l, hl, h1, h2⟩ := hR.glob g hg
    exact ⟨l, hle _ _ hl, h1, h2⟩
  · intro id l h
    rcases hlow id l h with ⟨_, e⟩ | ⟨_, e⟩
    · subst e; simp
    · have := hR.low _ _ e; simp; omega
  · intro id l hs h
    rcases hlow id l h with ⟨_, e⟩ | ⟨e0, e⟩
    · subst e; exact hR.fresh _ (Nat.le_refl _)
    · rw [St.get_new, if_neg e0] at hs
      exact hR.own id l hs e
  · intro b hb
    simp at hb
    exact hR.fresh b (by omega)
  · intro id h
    unfold Map.add
    rw [if_neg]
    have : (s.new o).next = s.next + 1 := rfl
    omega
  · intro id l hs h
    rcases hlow id l h with ⟨_, e⟩ | ⟨e0, e⟩
    · subst e; exact .inl (Nat.le_refl _)
    · rw [St.get_new, if_neg e0] at hs
      exact .inr ⟨id, l, hs, e, rfl⟩
  · intro B hB _
    exact get_push_lt hB

/-- A thing changed in its place. -/
theorem Step.set (hR : Rel A P ρ s H) {id : Nat} {l : Pl} {o o' : AObj} (hg : s.get id = some o) (hl : ρ id = some l) {H' : Array Obj} (hsz : H'.size = H.size) (hoth : ∀ B, B ≠ l.b → H'[B]? = H[B]?) (ho : OAt ρ l H' o') :
    Step A P ρ s H ρ (s.set id o') H' := by
  have hget : ∀ k, ((s.set id o').get k).isSome → (s.get k).isSome := by
    intro k hk
    rw [St.get_set] at hk
    by_cases e : k = id
    · subst e; rw [hg]; rfl
    · rw [if_neg e] at hk; exact hk
  refine ⟨⟨?_, ?_, hR.glob, ?_, fun j m hs hm => hR.own j m (hget j hs) hm, fun b hb => hR.fresh b (by omega)⟩, Map.le_refl ρ, Nat.le_refl _, fun _ _ => rfl, fun j m h h' => .inr ⟨j, m, hget j h, h', rfl⟩, by omega, ?_⟩
  · intro j ob h
    rw [St.get_set] at h
    by_cases e : j = id
    · rw [if_pos e] at h; cases h; subst e; exact ⟨l, hl, ho⟩
    · rw [if_neg e] at h
      obtain ⟨m, hm, hat⟩ := hR.obj j ob h
      refine ⟨m, hm, hat.block (hoth _ fun eb => e ?_)⟩
      exact hR.inj j id m l (by rw [h]; rfl) (by rw [hg]; rfl) hm hl eb
  · intro i j m n hi hj
    exact hR.inj i j m n (hget i hi) (hget j hj)
  · intro j m hm
    have := hR.low j m hm
    omega
  · intro B _ hn
    exact hoth B fun e => hn id l (by rw [hg]; rfl) hl e.symm

end

/-! ### What no step touches -/

/-- The streams, the outside world; a row of cells stays a row of as many cells. -/
structure Aside (w w' : World) : Prop where
  os : w'.os = w.os
  out : w'.output = w.output
  rows : ∀ (B : Nat) (c : Array Value) (e : TypeId) (f : Nat × Nat), w.heap[B]? = some (.cells c e f) → ∃ c', w'.heap[B]? = some (.cells c' e f) ∧ c'.size = c.size

theorem Aside.refl (w : World) : Aside w w := ⟨rfl, rfl, fun _ c _ _ h => ⟨c, h, rfl⟩⟩

theorem Aside.trans {a b c : World} (h : Aside a b) (h' : Aside b c) : Aside a c :=
  ⟨h'.os.trans h.os, h'.out.trans h.out, fun B x e f hx => by
    obtain ⟨y, hy, h1⟩ := h.rows B x e f hx
    obtain ⟨z, hz, h2⟩ := h'.rows B y e f hy
    exact ⟨z, hz, h2.trans h1⟩⟩

theorem Aside.of_heap {w w' : World} (h1 : w'.os = w.os) (h2 : w'.output = w.output) (h3 : w'.heap = w.heap) : Aside w w' :=
  ⟨h1, h2, fun B c e f h => ⟨c, by rw [h3]; exact h, rfl⟩⟩

theorem Aside.push (w : World) (o : Obj) : Aside w { w with heap := w.heap.push o } :=
  ⟨rfl, rfl, fun B c e f h => by
    refine ⟨c, ?_, rfl⟩
    have hlt : B < w.heap.size := by
      rcases Nat.lt_or_ge B w.heap.size with h1 | h1
      · exact h1
      · rw [Array.getElem?_eq_none h1] at h; cases h
    show (w.heap.push o)[B]? = _
    rw [get_push_lt hlt]
    exact h⟩

/-- A block that is no row of cells is set anew. -/
theorem Aside.set {w : World} {b : Nat} {o o' : Obj} (h : w.heap[b]? = some o) (hc : ∀ c e f, o ≠ .cells c e f) : Aside w { w with heap := w.heap.setIfInBounds b o' } :=
  ⟨rfl, rfl, fun B c e f hB => by
    refine ⟨c, ?_, rfl⟩
    have hne : b ≠ B := by
      intro x
      subst x
      rw [h] at hB
      cases hB
      exact hc _ _ _ rfl
    show (w.heap.setIfInBounds b o')[B]? = _
    rw [Array.getElem?_setIfInBounds_ne hne]
    exact hB⟩

theorem Aside.setCell (w : World) (a : Addr) (v : Value) : Aside w (w.setCell a v) :=
  ⟨rfl, rfl, fun B c e f hB => by
    simp only [World.setCell, Array.getElem?_modify]
    by_cases x : a.block = B
    · rw [if_pos x, hB]
      refine ⟨_, rfl, ?_⟩
      split <;> simp
    · rw [if_neg x]
      exact ⟨c, hB, rfl⟩⟩

/-! ### Cells are written -/

theorem modify_get (H : Array Obj) (B : Nat) (f : Obj → Obj) (B' : Nat) : (H.modify B f)[B']? = if B = B' then (H[B']?).map f else H[B']? := by
  rw [Array.getElem?_modify]

theorem run_storeCells (P : Program) (B off : Nat) (e : TypeId) (hA : A B) : ∀ (vs : List Value) (i : Nat) (w : World) (c : Array Value), w.heap[B]? = some (.cells c e (0, 0)) → off + i + vs.length ≤ c.size → (∀ v ∈ vs, v.oneCell' = true) →
    ∃ (w' : World) (c' : Array Value), (storeCells ⟨B, off, none⟩ vs i).runL A P w = .ok () w' ∧ w'.heap.size = w.heap.size ∧ (∀ B', B' ≠ B → w'.heap[B']? = w.heap[B']?) ∧ w'.heap[B]? = some (.cells c' e (0, 0)) ∧ c'.size = c.size ∧
      (∀ j, c'[j]? = if off + i ≤ j ∧ j < off + i + vs.length then vs[j - (off + i)]? else c[j]?) ∧ Aside w w'
  | [], i, w, c, h, _, _ => ⟨w, c, rfl, rfl, fun _ _ => rfl, h, rfl, (fun j => by rw [if_neg (by simp)]), Aside.refl w⟩
  | v :: vs, i, w, c, h, hsz, hv => by
    simp only [List.length_cons] at hsz
    have hcell : w.cell? ⟨B, off + i, none⟩ = some c[off + i] := by rw [cell_of h]; exact Array.getElem?_eq_getElem (by omega)
    have hfr : w.frozen? ⟨B, off + i, none⟩ = false := by simp [World.frozen?, h]
    have h1 : (w.setCell ⟨B, off + i, none⟩ v).heap[B]? = some (.cells (c.setIfInBounds (off + i) v) e (0, 0)) := by
      simp only [World.setCell, modify_get, if_true, h, Option.map_some]
      rfl
    obtain ⟨w', c', e1, e2, e3, e4, e5, e6, ea⟩ := run_storeCells P B off e hA vs (i + 1) (w.setCell ⟨B, off + i, none⟩ v) (c.setIfInBounds (off + i) v) h1 (by simp; omega) (fun u hu => hv u (by simp [hu]))
    refine ⟨w', c', ?_, ?_, ?_, e4, by rw [e5]; simp, ?_, (Aside.setCell w _ v).trans ea⟩
    · simp only [storeCells, runL_bind, add_none]
      rw [runL_store w (hv v (by simp)) (by rw [hcell]; rfl) hfr hA]
      simp only [Result.andThen_ok]
      exact e1
    · rw [e2]; simp [World.setCell]
    · intro B' hB
      rw [e3 B' hB]
      simp only [World.setCell, modify_get]
      rw [if_neg (fun x => hB x.symm)]
    · intro j
      rw [e6 j]
      simp only [List.length_cons]
      by_cases ej : j = off + i
      · subst ej
        rw [if_neg (by omega), if_pos (by omega), Nat.sub_self, Array.getElem?_setIfInBounds_self_of_lt (by omega)]
        rfl
      · by_cases hin : off + (i + 1) ≤ j ∧ j < off + (i + 1) + vs.length
        · rw [if_pos hin, if_pos (by omega), show j - (off + i) = (j - (off + (i + 1))) + 1 from by omega, List.getElem?_cons_succ]
        · rw [if_neg hin, if_neg (by omega), Array.getElem?_setIfInBounds_ne (fun x => ej x.symm)]

section
variable {P : Program} {ρ : Map} {s s' : St} {w : World}

theorem cells_one {vs : List AV} {vs' : List Value} (h : VL ρ vs vs') (hc : vs.all AV.isCell = true) : ∀ v ∈ vs', v.oneCell' = true := by
  intro v hv
  obtain ⟨i, hi, e⟩ := List.getElem_of_mem hv
  have hlen := h.length
  have hx : vs[i]? = some vs[i] := List.getElem?_eq_getElem (by omega)
  obtain ⟨y, hy, hxy⟩ := h.get _ _ hx
  rw [List.getElem?_eq_getElem hi, Option.some.injEq] at hy
  rw [← e, hy]
  exact hxy.isCell (List.all_eq_true.1 hc _ (List.getElem_mem _))

theorem write_sound (hR : Rel A P ρ s w.heap) {id off : Nat} {vs : List AV} {vs' : List Value} {l : Pl} (hl : ρ id = some l) (hv : VL ρ vs vs') (h : s.write id off vs = some s') :
    ∃ w', (storeCells ⟨l.b, l.o + off, none⟩ vs').runL A P w = .ok () w' ∧ Step A P ρ s w.heap ρ s' w'.heap ∧ Aside w w' := by
  unfold St.write at h
  split at h
  · rename_i cs e hg
    obtain ⟨hcell, h_⟩ := bif_some h; clear h; have h := h_; clear h_
    obtain ⟨r, hr, h_⟩ := bind_some h; clear h; have h := h_; clear h_
    cases h
    obtain ⟨l', hl', c, hc, h1, h2, h3⟩ := hR.obj _ _ hg
    rw [hl] at hl'; cases hl'
    obtain ⟨s1, s2, s3⟩ := splice_spec _ _ _ _ hr
    have hlen := hv.length
    obtain ⟨w', c', e1, e2, e3, e4, e5, e6, ea⟩ := run_storeCells P l.b (l.o + off) e (hR.own _ _ (by rw [hg]; rfl) hl) vs' 0 w c hc (by omega) (cells_one hv hcell)
    refine ⟨w', e1, Step.set hR hg hl e2 e3 ⟨c', e4, by omega, by omega, ?_⟩, ea⟩
    intro i x hx
    rw [s3 i] at hx
    rw [e6 (l.o + i)]
    by_cases hin : off ≤ i ∧ i < off + vs.length
    · rw [if_pos hin] at hx
      obtain ⟨y, hy, hxy⟩ := hv.get _ _ hx
      exact ⟨y, by rw [if_pos (by omega), ← hy]; congr 1; omega, hxy⟩
    · rw [if_neg hin] at hx
      obtain ⟨y, hy, hxy⟩ := h3 _ _ hx
      exact ⟨y, by rw [if_neg (by omega)]; exact hy, hxy⟩
  · cases h

/-- A new row. -/
theorem row_new (hR : Rel A P ρ s w.heap) (hf : ρ s.next = none) {cs : List AV} {c : Array Value} {e : TypeId} (hl : cs.length ≤ c.size) (hv : ∀ (i : Nat) (x : AV), cs[i]? = some x → ∃ y, c[i]? = some y ∧ V ρ x y) :
    Step A P ρ s w.heap (ρ.add s.next ⟨w.heap.size, 0, c.size⟩) (s.new (.cells cs e)) (w.heap.push (.cells c e)) := by
  refine Step.new hR hf ⟨c, by simp, by simp, hl, fun i x hx => ?_⟩
  obtain ⟨y, hy, hxy⟩ := hv i x hx
  exact ⟨y, by simpa using hy, hxy.mono (Map.le_add hf)⟩

end
end Go.Ab

/-
  Own library, part 10: the operations that turn the heap.
-/
namespace Go.Ab

variable {A : Nat → Prop}

/-- What an operation has come to: a value, or nothing. -/
def Out (ρ : Map) (v : AV) (nx : Next) : Prop := ∃ v', (nx = .value v' ∨ (nx = .skip ∧ v' = undef)) ∧ V ρ v v'

def Loud (A : Nat → Prop) (P : Program) (ρ : Map) (s : St) (w : World) (x : Sem Next) (v : AV) (s' : St) : Prop :=
  ∃ ρ' nx w', x.runL A P w = .ok nx w' ∧ Out ρ' v nx ∧ Step A P ρ s w.heap ρ' s' w'.heap ∧ Aside w w'

section
variable {P : Program} {ρ : Map} {s s' : St} {w : World}

theorem loud_val {x : Sem Value} {v : AV} {ρ' : Map} {v' : Value} {w' : World} (h : x.runL A P w = .ok v' w') (hv : V ρ' v v') (hs : Step A P ρ s w.heap ρ' s' w'.heap) (ha : Aside w w') : Loud A P ρ s w (do pure (.value (← x))) v s' :=
  ⟨ρ', _, w', run_val h, ⟨v', .inl rfl, hv⟩, hs, ha⟩

theorem loud_unit {x : Sem Unit} {ρ' : Map} {w' : World} (h : x.runL A P w = .ok () w') (hs : Step A P ρ s w.heap ρ' s' w'.heap) (ha : Aside w w') : Loud A P ρ s w (do x; pure .skip) undefA s' :=
  ⟨ρ', .skip, w', by simp [h], ⟨undef, .inr ⟨rfl, rfl⟩, .tuple .nil⟩, hs, ha⟩

theorem loud_builtin {b : Builtin} {args : Array Operand} {argTypes : Array TypeId} {ty : TypeId} {evC : Operand → Value} {v : AV} {x : Sem Value}
    (hb : ∀ c, builtin b argTypes ty c (args.map evC) = (do pure (.value (← x)))) (h : Loud A P ρ s w (do pure (.value (← x))) v s') :
    Loud A P ρ s w (do let d ← resolve evC { callee := .builtin b, args, argTypes } ty; invoke d.target d.args) v s' := by
  obtain ⟨ρ', nx, w', h1, h2, h3⟩ := h
  refine ⟨ρ', nx, w', ?_, h2, h3⟩
  simp only [resolve, runL_bind, runL_pure, Result.andThen_ok, invoke]
  rw [hb]
  exact h1

/-- A new row, and a pointer or a slice to it. -/
theorem newRow_sound (hR : Rel A P ρ s w.heap) (hf : ρ s.next = none) {cs : List AV} {c : Array Value} {e : TypeId} (hl : cs.length ≤ c.size) (hv : ∀ (i : Nat) (x : AV), cs[i]? = some x → ∃ y, c[i]? = some y ∧ V ρ x y) :
    ∃ w', (newRow e c).runL A P w = .ok ⟨w.heap.size, 0, none⟩ w' ∧ Step A P ρ s w.heap (ρ.add s.next ⟨w.heap.size, 0, c.size⟩) (s.new (.cells cs e)) w'.heap ∧ Aside w w' :=
  ⟨{ w with heap := w.heap.push (.cells c e) }, by simp [newRow], row_new hR hf hl hv, Aside.push w _⟩

theorem VL_get {cs : List AV} {c : Array Value} (h : VL ρ cs c.toList) : ∀ (i : Nat) (x : AV), cs[i]? = some x → ∃ y, c[i]? = some y ∧ V ρ x y := fun i x hx => by
  obtain ⟨y, hy, hv⟩ := h.get i x hx
  exact ⟨y, by simpa using hy, hv⟩

theorem VL_size {cs : List AV} {c : Array Value} (h : VL ρ cs c.toList) : cs.length = c.size := by simpa using h.length

theorem add_self (ρ : Map) (id : Nat) (l : Pl) : (ρ.add id l) id = some l := by unfold Map.add; rw [if_pos rfl]

/-- Zeros, repeated. -/
theorem zeros_VL {z : AV} {z' : Value} (h : V ρ z z') (n size : Nat) (hs : z.cells.length = size) (h0 : size ≠ 0) : VL ρ (reps n z.cells) ((Array.range (n * size)).map (z'.cells[· % z'.cells.size]!)).toList := by
  have hc := h.cells
  have hlen : z.cells.length = z'.cells.size := by simpa using hc.length
  refine VL.of_get (by simp [reps_length, hs]) fun i x hx => ?_
  have hi : i < n * z.cells.length := by
    have := (List.getElem?_eq_some_iff.1 hx).1
    rwa [reps_length] at this
  rw [reps_get n z.cells i hi] at hx
  obtain ⟨y, hy, hv⟩ := hc.get _ _ hx
  refine ⟨y, ?_, hv⟩
  rw [hs] at hi hy
  have hzs : z'.cells.size = size := by omega
  have hm : i % size < z'.cells.size := by rw [hzs]; exact Nat.mod_lt _ (Nat.pos_of_ne_zero h0)
  simp only [Array.getElem?_toList] at hy ⊢
  rw [Array.getElem?_map, Array.getElem?_range, if_pos hi]
  simp only [Option.map_some, hzs]
  rw [getElem!_pos z'.cells (i % size) hm]
  rw [Array.getElem?_eq_getElem hm] at hy
  exact hy

theorem es_length : ∀ {es : List (AV × AV × Nat)} {es' : List MapEntry}, EsRel ρ es es' → es.length = es'.length
  | [], [], _ => rfl
  | [], _ :: _, h => h.elim
  | _ :: _, [], h => h.elim
  | _ :: _, _ :: _, h => by simp [es_length h.2]

theorem es_append : ∀ {es : List (AV × AV × Nat)} {es' : List MapEntry} {e : AV × AV × Nat} {e' : MapEntry}, EsRel ρ es es' → ERel ρ e e' → EsRel ρ (es ++ [e]) (es' ++ [e'])
  | [], [], _, _, _, h => ⟨h, trivial⟩
  | [], _ :: _, _, _, h, _ => h.elim
  | _ :: _, [], _, _, h, _ => h.elim
  | _ :: _, _ :: _, _, _, h, h' => ⟨h.1, es_append h.2 h'⟩

theorem es_get : ∀ {es : List (AV × AV × Nat)} {es' : List MapEntry} (i : Nat) (e : AV × AV × Nat), EsRel ρ es es' → es[i]? = some e → ∃ e', es'[i]? = some e' ∧ ERel ρ e e'
  | [], [], i, e, _, h => by simp at h
  | [], _ :: _, _, _, h, _ => h.elim
  | _ :: _, [], _, _, h, _ => h.elim
  | x :: xs, y :: ys, 0, e, h, hx => by simp at hx; subst hx; exact ⟨y, rfl, h.1⟩
  | x :: xs, y :: ys, i + 1, e, h, hx => by simp at hx; obtain ⟨e', h1, h2⟩ := es_get i e h.2 hx; exact ⟨e', by simpa using h1, h2⟩

theorem es_set : ∀ {es : List (AV × AV × Nat)} {es' : List MapEntry} (i : Nat) {k v : AV} {k' v' : Value}, EsRel ρ es es' → V ρ k k' → V ρ v v' → EsRel ρ (setVal es i k v) (es'.modify i fun e => { e with key := k', val := v' })
  | [], [], i, _, _, _, _, _, _, _ => by simp [setVal]; cases i <;> trivial
  | [], _ :: _, _, _, _, _, _, h, _, _ => h.elim
  | _ :: _, [], _, _, _, _, _, h, _, _ => h.elim
  | x :: xs, y :: ys, 0, _, _, _, _, h, hk, hv => by simp only [setVal, List.modify_zero_cons]; exact ⟨⟨hk, hv, h.1.2.2⟩, h.2⟩
  | x :: xs, y :: ys, i + 1, _, _, _, _, h, hk, hv => by simp only [setVal, List.modify_succ_cons]; exact ⟨h.1, es_set i h.2 hk hv⟩

theorem es_erase : ∀ {es : List (AV × AV × Nat)} {es' : List MapEntry} (i : Nat), EsRel ρ es es' → EsRel ρ (es.eraseIdx i) (es'.eraseIdx i)
  | [], [], _, _ => trivial
  | [], _ :: _, _, h => h.elim
  | _ :: _, [], _, h => h.elim
  | _ :: _, _ :: _, 0, h => h.2
  | _ :: _, _ :: _, i + 1, h => ⟨h.1, es_erase i h.2⟩

theorem scalar_same {x y : AV} {x' y' : Value} (hx : V ρ x x') (hy : V ρ y y') (h : scalarSame x y = true) (n : Nat) : Instr.sameBits n x' y' = true := by
  unfold scalarSame at h
  split at h
  · cases hx; cases hy; cases n <;> simpa [Instr.sameBits] using h
  · cases hx; cases hy
    simp only [Bool.and_eq_true, ieq_eq] at h
    have := ieqk_eq h.1
    subst this
    cases n <;> simp [Instr.sameBits, h.2]
  · cases hx; cases hy; cases n <;> simpa [Instr.sameBits] using h
  · cases h

theorem scalars_same : ∀ {xs ys : List AV} {xs' ys' : List Value}, VL ρ xs xs' → VL ρ ys ys' → scalarsSame xs ys = true → ∀ n, xs'.length = ys'.length ∧ ((xs'.zip ys').all fun (x, y) => Instr.sameBits n x y) = true
  | [], [], _, _, .nil, .nil, _, n => ⟨rfl, rfl⟩
  | _ :: _, _ :: _, _, _, .cons hx hxs, .cons hy hys, h, n => by
    simp only [scalarsSame, Bool.and_eq_true] at h
    obtain ⟨h1, h2⟩ := scalars_same hxs hys h.2 n
    exact ⟨by simp [h1], by simp only [List.zip_cons_cons, List.all_cons, h2, scalar_same hx hy h.1 n, Bool.and_self]⟩
  | [], _ :: _, _, _, _, _, h, _ => by cases h
  | _ :: _, [], _, _, _, _, h, _ => by cases h

theorem plain_same {x y : AV} {x' y' : Value} (hx : V ρ x x') (hy : V ρ y y') (h : plainSame x y = true) : Instr.sameBits 10000 x' y' = true := by
  unfold plainSame at h
  split at h
  · cases hx; cases hy
    rename_i h1 _ h2
    obtain ⟨e1, e2⟩ := scalars_same h1 h2 h 9999
    rw [show (10000 : Nat) = 9999 + 1 from rfl]
    simp only [Instr.sameBits, Bool.and_eq_true, beq_iff_eq]
    exact ⟨by simpa using e1, e2⟩
  · exact scalar_same hx hy h 10000

end
end Go.Ab

/-
  Own library, part 11: append and copy.
-/
namespace Go.Ab

variable {A : Nat → Prop}

section
variable {P : Program} {ρ : Map} {s s' : St} {w : World}

theorem src_len {x : AV} {x' : Value} (hx : V ρ x x') {m : Nat} (h : srcLen x = some m) : (Builtin.lenOf x').runL A P w = .ok m w := by
  cases hx <;> simp only [srcLen, reduceCtorEq, Option.some.injEq] at h <;> subst h <;> rfl

theorem src_cells (hR : Rel A P ρ s w.heap) {x : AV} {x' : Value} (hx : V ρ x x') {size n : Nat} {l : List AV} (h : srcCells s size n x = some l) :
    ∃ ys : List Value, (∀ w' : World, w'.heap = w.heap → (Builtin.firstCells size n x').runL A P w' = .ok ys.toArray w') ∧ VL ρ l ys := by
  cases hx <;> simp only [srcCells, reduceCtorEq] at h
  · rename_i id off len cap c l hl hc
    obtain ⟨_, h_⟩ := bif_some h; clear h; have h := h_; clear h_
    obtain ⟨ys, h1, h2, h3⟩ := row_read hR h hl
    exact ⟨ys, h3, h2⟩
  · obtain ⟨_, h_⟩ := bif_some h; clear h; have h := h_; clear h_
    cases h
    exact ⟨[], fun _ _ => rfl, .nil⟩

theorem srcCells_length {size n : Nat} {x : AV} {l : List AV} (h : srcCells s size n x = some l) : l.length = n * size := by
  unfold srcCells at h
  split at h
  · obtain ⟨_, h_⟩ := bif_some h; clear h; have h := h_; clear h_
    unfold St.read at h
    obtain ⟨cs, _, h_⟩ := bind_some h
    exact (sub_spec _ _ _ _ h_).1
  · obtain ⟨hc, h_⟩ := bif_some h; clear h; have h := h_; clear h_
    cases h; simp [of_beqT hc]
  · cases h

/-- How much a row that grows may be made to hold at once. -/
theorem next_cap (need cap bytes : Nat) (h : need * bytes ≤ 1073741824) (hc : cap < need) : ¬ Builtin.nextslicecap need cap * bytes > 2 ^ 48 := by
  have hb : Builtin.nextslicecap need cap ≤ 3 * need + 4096 := by
    unfold Builtin.nextslicecap
    split
    · omega
    · split
      · omega
      · have step : ∀ (r c : Nat), Builtin.growBy need r c ≤ max c (need + need / 4 + 192) := by
          intro r
          induction r with
          | zero => intro c; simp only [Builtin.growBy]; omega
          | succ r ih =>
            intro c
            simp only [Builtin.growBy]
            split
            · omega
            · have := ih (c + (c + 768) / 4)
              omega
        have := step 4 cap
        omega
  rcases Nat.eq_zero_or_pos bytes with h0 | h0
  · subst h0; simp
  · have h1 : Builtin.nextslicecap need cap * bytes ≤ (3 * need + 4096) * bytes := Nat.mul_le_mul_right _ hb
    have h2 : (3 * need + 4096) * bytes = 3 * (need * bytes) + 4096 * bytes := by rw [Nat.add_mul, Nat.mul_assoc]
    have h3 : bytes ≤ need * bytes := Nat.le_mul_of_pos_left _ (by omega)
    have : (2 : Nat) ^ 48 = 281474976710656 := by decide
    omega

/-- The new row of an append that grows. -/
theorem grow_row (hR : Rel A P ρ s w.heap) (hf : ρ s.next = none) {cs : List AV} {old new rest : Array Value} {et : TypeId} {a b : List AV} (ha : VL ρ a old.toList) (hb : VL ρ b new.toList) (hcs : cs = a ++ b) :
    ∃ w', (newRow et (old ++ new ++ rest)).runL A P w = .ok ⟨w.heap.size, 0, none⟩ w' ∧ Step A P ρ s w.heap (ρ.add s.next ⟨w.heap.size, 0, (old ++ new ++ rest).size⟩) (s.new (.cells cs et)) w'.heap ∧ Aside w w' := by
  subst hcs
  have hab : VL ρ (a ++ b) (old ++ new).toList := by rw [Array.toList_append]; exact ha.append hb
  refine newRow_sound hR hf ?_ fun i x hx => ?_
  · have := VL_size hab
    simp at this ⊢
    omega
  · obtain ⟨y, hy, hv⟩ := VL_get hab i x hx
    refine ⟨y, ?_, hv⟩
    rw [Array.getElem?_append_left]
    · exact hy
    · rcases Nat.lt_or_ge i (old ++ new).size with h | h
      · exact h
      · rw [Array.getElem?_eq_none h] at hy; cases hy

section
variable {argTypes : Array TypeId} {ty : TypeId} {args : Array Value} {t t1 elem : TypeId} {tt tt1 et : ATy} {base : Option Addr} {sLen sCap m : Nat} {x' : Value} (h0 : argTypes[0]? = some t) (h1 : argTypes[1]? = some t1)
    (a0 : args[0]? = some (.slice base sLen sCap)) (a1 : args[1]? = some x') (T : TyOk P t tt) (hd : tt.desc = .slice elem) (T1 : TyOk P t1 tt1) (hn : ∀ k, tt1.desc ≠ .int k) (E : TyOk P elem et)
    (hlen : (Builtin.lenOf x').runL A P w = .ok m w)
include h0 h1 a0 a1 T hd T1 hn E hlen

/-- The run of an append that finds room. -/
theorem run_append_fits {new : Array Value} (hnew : (Builtin.firstCells et.size m x').runL A P w = .ok new w) (hle : sLen + m ≤ sCap) {w' : World}
    (hst : ∀ a, base = some a → (storeCells (a.add (sLen * et.size)) new.toList).runL A P w = .ok () w') (hno : base = none → w' = w) :
    (Builtin.append_ argTypes ty args).runL A P w = .ok (.slice base (sLen + m) sCap) w' := by
  unfold Builtin.append_
  rw [h0, a0, a1]
  simp only [runL_bind, T.run_under, hd, Result.andThen_ok, E.run_size, h1, T1.run_under, runL_pure]
  simp only [Bool.false_eq_true, if_false, runL_bind, hlen, Result.andThen_ok]
  rw [if_pos hle]
  simp only [Bool.not_false, if_true, runL_bind, hnew, Result.andThen_ok]
  cases base with
  | some a => simp only [runL_bind, hst a rfl, Result.andThen_ok, runL_pure]
  | none => rw [hno rfl]; rfl

/-- The run of an append that does not. -/
theorem run_append_grows {old new : Array Value} (hnew : ∀ w' : World, w'.heap = w.heap → (Builtin.firstCells et.size m x').runL A P w' = .ok new w') (hold : ∀ w' : World, w'.heap = w.heap → (Builtin.firstCells et.size sLen (.slice base sLen sCap)).runL A P w' = .ok old w')
    (hlt : sCap < sLen + m) (hb : (sLen + m) * et.bytes ≤ 1073741824) (hs : sLen + m ≤ 1073741824) {z : AV} (hz : et.zero = some z) :
    ∃ (w₁ : World) (newCap : Nat) (rest : Array Value), w₁.heap = w.heap ∧ sLen + m ≤ newCap ∧ rest.size = (newCap - (sLen + m)) * z.cells.length ∧
      (∀ a w', (newRow elem (old ++ new ++ rest)).runL A P w₁ = .ok a w' → (Builtin.append_ argTypes ty args).runL A P w = .ok (.slice (some a) (sLen + m) newCap) w') ∧ Aside w w₁ := by
  obtain ⟨i, hi, hib, _⟩ := E.run_bytes (A := A) w
  have hq : (Question.appendCap (sLen + m) sCap elem).forced = false := rfl
  have hcut : sLen + m ≤ (Question.appendCap (sLen + m) sCap elem).cut (w.tape w.drawn (.appendCap (sLen + m) sCap elem)) := Nat.le_add_right _ _
  generalize hnc : (Question.appendCap (sLen + m) sCap elem).cut (w.tape w.drawn (.appendCap (sLen + m) sCap elem)) = newCap at hcut
  let w₁ : World := { w with drawn := w.drawn + 1 }
  obtain ⟨i1, hi1, _, _⟩ := E.run_bytes (A := A) w₁
  obtain ⟨z', hz1, hz2⟩ := E.run_zero (A := A) w₁ hz
  have hzl : z.cells.length = z'.cells.size := by simpa using (ofValue_V (fun _ => none) hz2).cells.length
  refine ⟨w₁, newCap, Builtin.zeroCells z'.cells (newCap - (sLen + m)), rfl, hcut, by simp [Builtin.zeroCells, hzl], fun a w' hrow => ?_, Aside.of_heap rfl rfl rfl⟩
  unfold Builtin.append_
  rw [h0, a0, a1]
  simp only [runL_bind, T.run_under, hd, Result.andThen_ok, E.run_size, h1, T1.run_under, runL_pure]
  simp only [Bool.false_eq_true, if_false, runL_bind, hlen, Result.andThen_ok]
  rw [if_neg (by omega)]
  simp only [runL_bind, hi, Result.andThen_ok]
  rw [if_neg (by
    rintro ⟨hx, _⟩
    have : IntKind.i64.max = 9223372036854775807 := by decide
    omega)]
  simp only [runL_bind, hi, Result.andThen_ok]
  rw [if_neg (by rw [hib]; exact next_cap _ _ _ hb hlt)]
  simp only [runL_bind, runL_choose, hq, Bool.false_eq_true, if_false, Result.andThen_ok, hnc]
  show ((typeInfo elem).runL A P w₁).andThen _ = _
  rw [hi1]
  simp only [Result.andThen_ok, runL_askRoom, hold w₁ rfl, Bool.not_false, if_true, hnew w₁ rfl, hz1, hrow, runL_pure]

end

theorem mul_split {m n : Nat} (k : Nat) (h : m ≤ n) : n * k = m * k + (n - m) * k := by rw [← Nat.add_mul, Nat.add_sub_cancel' h]

theorem cap_le {l : Pl} {off : Nat} {c : Cap} {n : Nat} (h : VCap l off c n) : capOf c ≤ n := by
  cases c with
  | exact c => exact Nat.le_of_eq (Eq.symm h)
  | loose c sz => exact h.1

theorem Rel.kill (hR : Rel A P ρ s w.heap) (id : Nat) : Rel A P ρ (s.kill id) w.heap := by
  have hget' : ∀ k, ((s.kill id).get k).isSome → (s.get k).isSome := by
    intro k hk
    rw [St.get_kill] at hk
    by_cases e : k = id
    · rw [if_pos e] at hk; cases hk
    · rw [if_neg e] at hk; exact hk
  refine ⟨fun j o h => ?_, fun i j l m hi hj => ?_, hR.glob, hR.low, fun j l hj => hR.own j l (hget' j hj), hR.fresh⟩
  · rw [St.get_kill] at h
    by_cases e : j = id
    · rw [if_pos e] at h; cases h
    · rw [if_neg e] at h; exact hR.obj j o h
  · have hget : ∀ k, ((s.kill id).get k).isSome → (s.get k).isSome := by
      intro k hk
      rw [St.get_kill] at hk
      by_cases e : k = id
      · rw [if_pos e] at hk; cases hk
      · rw [if_neg e] at hk; exact hk
    exact hR.inj i j l m (hget i hi) (hget j hj)

theorem kill_live {id j : Nat} (h : ((s.kill id).get j).isSome) : (s.get j).isSome := by
  rw [St.get_kill] at h
  by_cases e : j = id
  · rw [if_pos e] at h; cases h
  · rw [if_neg e] at h; exact h

theorem Step.of_kill {ρ' : Map} {H H' : Array Obj} {id : Nat} (h : Step A P ρ (s.kill id) H ρ' s' H') : Step A P ρ s H ρ' s' H' :=
  ⟨h.rel, h.le, h.next, h.old, fun j l a b => by
    rcases h.live j l a b with c | ⟨k, m, c, d⟩
    · exact .inl c
    · exact .inr ⟨k, m, kill_live c, d⟩, h.size, fun B hB hn => h.frame B hB fun j l a b => hn j l (kill_live a) b⟩

/-- A thing that goes on under a new name, in its old place. -/
theorem Step.moved {H H' : Array Obj} (hR : Rel A P ρ s H) {id : Nat} {l : Pl} {o o' : AObj} (hg : s.get id = some o) (hl : ρ id = some l) (hf : ρ s.next = none) (hsz : H'.size = H.size) (hoth : ∀ B, B ≠ l.b → H'[B]? = H[B]?) (ho : OAt (ρ.add s.next l) l H' o') :
    Step A P ρ s H (ρ.add s.next l) ((s.kill id).new o') H' := by
  have hle : ρ.le (ρ.add s.next l) := Map.le_add hf
  have hlow : ∀ j m, ρ.add s.next l j = some m → j = s.next ∧ m = l ∨ j ≠ s.next ∧ ρ j = some m := by
    intro j m h
    unfold Map.add at h
    by_cases e : j = s.next
    · rw [if_pos e] at h; cases h; exact .inl ⟨e, rfl⟩
    · rw [if_neg e] at h; exact .inr ⟨e, h⟩
  have hget : ∀ k u, ((s.kill id).new o').get k = some u → k = s.next ∧ u = o' ∨ k ≠ s.next ∧ k ≠ id ∧ s.get k = some u := by
    intro k u hk
    rw [St.get_new] at hk
    by_cases e : k = s.next
    · have : k = (s.kill id).next := e
      rw [if_pos this] at hk; cases hk; exact .inl ⟨e, rfl⟩
    · have : ¬ k = (s.kill id).next := e
      rw [if_neg this, St.get_kill] at hk
      by_cases e' : k = id
      · rw [if_pos e'] at hk; cases hk
      · rw [if_neg e'] at hk; exact .inr ⟨e, e', hk⟩
  have hne : ∀ j m, j ≠ id → (s.get j).isSome → ρ j = some m → m.b ≠ l.b := fun j m hj hs hm e => hj (hR.inj j id m l hs (by rw [hg]; rfl) hm hl e)
  refine ⟨⟨?_, ?_, ?_, ?_, ?_, fun b hb => hR.fresh b (by omega)⟩, hle, Nat.le_succ _, ?_, ?_, by omega, ?_⟩
  · intro j u h
    rcases hget j u h with ⟨e1, e2⟩ | ⟨e1, e2, e3⟩
    · subst e1; subst e2; exact ⟨l, add_self _ _ _, ho⟩
    · obtain ⟨m, hm, hat⟩ := hR.obj j u e3
      exact ⟨m, hle _ _ hm, (hat.block (hoth _ (hne j m e2 (by rw [e3]; rfl) hm))).mono hle⟩
  · intro i j m n hi hj hm hn e
    obtain ⟨u, hu⟩ := Option.isSome_iff_exists.1 hi
    obtain ⟨v, hv⟩ := Option.isSome_iff_exists.1 hj
    rcases hget i u hu with ⟨a1, _⟩ | ⟨a1, a2, a3⟩ <;> rcases hget j v hv with ⟨b1, _⟩ | ⟨b1, b2, b3⟩
    · rw [a1, b1]
    · rcases hlow i m hm with ⟨_, x⟩ | ⟨x, _⟩
      · rcases hlow j n hn with ⟨y, _⟩ | ⟨_, y⟩
        · exact absurd y b1
        · subst x; exact absurd e.symm (hne j n b2 (by rw [b3]; rfl) y)
      · exact absurd a1 x
    · rcases hlow j n hn with ⟨_, x⟩ | ⟨x, _⟩
      · rcases hlow i m hm with ⟨y, _⟩ | ⟨_, y⟩
        · exact absurd y a1
        · subst x; exact absurd e (hne i m a2 (by rw [a3]; rfl) y)
      · exact absurd b1 x
    · rcases hlow i m hm with ⟨x, _⟩ | ⟨_, x⟩
      · exact absurd x a1
      · rcases hlow j n hn with ⟨y, _⟩ | ⟨_, y⟩
        · exact absurd y b1
        · exact hR.inj i j m n (by rw [a3]; rfl) (by rw [b3]; rfl) x y e
  · intro g hg
    obtain ⟨m, hm, h1, h2⟩ := hR.glob g hg
    exact ⟨m, hle _ _ hm, h1, h2⟩
  · intro j m h
    rcases hlow j m h with ⟨_, e⟩ | ⟨_, e⟩
    · subst e; have := hR.low _ _ hl; omega
    · have := hR.low _ _ e; omega
  · intro j m hs h
    rcases hlow j m h with ⟨_, e⟩ | ⟨e0, e⟩
    · subst e; exact hR.own id _ (by rw [hg]; rfl) hl
    · obtain ⟨u, hu⟩ := Option.isSome_iff_exists.1 hs
      rcases hget j u hu with ⟨e1, _⟩ | ⟨_, _, e3⟩
      · exact absurd e1 e0
      · exact hR.own j m (by rw [e3]; rfl) e
  · intro j h
    unfold Map.add
    rw [if_neg]
    have : ((s.kill id).new o').next = s.next + 1 := rfl
    omega
  · intro j m hs h
    rcases hlow j m h with ⟨_, e⟩ | ⟨e0, e⟩
    · subst e; exact .inr ⟨id, _, by rw [hg]; rfl, hl, rfl⟩
    · obtain ⟨u, hu⟩ := Option.isSome_iff_exists.1 hs
      rcases hget j u hu with ⟨e1, _⟩ | ⟨_, _, e3⟩
      · exact absurd e1 e0
      · exact .inr ⟨j, m, by rw [e3]; rfl, e, rfl⟩
  · intro B _ hn
    exact hoth B fun e => hn id l (by rw [hg]; rfl) hl e.symm

theorem aappend_sound (hR : Rel A P ρ s w.heap) (hf : Fresh ρ s.next s'.next) {argTypes : Array TypeId} {ty : TypeId} {args : Array Value} {t t1 elem : TypeId} {tt tt1 et : ATy} {x y v z : AV} {x' y' : Value} (h0 : argTypes[0]? = some t) (h1 : argTypes[1]? = some t1)
    (a0 : args[0]? = some x') (a1 : args[1]? = some y') (T : TyOk P t tt) (hd : tt.desc = .slice elem) (T1 : TyOk P t1 tt1) (hn : ∀ k, tt1.desc ≠ .int k) (E : TyOk P elem et) (hz : et.zero = some z) (hzl : z.cells.length = et.size)
    (hx : V ρ x x') (hy : V ρ y y') (h : aappend et elem s x y = some (v, s')) :
    Loud A P ρ s w (do pure (.value (← Builtin.append_ argTypes ty args))) v s' := by
  unfold aappend at h
  obtain ⟨m, hm, h_⟩ := bind_some h; clear h; have h := h_; clear h_
  obtain ⟨new, hnew, h_⟩ := bind_some h; clear h; have h := h_; clear h_
  obtain ⟨hsz, h_⟩ := bif_none h; clear h; have h := h_; clear h_
  simp only [Bool.or_eq_false_iff, Bool.not_eq_false'] at hsz
  obtain ⟨hsz, hcell⟩ := hsz
  have hsz := of_beqF hsz
  have hlen := src_len (A := A) (P := P) (w := w) hy hm
  obtain ⟨ns, hns, hnv⟩ := src_cells hR hy hnew
  have hns' := hns
  have hns := hns w rfl
  have hnl := srcCells_length hnew
  have hnl' := hnv.length
  split at h
  · -- onto nil
    cases hx
    cases hm0 : m.beq 0 with
    | true =>
      rw [hm0] at h
      cases h
      have hm0 := of_beqT hm0
      subst hm0
      have := run_append_fits (ty := ty) h0 h1 a0 a1 T hd T1 hn E hlen hns (by simp) (w' := w) (by simp) (fun _ => rfl)
      exact loud_val this .nils (Step.refl hR) (Aside.refl w)
    | false =>
      rw [hm0] at h
      have hm0 := of_beqF hm0
      obtain ⟨hb, h_⟩ := bif_some h; clear h; have h := h_; clear h_
      simp only [Bool.and_eq_true, Nat.ble_eq] at hb
      cases h
      have hfr : ρ s.next = none := hf _ (Nat.le_refl _) (Nat.lt_succ_self _)
      obtain ⟨w₁, newCap, rest, e1, e2, e3, e4, ea⟩ := run_append_grows (ty := ty) h0 h1 a0 a1 T hd T1 hn E hlen (old := #[]) hns' (fun w' _ => rfl) (by omega) (by simpa using hb.1) (by simpa using hb.2) hz
      have hR1 : Rel A P ρ s w₁.heap := by rw [e1]; exact hR
      obtain ⟨w', h2, h3, h6⟩ := grow_row (et := elem) (rest := rest) hR1 hfr (a := []) (old := #[]) .nil (by simpa using hnv) (by simp : new = [] ++ new)
      have h4 := e4 _ _ h2
      rw [e1] at h3 h4
      simp only [Nat.zero_add] at h4 e2
      refine loud_val h4 ?_ h3 (ea.trans h6)
      have := V.slice (ρ := ρ.add s.next ⟨w.heap.size, 0, (#[] ++ ns.toArray ++ rest).size⟩) (id := s.next) (off := 0) (len := m) (cap := newCap) (c := .loose m et.size) (add_self _ _ _) ⟨e2, by
        simp only [Nat.zero_add, Array.size_append, List.size_toArray] at e3 ⊢
        rw [e3, hzl, ← hnl', hnl, mul_split et.size e2]
        simp⟩
      simpa using this
  · -- onto a slice
    rename_i id off len cap
    cases hx; rename_i cap' l hl hc
    simp only at h
    cases hfit : Nat.ble (len + m) (capOf cap) with
    | true =>
      rw [hfit] at h
      simp only [cond_true] at h
      rw [Nat.ble_eq] at hfit
      obtain ⟨_, h_⟩ := bif_some h; clear h; have h := h_; clear h_
      obtain ⟨s1, hs1, h_⟩ := bind_some h; clear h; have h := h_; clear h_
      cases h
      obtain ⟨w', h2, h3, h6⟩ := write_sound hR hl hnv hs1
      have := run_append_fits (ty := ty) h0 h1 a0 a1 T hd T1 hn E hlen hns (Nat.le_trans hfit (cap_le hc)) (w' := w') (fun a ha => by
        cases ha
        rw [add_none, Nat.add_assoc]
        exact h2) (fun e => by cases e)
      exact loud_val this (.slice hl hc) h3 h6
    | false =>
      rw [hfit] at h
      simp only [cond_false] at h
      obtain ⟨hb, h_⟩ := bif_some h; clear h; have h := h_; clear h_
      simp only [Bool.and_eq_true, Nat.ble_eq] at hb
      have hfit : capOf cap < len + m := by
        rcases Nat.lt_or_ge (capOf cap) (len + m) with h | h
        · exact h
        · rw [Nat.ble_eq_true_of_le h] at hfit; cases hfit
      cases cap with
      | exact c =>
        -- its capacity is known: it grows
        have hfit : c < len + m := hfit
        obtain ⟨old, hold, h_⟩ := bind_some h; clear h; have h := h_; clear h_
        obtain ⟨_, h_⟩ := bif_some h; clear h; have h := h_; clear h_
        cases h
        have hcc : cap' = c := hc
        have hfr : ρ s.next = none := hf _ (Nat.le_refl _) (Nat.lt_succ_self _)
        obtain ⟨os, ho1, ho2, ho3⟩ := row_read (P := P) hR hold hl
        obtain ⟨w₁, newCap, rest, e1, e2, e3, e4, ea⟩ := run_append_grows (ty := ty) h0 h1 a0 a1 T hd T1 hn E hlen (old := os.toArray) hns' ho3 (by rw [hcc]; exact hfit) hb.1 hb.2 hz
        have hR1 : Rel A P ρ s w₁.heap := by rw [e1]; exact hR
        obtain ⟨w', h2, h3, h6⟩ := grow_row (et := elem) (rest := rest) hR1 hfr (a := old) (old := os.toArray) (by simpa using ho2) (by simpa using hnv) (rfl : old ++ new = old ++ new)
        have h4 := e4 _ _ h2
        rw [e1] at h3 h4
        refine loud_val h4 ?_ h3 (ea.trans h6)
        have := V.slice (ρ := ρ.add s.next ⟨w.heap.size, 0, (os.toArray ++ ns.toArray ++ rest).size⟩) (id := s.next) (off := 0) (len := len + m) (cap := newCap) (c := .loose (len + m) et.size) (add_self _ _ _) ⟨e2, by
          simp only [Nat.zero_add, Array.size_append, List.size_toArray] at e3 ⊢
          rw [e3, hzl, ← hnl', hnl, ho1, mul_split et.size e2, Nat.add_mul]
          omega⟩
        simpa using this
      | loose c sz =>
        have hfit : c < len + m := hfit
        obtain ⟨hsz2, h_⟩ := bif_some h; clear h; have h := h_; clear h_
        have hsz2 := of_beqT hsz2
        split at h
        · rename_i cs e hg
          obtain ⟨hq, h_⟩ := bif_some h; clear h; have h := h_; clear h_
          obtain ⟨old, hold, h_⟩ := bind_some h; clear h; have h := h_; clear h_
          obtain ⟨_, h_⟩ := bif_some h; clear h; have h := h_; clear h_
          cases h
          simp only [Bool.and_eq_true] at hq
          have hoff := of_beqT hq.1.1
          have hend := of_beqT hq.1.2
          have hee := of_beqT hq.2
          subst hoff; subst hee; subst hsz2
          have hfr : ρ s.next = none := hf _ (Nat.le_refl _) (Nat.lt_succ_self _)
          have hread : s.read id 0 (len * et.size) = some old := by
            unfold St.read St.row
            rw [hg]
            exact hold
          obtain ⟨os, ho1, ho2, ho3⟩ := row_read (P := P) hR hread hl
          rcases Nat.lt_or_ge cap' (len + m) with hlt | hge
          · obtain ⟨w₁, newCap, rest, e1, e2, e3, e4, ea⟩ := run_append_grows (ty := ty) h0 h1 a0 a1 T hd T1 hn E hlen (old := os.toArray) hns' ho3 hlt hb.1 hb.2 hz
            have hR1 : Rel A P ρ (s.kill id) w₁.heap := by rw [e1]; exact hR.kill id
            obtain ⟨w', h2, h3, h6⟩ := grow_row (et := e) (rest := rest) hR1 hfr (a := old) (old := os.toArray) (by simpa using ho2) (by simpa using hnv) (rfl : old ++ new = old ++ new)
            have h4 := e4 _ _ h2
            rw [e1] at h3 h4
            have h5 : Step A P ρ s w.heap (ρ.add s.next ⟨w.heap.size, 0, (os.toArray ++ ns.toArray ++ rest).size⟩) ((s.kill id).new (.cells (old ++ new) e)) w'.heap := h3.of_kill
            refine loud_val h4 ?_ h5 (ea.trans h6)
            have := V.slice (ρ := ρ.add s.next ⟨w.heap.size, 0, (os.toArray ++ ns.toArray ++ rest).size⟩) (id := s.next) (off := 0) (len := len + m) (cap := newCap) (c := .loose (len + m) et.size) (add_self _ _ _) ⟨e2, by
              simp only [Nat.zero_add, Array.size_append, List.size_toArray] at e3 ⊢
              rw [e3, hzl, ← hnl', hnl, ho1, mul_split et.size e2, Nat.add_mul]
              omega⟩
            simpa using this
          · obtain ⟨l', hl', cc, hcc, hs1, hs2, hs3⟩ := hR.obj _ _ hg
            rw [hl] at hl'; cases hl'
            obtain ⟨hc1, hc2⟩ : c ≤ cap' ∧ 0 + cap' * et.size ≤ l.c := hc
            have hcap : (len + m) * et.size ≤ cap' * et.size := Nat.mul_le_mul_right _ hge
            rw [Nat.add_mul] at hcap
            have ho := (hR.low _ _ hl).2
            obtain ⟨w', c', e1, e2, e3, e4, e5, e6, ea⟩ := run_storeCells P l.b (l.o + 0 + len * et.size) e (hR.own _ _ (by rw [hg]; rfl) hl) ns 0 w cc hcc (by omega) (cells_one hnv hcell)
            have hrun := run_append_fits (ty := ty) h0 h1 a0 a1 T hd T1 hn E hlen hns hge (w' := w') (fun a ha => by
              cases ha
              rw [add_none]
              exact e1) (fun e => by cases e)
            have hold' : old.length = len * et.size := (sub_spec _ _ _ _ hold).1
            have hrow : OAt (ρ.add s.next l) l w'.heap (.cells (old ++ new) e) := by
              refine ⟨c', e4, by omega, by rw [List.length_append]; omega, fun i x hx => ?_⟩
              rw [e6 (l.o + i)]
              rcases Nat.lt_or_ge i old.length with hi | hi
              · rw [List.getElem?_append_left hi] at hx
                rw [if_neg (by omega)]
                have hx2 : cs[i]? = some x := by
                  rw [← hx, (sub_spec _ _ _ _ hold).2.2 i (by omega)]
                  simp
                obtain ⟨y, hy, hxy⟩ := hs3 i x hx2
                exact ⟨y, hy, hxy.mono (Map.le_add hfr)⟩
              · rw [List.getElem?_append_right hi] at hx
                obtain ⟨y, hy, hxy⟩ := hnv.get _ _ hx
                have hlt : i - old.length < ns.length := (List.getElem?_eq_some_iff.1 hy).1
                rw [if_pos (by omega)]
                exact ⟨y, by rw [← hy]; congr 1; omega, hxy.mono (Map.le_add hfr)⟩
            refine loud_val hrun ?_ (Step.moved hR hg hl hfr e2 e3 hrow) ea
            have := V.slice (ρ := ρ.add s.next l) (id := s.next) (off := 0) (len := len + m) (cap := cap') (c := .loose (len + m) et.size) (add_self _ _ _) ⟨hge, hc2⟩
            exact this
        · cases h
  · cases h

end
end Go.Ab

