/-
  Own library, part 9: what a step may do to the heap; new things; cells written.
-/
import Derived.Test.YtflokkhbcjnklaaGreatDoorAb8
namespace Go.Ab

def Fresh (ρ : Map) (a b : Nat) : Prop := ∀ id, a ≤ id → id < b → ρ id = none

structure Step (P : Program) (ρ : Map) (s : St) (H : Array Obj) (ρ' : Map) (s' : St) (H' : Array Obj) : Prop where
  rel : Rel P ρ' s' H'
  le : ρ.le ρ'
  next : s.next ≤ s'.next
  old : ∀ id, id < s.next ∨ s'.next ≤ id → ρ' id = ρ id
  live : ∀ id l, (s'.get id).isSome → ρ' id = some l → H.size ≤ l.b ∨ ∃ j m, (s.get j).isSome ∧ ρ j = some m ∧ m.b = l.b
  size : H.size ≤ H'.size
  frame : ∀ B, B < H.size → (∀ id l, (s.get id).isSome → ρ id = some l → l.b ≠ B) → H'[B]? = H[B]?

section
variable {P : Program} {ρ ρ₁ ρ₂ : Map} {s s₁ s₂ : St} {H H₁ H₂ : Array Obj}

theorem Step.refl (hR : Rel P ρ s H) : Step P ρ s H ρ s H :=
  ⟨hR, Map.le_refl ρ, Nat.le_refl _, fun _ _ => rfl, fun id l h h' => .inr ⟨id, l, h, h', rfl⟩, Nat.le_refl _, fun _ _ _ => rfl⟩

theorem Step.trans (a : Step P ρ s H ρ₁ s₁ H₁) (b : Step P ρ₁ s₁ H₁ ρ₂ s₂ H₂) : Step P ρ s H ρ₂ s₂ H₂ where
  rel := b.rel
  le := Map.le_trans a.le b.le
  next := Nat.le_trans a.next b.next
  old := fun id h => by
    have h1 := a.next
    have h2 := b.next
    rw [b.old id (by omega), a.old id (by omega)]
  live := fun id l h hn => by
    rcases b.live id l h hn with hb | ⟨j, m, hj, hj', hm⟩
    · exact .inl (Nat.le_trans a.size hb)
    · rw [← hm]
      exact a.live j m hj hj'
  size := Nat.le_trans a.size b.size
  frame := fun B hB hn => by
    rw [b.frame B (Nat.lt_of_lt_of_le hB a.size), a.frame B hB hn]
    intro id l hl hl' e
    rcases a.live id l hl hl' with hb | ⟨j, m, hj, hj', hm⟩
    · omega
    · exact hn j m hj hj' (hm.trans e)

theorem Fresh.left {a b c : Nat} (h : Fresh ρ a c) (hb : b ≤ c) : Fresh ρ a b := fun id h1 h2 => h id h1 (Nat.lt_of_lt_of_le h2 hb)
theorem Step.fresh (a : Step P ρ s H ρ₁ s₁ H₁) {c : Nat} (h : Fresh ρ s.next c) : Fresh ρ₁ s₁.next c := fun id h1 h2 => by
  rw [a.old id (.inr h1)]
  exact h id (Nat.le_trans a.next h1) h2

def Map.add (ρ : Map) (id : Nat) (l : Pl) : Map := fun j => if j = id then some l else ρ j

theorem Map.le_add {id : Nat} {l : Pl} (h : ρ id = none) : ρ.le (ρ.add id l) := fun j m hj => by
  unfold Map.add
  by_cases e : j = id
  · subst e; rw [h] at hj; cases hj
  · rw [if_neg e]; exact hj

theorem get_push_lt {o : Obj} {i : Nat} (h : i < H.size) : (H.push o)[i]? = H[i]? := by
  rw [Array.getElem?_push_lt h, Array.getElem?_eq_getElem h]

theorem St.get_new {o : AObj} (id : Nat) : (s.new o).get id = if id = s.next then some o else s.get id := by
  unfold St.new St.get
  exact T.get_put _ _ _ _

theorem St.get_set {o : AObj} (i id : Nat) : (s.set i o).get id = if id = i then some o else s.get id := by
  unfold St.set St.get
  exact T.get_put _ _ _ _

theorem St.get_kill (i id : Nat) : (s.kill i).get id = if id = i then none else s.get id := by
  unfold St.kill St.get
  exact T.get_put _ _ _ _

/-- A new thing in a new block. -/
theorem Step.new (hR : Rel P ρ s H) (hf : ρ s.next = none) {o : AObj} {x : Obj} {c : Nat} (ho : OAt (ρ.add s.next ⟨H.size, 0, c⟩) ⟨H.size, 0, c⟩ (H.push x) o) :
    Step P ρ s H (ρ.add s.next ⟨H.size, 0, c⟩) (s.new o) (H.push x) := by
  have hle : ρ.le (ρ.add s.next ⟨H.size, 0, c⟩) := Map.le_add hf
  have hlow : ∀ id l, ρ.add s.next ⟨H.size, 0, c⟩ id = some l → id = s.next ∧ l = ⟨H.size, 0, c⟩ ∨ id ≠ s.next ∧ ρ id = some l := by
    intro id l h
    unfold Map.add at h
    by_cases e : id = s.next
    · rw [if_pos e] at h; cases h; exact .inl ⟨e, rfl⟩
    · rw [if_neg e] at h; exact .inr ⟨e, h⟩
  refine ⟨⟨?_, ?_, ?_, ?_⟩, hle, Nat.le_succ _, ?_, ?_, by simp, ?_⟩
  · intro id ob h
    rw [St.get_new] at h
    by_cases e : id = s.next
    · rw [if_pos e] at h; cases h
      exact ⟨⟨H.size, 0, c⟩, by unfold Map.add; rw [if_pos e], ho⟩
    · rw [if_neg e] at h
      obtain ⟨l, hl, hat⟩ := hR.obj id ob h
      exact ⟨l, hle _ _ hl, (hat.block (get_push_lt hat.lt)).mono hle⟩
  · intro i j l m hi hj hl hm e
    have hget : ∀ k, (s.new o).get k |>.isSome → k = s.next ∨ (s.get k).isSome := by
      intro k hk
      rw [St.get_new] at hk
      by_cases e : k = s.next
      · exact .inl e
      · rw [if_neg e] at hk; exact .inr hk
    rcases hlow i l hl with ⟨hi1, hl1⟩ | ⟨hi1, hl1⟩ <;> rcases hlow j m hm with ⟨hj1, hm1⟩ | ⟨hj1, hm1⟩
    · rw [hi1, hj1]
    · have := (hR.low _ _ hm1).1; rw [hl1] at e; simp only at e; omega
    · have := (hR.low _ _ hl1).1; rw [hm1] at e; simp only at e; omega
    · rcases hget i hi with h | h
      · exact absurd h hi1
      · rcases hget j hj with h' | h'
        · exact absurd h' hj1
        · exact hR.inj i j l m h h' hl1 hm1 e
  · intro g hg
    obtain ⟨l, hl, h1, h2⟩ := hR.glob g hg
    exact ⟨l, hle _ _ hl, h1, h2⟩
  · intro id l h
    rcases hlow id l h with ⟨_, e⟩ | ⟨_, e⟩
    · subst e; simp
    · have := hR.low _ _ e; simp; omega
  · intro id h
    unfold Map.add
    rw [if_neg]
    have : (s.new o).next = s.next + 1 := rfl
    omega
  · intro id l hs h
    rcases hlow id l h with ⟨_, e⟩ | ⟨e0, e⟩
    · subst e; exact .inl (Nat.le_refl _)
    · rw [St.get_new, if_neg e0] at hs
      exact .inr ⟨id, l, hs, e, rfl⟩
  · intro B hB _
    exact get_push_lt hB

/-- A thing changed in its place. -/
theorem Step.set (hR : Rel P ρ s H) {id : Nat} {l : Pl} {o o' : AObj} (hg : s.get id = some o) (hl : ρ id = some l) {H' : Array Obj} (hsz : H'.size = H.size) (hoth : ∀ B, B ≠ l.b → H'[B]? = H[B]?) (ho : OAt ρ l H' o') :
    Step P ρ s H ρ (s.set id o') H' := by
  have hget : ∀ k, ((s.set id o').get k).isSome → (s.get k).isSome := by
    intro k hk
    rw [St.get_set] at hk
    by_cases e : k = id
    · subst e; rw [hg]; rfl
    · rw [if_neg e] at hk; exact hk
  refine ⟨⟨?_, ?_, hR.glob, ?_⟩, Map.le_refl ρ, Nat.le_refl _, fun _ _ => rfl, fun j m h h' => .inr ⟨j, m, hget j h, h', rfl⟩, by omega, ?_⟩
  · intro j ob h
    rw [St.get_set] at h
    by_cases e : j = id
    · rw [if_pos e] at h; cases h; subst e; exact ⟨l, hl, ho⟩
    · rw [if_neg e] at h
      obtain ⟨m, hm, hat⟩ := hR.obj j ob h
      refine ⟨m, hm, hat.block (hoth _ fun eb => e ?_)⟩
      exact hR.inj j id m l (by rw [h]; rfl) (by rw [hg]; rfl) hm hl eb
  · intro i j m n hi hj
    exact hR.inj i j m n (hget i hi) (hget j hj)
  · intro j m hm
    have := hR.low j m hm
    omega
  · intro B _ hn
    exact hoth B fun e => hn id l (by rw [hg]; rfl) hl e.symm

end

/-! ### What no step touches -/

/-- The streams, the outside world; a row of cells stays a row of as many cells. -/
structure Aside (w w' : World) : Prop where
  os : w'.os = w.os
  out : w'.output = w.output
  rows : ∀ (B : Nat) (c : Array Value) (e : TypeId) (f : Nat × Nat), w.heap[B]? = some (.cells c e f) → ∃ c', w'.heap[B]? = some (.cells c' e f) ∧ c'.size = c.size

theorem Aside.refl (w : World) : Aside w w := ⟨rfl, rfl, fun _ c _ _ h => ⟨c, h, rfl⟩⟩

theorem Aside.trans {a b c : World} (h : Aside a b) (h' : Aside b c) : Aside a c :=
  ⟨h'.os.trans h.os, h'.out.trans h.out, fun B x e f hx => by
    obtain ⟨y, hy, h1⟩ := h.rows B x e f hx
    obtain ⟨z, hz, h2⟩ := h'.rows B y e f hy
    exact ⟨z, hz, h2.trans h1⟩⟩

theorem Aside.of_heap {w w' : World} (h1 : w'.os = w.os) (h2 : w'.output = w.output) (h3 : w'.heap = w.heap) : Aside w w' :=
  ⟨h1, h2, fun B c e f h => ⟨c, by rw [h3]; exact h, rfl⟩⟩

theorem Aside.push (w : World) (o : Obj) : Aside w { w with heap := w.heap.push o } :=
  ⟨rfl, rfl, fun B c e f h => by
    refine ⟨c, ?_, rfl⟩
    have hlt : B < w.heap.size := by
      rcases Nat.lt_or_ge B w.heap.size with h1 | h1
      · exact h1
      · rw [Array.getElem?_eq_none h1] at h; cases h
    show (w.heap.push o)[B]? = _
    rw [get_push_lt hlt]
    exact h⟩

/-- A block that is no row of cells is set anew. -/
theorem Aside.set {w : World} {b : Nat} {o o' : Obj} (h : w.heap[b]? = some o) (hc : ∀ c e f, o ≠ .cells c e f) : Aside w { w with heap := w.heap.setIfInBounds b o' } :=
  ⟨rfl, rfl, fun B c e f hB => by
    refine ⟨c, ?_, rfl⟩
    have hne : b ≠ B := by
      intro x
      subst x
      rw [h] at hB
      cases hB
      exact hc _ _ _ rfl
    show (w.heap.setIfInBounds b o')[B]? = _
    rw [Array.getElem?_setIfInBounds_ne hne]
    exact hB⟩

theorem Aside.setCell (w : World) (a : Addr) (v : Value) : Aside w (w.setCell a v) :=
  ⟨rfl, rfl, fun B c e f hB => by
    simp only [World.setCell, Array.getElem?_modify]
    by_cases x : a.block = B
    · rw [if_pos x, hB]
      refine ⟨_, rfl, ?_⟩
      split <;> simp
    · rw [if_neg x]
      exact ⟨c, hB, rfl⟩⟩

/-! ### Cells are written -/

theorem modify_get (H : Array Obj) (B : Nat) (f : Obj → Obj) (B' : Nat) : (H.modify B f)[B']? = if B = B' then (H[B']?).map f else H[B']? := by
  rw [Array.getElem?_modify]

theorem run_storeCells (P : Program) (B off : Nat) (e : TypeId) : ∀ (vs : List Value) (i : Nat) (w : World) (c : Array Value), w.heap[B]? = some (.cells c e (0, 0)) → off + i + vs.length ≤ c.size → (∀ v ∈ vs, v.oneCell' = true) →
    ∃ (w' : World) (c' : Array Value), (storeCells ⟨B, off, none⟩ vs i).run P w = .ok () w' ∧ w'.heap.size = w.heap.size ∧ (∀ B', B' ≠ B → w'.heap[B']? = w.heap[B']?) ∧ w'.heap[B]? = some (.cells c' e (0, 0)) ∧ c'.size = c.size ∧
      (∀ j, c'[j]? = if off + i ≤ j ∧ j < off + i + vs.length then vs[j - (off + i)]? else c[j]?) ∧ Aside w w'
  | [], i, w, c, h, _, _ => ⟨w, c, rfl, rfl, fun _ _ => rfl, h, rfl, (fun j => by rw [if_neg (by simp)]), Aside.refl w⟩
  | v :: vs, i, w, c, h, hsz, hv => by
    simp only [List.length_cons] at hsz
    have hcell : w.cell? ⟨B, off + i, none⟩ = some c[off + i] := by rw [cell_of h]; exact Array.getElem?_eq_getElem (by omega)
    have hfr : w.frozen? ⟨B, off + i, none⟩ = false := by simp [World.frozen?, h]
    have h1 : (w.setCell ⟨B, off + i, none⟩ v).heap[B]? = some (.cells (c.setIfInBounds (off + i) v) e (0, 0)) := by
      simp only [World.setCell, modify_get, if_true, h, Option.map_some]
      rfl
    obtain ⟨w', c', e1, e2, e3, e4, e5, e6, ea⟩ := run_storeCells P B off e vs (i + 1) (w.setCell ⟨B, off + i, none⟩ v) (c.setIfInBounds (off + i) v) h1 (by simp; omega) (fun u hu => hv u (by simp [hu]))
    refine ⟨w', c', ?_, ?_, ?_, e4, by rw [e5]; simp, ?_, (Aside.setCell w _ v).trans ea⟩
    · simp only [storeCells, Sem.run_bind, add_none]
      rw [run_store P w _ v _ (hv v (by simp)), hcell]
      simp only [hfr, Bool.false_eq_true, if_false, Result.andThen_ok]
      exact e1
    · rw [e2]; simp [World.setCell]
    · intro B' hB
      rw [e3 B' hB]
      simp only [World.setCell, modify_get]
      rw [if_neg (fun x => hB x.symm)]
    · intro j
      rw [e6 j]
      simp only [List.length_cons]
      by_cases ej : j = off + i
      · subst ej
        rw [if_neg (by omega), if_pos (by omega), Nat.sub_self, Array.getElem?_setIfInBounds_self_of_lt (by omega)]
        rfl
      · by_cases hin : off + (i + 1) ≤ j ∧ j < off + (i + 1) + vs.length
        · rw [if_pos hin, if_pos (by omega), show j - (off + i) = (j - (off + (i + 1))) + 1 from by omega, List.getElem?_cons_succ]
        · rw [if_neg hin, if_neg (by omega), Array.getElem?_setIfInBounds_ne (fun x => ej x.symm)]

section
variable {P : Program} {ρ : Map} {s s' : St} {w : World}

theorem cells_one {vs : List AV} {vs' : List Value} (h : VL ρ vs vs') (hc : vs.all AV.isCell = true) : ∀ v ∈ vs', v.oneCell' = true := by
  intro v hv
  obtain ⟨i, hi, e⟩ := List.getElem_of_mem hv
  have hlen := h.length
  have hx : vs[i]? = some vs[i] := List.getElem?_eq_getElem (by omega)
  obtain ⟨y, hy, hxy⟩ := h.get _ _ hx
  rw [List.getElem?_eq_getElem hi, Option.some.injEq] at hy
  rw [← e, hy]
  exact hxy.isCell (List.all_eq_true.1 hc _ (List.getElem_mem _))

theorem write_sound (hR : Rel P ρ s w.heap) {id off : Nat} {vs : List AV} {vs' : List Value} {l : Pl} (hl : ρ id = some l) (hv : VL ρ vs vs') (h : s.write id off vs = some s') :
    ∃ w', (storeCells ⟨l.b, l.o + off, none⟩ vs').run P w = .ok () w' ∧ Step P ρ s w.heap ρ s' w'.heap ∧ Aside w w' := by
  unfold St.write at h
  split at h
  · rename_i cs e hg
    obtain ⟨hcell, h_⟩ := bif_some h; clear h; have h := h_; clear h_
    obtain ⟨r, hr, h_⟩ := bind_some h; clear h; have h := h_; clear h_
    cases h
    obtain ⟨l', hl', c, hc, h1, h2, h3⟩ := hR.obj _ _ hg
    rw [hl] at hl'; cases hl'
    obtain ⟨s1, s2, s3⟩ := splice_spec _ _ _ _ hr
    have hlen := hv.length
    obtain ⟨w', c', e1, e2, e3, e4, e5, e6, ea⟩ := run_storeCells P l.b (l.o + off) e vs' 0 w c hc (by omega) (cells_one hv hcell)
    refine ⟨w', e1, Step.set hR hg hl e2 e3 ⟨c', e4, by omega, by omega, ?_⟩, ea⟩
    intro i x hx
    rw [s3 i] at hx
    rw [e6 (l.o + i)]
    by_cases hin : off ≤ i ∧ i < off + vs.length
    · rw [if_pos hin] at hx
      obtain ⟨y, hy, hxy⟩ := hv.get _ _ hx
      exact ⟨y, by rw [if_pos (by omega), ← hy]; congr 1; omega, hxy⟩
    · rw [if_neg hin] at hx
      obtain ⟨y, hy, hxy⟩ := h3 _ _ hx
      exact ⟨y, by rw [if_neg (by omega)]; exact hy, hxy⟩
  · cases h

/-- A new row. -/
theorem row_new (hR : Rel P ρ s w.heap) (hf : ρ s.next = none) {cs : List AV} {c : Array Value} {e : TypeId} (hl : cs.length ≤ c.size) (hv : ∀ (i : Nat) (x : AV), cs[i]? = some x → ∃ y, c[i]? = some y ∧ V ρ x y) :
    Step P ρ s w.heap (ρ.add s.next ⟨w.heap.size, 0, c.size⟩) (s.new (.cells cs e)) (w.heap.push (.cells c e)) := by
  refine Step.new hR hf ⟨c, by simp, by simp, hl, fun i x hx => ?_⟩
  obtain ⟨y, hy, hxy⟩ := hv i x hx
  exact ⟨y, by simpa using hy, hxy.mono (Map.le_add hf)⟩

end
end Go.Ab
