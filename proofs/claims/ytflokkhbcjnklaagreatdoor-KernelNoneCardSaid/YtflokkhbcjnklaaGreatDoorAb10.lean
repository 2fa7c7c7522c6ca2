/-
  Own library, part 10: the operations that turn the heap.
-/
import Derived.Test.YtflokkhbcjnklaaGreatDoorAb9
namespace Go.Ab

/-- What an operation has come to: a value, or nothing. -/
def Out (ρ : Map) (v : AV) (nx : Next) : Prop := ∃ v', (nx = .value v' ∨ (nx = .skip ∧ v' = undef)) ∧ V ρ v v'

def Loud (P : Program) (ρ : Map) (s : St) (w : World) (x : Sem Next) (v : AV) (s' : St) : Prop :=
  ∃ ρ' nx w', x.run P w = .ok nx w' ∧ Out ρ' v nx ∧ Step P ρ s w.heap ρ' s' w'.heap ∧ Aside w w'

section
variable {P : Program} {ρ : Map} {s s' : St} {w : World}

theorem loud_val {x : Sem Value} {v : AV} {ρ' : Map} {v' : Value} {w' : World} (h : x.run P w = .ok v' w') (hv : V ρ' v v') (hs : Step P ρ s w.heap ρ' s' w'.heap) (ha : Aside w w') : Loud P ρ s w (do pure (.value (← x))) v s' :=
  ⟨ρ', _, w', run_val h, ⟨v', .inl rfl, hv⟩, hs, ha⟩

theorem loud_unit {x : Sem Unit} {ρ' : Map} {w' : World} (h : x.run P w = .ok () w') (hs : Step P ρ s w.heap ρ' s' w'.heap) (ha : Aside w w') : Loud P ρ s w (do x; pure .skip) undefA s' :=
  ⟨ρ', .skip, w', by simp [h], ⟨undef, .inr ⟨rfl, rfl⟩, .tuple .nil⟩, hs, ha⟩

theorem loud_builtin {b : Builtin} {args : Array Operand} {argTypes : Array TypeId} {ty : TypeId} {evC : Operand → Value} {v : AV} {x : Sem Value}
    (hb : ∀ c, builtin b argTypes ty c (args.map evC) = (do pure (.value (← x)))) (h : Loud P ρ s w (do pure (.value (← x))) v s') :
    Loud P ρ s w (do let d ← resolve evC { callee := .builtin b, args, argTypes } ty; invoke d.target d.args) v s' := by
  obtain ⟨ρ', nx, w', h1, h2, h3⟩ := h
  refine ⟨ρ', nx, w', ?_, h2, h3⟩
  simp only [resolve, Sem.run_bind, Sem.run_pure, Result.andThen_ok, invoke]
  rw [hb]
  exact h1

/-- A new row, and a pointer or a slice to it. -/
theorem newRow_sound (hR : Rel P ρ s w.heap) (hf : ρ s.next = none) {cs : List AV} {c : Array Value} {e : TypeId} (hl : cs.length ≤ c.size) (hv : ∀ (i : Nat) (x : AV), cs[i]? = some x → ∃ y, c[i]? = some y ∧ V ρ x y) :
    ∃ w', (newRow e c).run P w = .ok ⟨w.heap.size, 0, none⟩ w' ∧ Step P ρ s w.heap (ρ.add s.next ⟨w.heap.size, 0, c.size⟩) (s.new (.cells cs e)) w'.heap ∧ Aside w w' :=
  ⟨{ w with heap := w.heap.push (.cells c e) }, by simp [newRow], row_new hR hf hl hv, Aside.push w _⟩

theorem VL_get {cs : List AV} {c : Array Value} (h : VL ρ cs c.toList) : ∀ (i : Nat) (x : AV), cs[i]? = some x → ∃ y, c[i]? = some y ∧ V ρ x y := fun i x hx => by
  obtain ⟨y, hy, hv⟩ := h.get i x hx
  exact ⟨y, by simpa using hy, hv⟩

theorem VL_size {cs : List AV} {c : Array Value} (h : VL ρ cs c.toList) : cs.length = c.size := by simpa using h.length

theorem add_self (ρ : Map) (id : Nat) (l : Pl) : (ρ.add id l) id = some l := by unfold Map.add; rw [if_pos rfl]

/-- Zeros, repeated. -/
theorem zeros_VL {z : AV} {z' : Value} (h : V ρ z z') (n size : Nat) (hs : z.cells.length = size) (h0 : size ≠ 0) : VL ρ (reps n z.cells) ((Array.range (n * size)).map (z'.cells[· % z'.cells.size]!)).toList := by
  have hc := h.cells
  have hlen : z.cells.length = z'.cells.size := by simpa using hc.length
  refine VL.of_get (by simp [reps_length, hs]) fun i x hx => ?_
  have hi : i < n * z.cells.length := by
    have := (List.getElem?_eq_some_iff.1 hx).1
    rwa [reps_length] at this
  rw [reps_get n z.cells i hi] at hx
  obtain ⟨y, hy, hv⟩ := hc.get _ _ hx
  refine ⟨y, ?_, hv⟩
  rw [hs] at hi hy
  have hzs : z'.cells.size = size := by omega
  have hm : i % size < z'.cells.size := by rw [hzs]; exact Nat.mod_lt _ (Nat.pos_of_ne_zero h0)
  simp only [Array.getElem?_toList] at hy ⊢
  rw [Array.getElem?_map, Array.getElem?_range, if_pos hi]
  simp only [Option.map_some, hzs]
  rw [getElem!_pos z'.cells (i % size) hm]
  rw [Array.getElem?_eq_getElem hm] at hy
  exact hy

theorem es_length : ∀ {es : List (AV × AV × Nat)} {es' : List MapEntry}, EsRel ρ es es' → es.length = es'.length
  | [], [], _ => rfl
  | [], _ :: _, h => h.elim
  | _ :: _, [], h => h.elim
  | _ :: _, _ :: _, h => by simp [es_length h.2]

theorem es_append : ∀ {es : List (AV × AV × Nat)} {es' : List MapEntry} {e : AV × AV × Nat} {e' : MapEntry}, EsRel ρ es es' → ERel ρ e e' → EsRel ρ (es ++ [e]) (es' ++ [e'])
  | [], [], _, _, _, h => ⟨h, trivial⟩
  | [], _ :: _, _, _, h, _ => h.elim
  | _ :: _, [], _, _, h, _ => h.elim
  | _ :: _, _ :: _, _, _, h, h' => ⟨h.1, es_append h.2 h'⟩

theorem es_get : ∀ {es : List (AV × AV × Nat)} {es' : List MapEntry} (i : Nat) (e : AV × AV × Nat), EsRel ρ es es' → es[i]? = some e → ∃ e', es'[i]? = some e' ∧ ERel ρ e e'
  | [], [], i, e, _, h => by simp at h
  | [], _ :: _, _, _, h, _ => h.elim
  | _ :: _, [], _, _, h, _ => h.elim
  | x :: xs, y :: ys, 0, e, h, hx => by simp at hx; subst hx; exact ⟨y, rfl, h.1⟩
  | x :: xs, y :: ys, i + 1, e, h, hx => by simp at hx; obtain ⟨e', h1, h2⟩ := es_get i e h.2 hx; exact ⟨e', by simpa using h1, h2⟩

theorem es_set : ∀ {es : List (AV × AV × Nat)} {es' : List MapEntry} (i : Nat) {k v : AV} {k' v' : Value}, EsRel ρ es es' → V ρ k k' → V ρ v v' → EsRel ρ (setVal es i k v) (es'.modify i fun e => { e with key := k', val := v' })
  | [], [], i, _, _, _, _, _, _, _ => by simp [setVal]; cases i <;> trivial
  | [], _ :: _, _, _, _, _, _, h, _, _ => h.elim
  | _ :: _, [], _, _, _, _, _, h, _, _ => h.elim
  | x :: xs, y :: ys, 0, _, _, _, _, h, hk, hv => by simp only [setVal, List.modify_zero_cons]; exact ⟨⟨hk, hv, h.1.2.2⟩, h.2⟩
  | x :: xs, y :: ys, i + 1, _, _, _, _, h, hk, hv => by simp only [setVal, List.modify_succ_cons]; exact ⟨h.1, es_set i h.2 hk hv⟩

theorem es_erase : ∀ {es : List (AV × AV × Nat)} {es' : List MapEntry} (i : Nat), EsRel ρ es es' → EsRel ρ (es.eraseIdx i) (es'.eraseIdx i)
  | [], [], _, _ => trivial
  | [], _ :: _, _, h => h.elim
  | _ :: _, [], _, h => h.elim
  | _ :: _, _ :: _, 0, h => h.2
  | _ :: _, _ :: _, i + 1, h => ⟨h.1, es_erase i h.2⟩

theorem scalar_same {x y : AV} {x' y' : Value} (hx : V ρ x x') (hy : V ρ y y') (h : scalarSame x y = true) (n : Nat) : Instr.sameBits n x' y' = true := by
  unfold scalarSame at h
  split at h
  · cases hx; cases hy; cases n <;> simpa [Instr.sameBits] using h
  · cases hx; cases hy
    simp only [Bool.and_eq_true, ieq_eq] at h
    have := ieqk_eq h.1
    subst this
    cases n <;> simp [Instr.sameBits, h.2]
  · cases hx; cases hy; cases n <;> simpa [Instr.sameBits] using h
  · cases h

theorem scalars_same : ∀ {xs ys : List AV} {xs' ys' : List Value}, VL ρ xs xs' → VL ρ ys ys' → scalarsSame xs ys = true → ∀ n, xs'.length = ys'.length ∧ ((xs'.zip ys').all fun (x, y) => Instr.sameBits n x y) = true
  | [], [], _, _, .nil, .nil, _, n => ⟨rfl, rfl⟩
  | _ :: _, _ :: _, _, _, .cons hx hxs, .cons hy hys, h, n => by
    simp only [scalarsSame, Bool.and_eq_true] at h
    obtain ⟨h1, h2⟩ := scalars_same hxs hys h.2 n
    exact ⟨by simp [h1], by simp only [List.zip_cons_cons, List.all_cons, h2, scalar_same hx hy h.1 n, Bool.and_self]⟩
  | [], _ :: _, _, _, _, _, h, _ => by cases h
  | _ :: _, [], _, _, _, _, h, _ => by cases h

theorem plain_same {x y : AV} {x' y' : Value} (hx : V ρ x x') (hy : V ρ y y') (h : plainSame x y = true) : Instr.sameBits 10000 x' y' = true := by
  unfold plainSame at h
  split at h
  · cases hx; cases hy
    rename_i h1 _ h2
    obtain ⟨e1, e2⟩ := scalars_same h1 h2 h 9999
    rw [show (10000 : Nat) = 9999 + 1 from rfl]
    simp only [Instr.sameBits, Bool.and_eq_true, beq_iff_eq]
    exact ⟨by simpa using e1, e2⟩
  · exact scalar_same hx hy h 10000

end
end Go.Ab
