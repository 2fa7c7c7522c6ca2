/-
  Own library, part 18: regions that draw their order: what a trace says; a step beside other things.
-/
import Derived.Test.YtflokkhbcjnklaaGreatDoorAb17
namespace Go.Ab
open Go.Conc (G Goes)

/-! ### Tries with given contents -/

theorem T.bound {α : Type} : ∀ (t : T α), ∃ n, ∀ i, n ≤ i → t.get i = none
  | .leaf => ⟨0, fun i _ => T.get_leaf i⟩
  | .node v l r => by
    obtain ⟨a, ha⟩ := T.bound l
    obtain ⟨b, hb⟩ := T.bound r
    refine ⟨2 * (a + b) + 3, fun i hi => ?_⟩
    rw [T.get_node]
    rw [if_neg (by omega)]
    split
    · exact ha _ (by omega)
    · exact hb _ (by omega)

theorem T.exists_of {α : Type} (g : Nat → Option α) : ∀ n, ∃ t : T α, ∀ i, t.get i = if i < n then g i else none
  | 0 => ⟨.leaf, fun i => by rw [T.get_leaf]; simp⟩
  | n + 1 => by
    obtain ⟨t, ht⟩ := T.exists_of g n
    refine ⟨t.put n (g n), fun i => ?_⟩
    rw [T.get_put, ht]
    by_cases e : i = n
    · subst e; rw [if_pos rfl, if_pos (by omega)]
    · rw [if_neg e]
      by_cases h : i < n
      · rw [if_pos h, if_pos (by omega)]
      · rw [if_neg h, if_neg (by omega)]

theorem St.over (s₁ s₂ K : St) (N : Nat) : ∃ K' : St, K'.next = N ∧ ∀ id, K'.get id = (match s₂.get id with | some o => some o | none => if (s₁.get id).isNone then K.get id else none) := by
  obtain ⟨a, ha⟩ := T.bound s₂.heap
  obtain ⟨b, hb⟩ := T.bound K.heap
  obtain ⟨t, ht⟩ := T.exists_of (fun id => match s₂.get id with | some o => some o | none => if (s₁.get id).isNone then K.get id else none) (a + b)
  refine ⟨⟨t, N⟩, rfl, fun id => ?_⟩
  show t.get id = _
  rw [ht]
  by_cases h : id < a + b
  · rw [if_pos h]
  · rw [if_neg h]
    have h1 : s₂.get id = none := ha _ (by omega)
    have h2 : K.get id = none := hb _ (by omega)
    rw [h1, h2]
    simp

section
variable {P : Program} {ρ₀ ρ ρ' : Map} {s₀ s s₁ s₂ K : St} {H₀ H H' : Array Obj}

theorem Rel.sub (hR : Rel P ρ K H) (h : ∀ id o, s.get id = some o → K.get id = some o) : Rel P ρ s H := by
  have hs : ∀ id, (s.get id).isSome → (K.get id).isSome := by
    intro id hi
    cases hg : s.get id with
    | none => rw [hg] at hi; cases hi
    | some o => rw [h id o hg]; rfl
  exact ⟨fun id o hg => hR.obj id o (h id o hg), fun i j l m hi hj => hR.inj i j l m (hs i hi) (hs j hj), hR.glob, hR.low⟩

theorem Step.sub (hS : Step P ρ₀ s₀ H₀ ρ K H) (h : ∀ id o, s.get id = some o → K.get id = some o) (hn : s.next = K.next) : Step P ρ₀ s₀ H₀ ρ s H where
  rel := hS.rel.sub h
  le := hS.le
  next := by rw [hn]; exact hS.next
  old := by rw [hn]; exact hS.old
  live := fun id l hi hl => hS.live id l (by
    cases hg : s.get id with
    | none => rw [hg] at hi; cases hi
    | some o => rw [h id o hg]; rfl) hl
  size := hS.size
  frame := hS.frame

/-- A step of a part of the heap, seen from the whole. -/
theorem Step.ext (hS : Step P ρ₀ s₀ H₀ ρ K H) (hsub : ∀ id o, s₁.get id = some o → K.get id = some o) (hT : Step P ρ s₁ H ρ' s₂ H') (h1 : s₀.next ≤ s₁.next) (h2 : s₂.next ≤ K.next) :
    ∃ K', K'.next = K.next ∧ Step P ρ₀ s₀ H₀ ρ' K' H' ∧ (∀ id o, s₂.get id = some o → K'.get id = some o) ∧ (∀ id o, K.get id = some o → s₁.get id = none → K'.get id = some o ∧ s₂.get id = none) := by
  obtain ⟨K', hn, hK'⟩ := St.over s₁ s₂ K K.next
  have some1 : ∀ {id}, (s₁.get id).isSome → (K.get id).isSome := by
    intro id hi
    cases hg : s₁.get id with
    | none => rw [hg] at hi; cases hi
    | some o => rw [hsub id o hg]; rfl
  have hextra : ∀ id o, K.get id = some o → s₁.get id = none → s₂.get id = none := by
    intro id o hK h1'
    cases h2' : s₂.get id with
    | none => rfl
    | some o' =>
      exfalso
      obtain ⟨l, hl, _⟩ := hS.rel.obj id o hK
      have hl' := hT.le _ _ hl
      rcases hT.live id l (by rw [h2']; rfl) hl' with hb | ⟨j, m, hj, hj', hm⟩
      · have := (hS.rel.low _ _ hl).1; omega
      · have := hS.rel.inj j id m l (some1 hj) (by rw [hK]; rfl) hj' hl hm
        subst this
        rw [h1'] at hj
        cases hj
  have hcase : ∀ id o, K'.get id = some o → s₂.get id = some o ∨ (s₂.get id = none ∧ s₁.get id = none ∧ K.get id = some o) := by
    intro id o h
    rw [hK' id] at h
    cases h2' : s₂.get id with
    | some o' => rw [h2'] at h; exact .inl h
    | none =>
      rw [h2'] at h
      simp only at h
      split at h
      · rename_i h1'
        exact .inr ⟨rfl, by simpa using h1', h⟩
      · cases h
  have hcaseS : ∀ id, (K'.get id).isSome → (s₂.get id).isSome ∨ (s₁.get id = none ∧ (K.get id).isSome) := by
    intro id h
    cases hg : K'.get id with
    | none => rw [hg] at h; cases h
    | some o =>
      rcases hcase id o hg with h' | ⟨_, h', h''⟩
      · exact .inl (by rw [h']; rfl)
      · exact .inr ⟨h', by rw [h'']; rfl⟩
  have hkeep : ∀ id l, s₁.get id = none → (K.get id).isSome → ρ id = some l → H'[l.b]? = H[l.b]? := by
    intro id l h1' hK hl
    refine hT.frame l.b (hS.rel.low _ _ hl).1 fun j m hj hm e => ?_
    have := hS.rel.inj j id m l (some1 hj) hK hm hl e
    subst this
    rw [h1'] at hj
    cases hj
  have hbound : ∀ id, (K.get id).isSome → ∃ l, ρ id = some l := by
    intro id h
    cases hg : K.get id with
    | none => rw [hg] at h; cases h
    | some o => obtain ⟨l, hl, _⟩ := hS.rel.obj id o hg; exact ⟨l, hl⟩
  have hmix : ∀ i j l m, (s₂.get i).isSome → s₁.get j = none → (K.get j).isSome → ρ' i = some l → ρ' j = some m → l.b ≠ m.b := by
    intro i j l m hi hj hK hl hm e
    obtain ⟨m', hm'⟩ := hbound j hK
    have := hT.le _ _ hm'
    rw [hm] at this
    cases this
    rcases hT.live i l hi hl with hb | ⟨k, p, hk, hk', hp⟩
    · have := (hS.rel.low _ _ hm').1; omega
    · have := hS.rel.inj k j p m (some1 hk) hK hk' hm' (hp.trans e)
      subst this
      rw [hj] at hk
      cases hk
  refine ⟨K', hn, ?_, ?_, ?_⟩
  · refine ⟨⟨?_, ?_, hT.rel.glob, hT.rel.low⟩, Map.le_trans hS.le hT.le, by rw [hn]; exact hS.next, ?_, ?_, Nat.le_trans hS.size hT.size, ?_⟩
    · intro id o h
      rcases hcase id o h with h' | ⟨_, h1', hK⟩
      · exact hT.rel.obj id o h'
      · obtain ⟨l, hl, hat⟩ := hS.rel.obj id o hK
        exact ⟨l, hT.le _ _ hl, (hat.block (hkeep id l h1' (by rw [hK]; rfl) hl)).mono hT.le⟩
    · intro i j l m hi hj hl hm e
      rcases hcaseS i hi with hi' | ⟨hi1, hi2⟩ <;> rcases hcaseS j hj with hj' | ⟨hj1, hj2⟩
      · exact hT.rel.inj i j l m hi' hj' hl hm e
      · exact absurd e (hmix i j l m hi' hj1 hj2 hl hm)
      · exact absurd e.symm (hmix j i m l hj' hi1 hi2 hm hl)
      · obtain ⟨l', hl'⟩ := hbound i hi2
        obtain ⟨m', hm'⟩ := hbound j hj2
        have e1 := hT.le _ _ hl'
        have e2 := hT.le _ _ hm'
        rw [hl] at e1; rw [hm] at e2
        cases e1; cases e2
        exact hS.rel.inj i j l m hi2 hj2 hl' hm' e
    · intro id h
      have a := hT.next
      rw [hn] at h
      rw [hT.old id (by omega), hS.old id (by omega)]
    · intro id l hi hl
      rcases hcaseS id hi with hi' | ⟨hi1, hi2⟩
      · rcases hT.live id l hi' hl with hb | ⟨j, m, hj, hj', hm⟩
        · exact .inl (Nat.le_trans hS.size hb)
        · rw [← hm]
          exact hS.live j m (some1 hj) hj'
      · obtain ⟨l', hl'⟩ := hbound id hi2
        have e1 := hT.le _ _ hl'
        rw [hl] at e1; cases e1
        exact hS.live id l hi2 hl'
    · intro B hB hno
      rw [hT.frame B (Nat.lt_of_lt_of_le hB hS.size), hS.frame B hB hno]
      intro id l hi hl e
      rcases hS.live id l (some1 hi) hl with hb | ⟨j, m, hj, hj', hm⟩
      · omega
      · exact hno j m hj hj' (hm.trans e)
  · intro id o h
    rw [hK' id, h]
  · intro id o hK h1'
    have h2' := hextra id o hK h1'
    refine ⟨?_, h2'⟩
    rw [hK' id, h2', h1']
    exact hK
end

end Go.Ab
