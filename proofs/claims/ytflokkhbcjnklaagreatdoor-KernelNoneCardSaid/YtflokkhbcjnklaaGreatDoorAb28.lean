/-
  Own library, part 28: where a call begins and ends: package-level variables that hold listed data.
-/
import Derived.Test.YtflokkhbcjnklaaGreatDoorAb27
import GoSem.ClaimJoined
namespace Go.Ab

noncomputable section

/-- The heap at the call: the package-level variables. -/
def startA (gs : List (List AV × TypeId)) : St := { heap := T.ofListFrom 0 (gs.map fun g => .cells g.1 g.2) .leaf, next := gs.length }

def startM (gs : List (List AV × TypeId)) : Map := fun g => match gs[g]? with
  | some r => some ⟨g, 0, r.1.length⟩
  | none => none

end

theorem startA_get (gs : List (List AV × TypeId)) (g : Nat) : (startA gs).get g = (gs[g]?).map fun r => .cells r.1 r.2 := by
  show (T.ofListFrom 0 (gs.map fun g => AObj.cells g.1 g.2) .leaf).get g = _
  rw [T.get_ofListFrom, if_pos (Nat.zero_le _), Nat.sub_zero, List.getElem?_map]
  cases gs[g]? <;> rfl

/-- The variables hold these data. -/
def Holds (gs : List (List AV × TypeId)) (W : World) : Prop :=
  ∀ (g : Nat) (cs : List AV) (e : TypeId), gs[g]? = some (cs, e) → ∃ c : Array Value, W.heap[g]? = some (.cells c e (0, 0)) ∧ c.size = cs.length ∧ ∀ (j : Nat) (x : AV), cs[j]? = some x → ∃ y, c[j]? = some y ∧ ofCell y = some x

section
variable {P : Program} {gs : List (List AV × TypeId)} {W w' : World}

theorem start_rel (hsz : gs.length = P.globals.size) (h : Holds gs W) : Rel P (startM gs) (startA gs) W.heap := by
  have hget : ∀ g, ((startA gs).get g).isSome → g < gs.length := by
    intro g hg
    rw [startA_get] at hg
    rcases Nat.lt_or_ge g gs.length with h | h
    · exact h
    · rw [List.getElem?_eq_none h] at hg; cases hg
  have hmap : ∀ g l, startM gs g = some l → l.b = g ∧ l.o = 0 ∧ ∃ r, gs[g]? = some r ∧ l.c = r.1.length := by
    intro g l hl
    unfold startM at hl
    split at hl
    · rename_i r hr
      cases hl
      exact ⟨rfl, rfl, r, hr, rfl⟩
    · cases hl
  refine ⟨?_, ?_, ?_, ?_⟩
  · intro g o hg
    rw [startA_get] at hg
    cases hr : gs[g]? with
    | none => rw [hr] at hg; cases hg
    | some r =>
      rw [hr] at hg
      cases hg
      obtain ⟨cs, e⟩ := r
      obtain ⟨c, h1, h2, h3⟩ := h g cs e hr
      refine ⟨⟨g, 0, cs.length⟩, by unfold startM; rw [hr], c, h1, by show 0 + cs.length ≤ c.size; omega, Nat.le_refl _, fun i x hx => ?_⟩
      obtain ⟨y, hy, hxy⟩ := h3 i x hx
      exact ⟨y, by show c[0 + i]? = _; rw [Nat.zero_add]; exact hy, ofCell_V _ hxy⟩
  · intro i j l m _ _ hl hm e
    have := (hmap i l hl).1
    have := (hmap j m hm).1
    omega
  · intro g hg
    have hlt : g < gs.length := by omega
    refine ⟨⟨g, 0, (gs[g]).1.length⟩, ?_, rfl, rfl⟩
    unfold startM
    rw [List.getElem?_eq_getElem hlt]
  · intro g l hl
    obtain ⟨h1, h2, ⟨cs, e⟩, hr, _⟩ := hmap g l hl
    refine ⟨?_, h2⟩
    obtain ⟨c, hc, _⟩ := h g cs e hr
    rw [h1]
    rcases Nat.lt_or_ge g W.heap.size with h | h
    · exact h
    · rw [Array.getElem?_eq_none h] at hc; cases hc

theorem start_free (id : Nat) (h : (startA gs).next ≤ id) : startM gs id = none := by
  unfold startM
  rw [List.getElem?_eq_none h]

theorem cell_same {ρ : Map} {x : AV} {y z : Value} (hy : ofCell y = some x) (hs : scalarSame x x = true) (hz : V ρ x z) : z = y := by
  have hv := ofCell_V ρ hy
  cases x <;> first | (cases hs; done) | skip
  all_goals (cases hz; cases hv; rfl)

/-- What comes of it: every old block is as it was. -/
theorem kept_of (h : Holds gs W) (hsc : ∀ r ∈ gs, scalarsSame r.1 r.1 = true) {ρ' : Map} {s' : St} (hS : Step P (startM gs) (startA gs) W.heap ρ' s' w'.heap) (hA : Aside W w')
    (hend : ∀ (g : Nat) (r : List AV × TypeId), gs[g]? = some r → s'.get g = some (.cells r.1 r.2)) (may : MemPlace → Prop) : W.keptBut w' may := by
  refine ⟨hA.os, hA.out, fun i hi => ?_⟩
  cases hr : gs[i]? with
  | none =>
    have hsame : w'.heap[i]? = W.heap[i]? := by
      refine hS.frame i hi fun id l hid hl e => ?_
      unfold startM at hl
      split at hl
      · rename_i r hr'
        cases hl
        simp only at e
        subst e
        rw [hr] at hr'
        cases hr'
      · cases hl
    rw [hsame]
    cases W.heap[i]? with
    | none => trivial
    | some o => cases o <;> first | exact ⟨rfl, rfl, rfl, fun _ _ => rfl⟩ | exact .inr ⟨rfl, rfl⟩ | rfl
  | some r =>
    obtain ⟨cs, e⟩ := r
    obtain ⟨c, h1, h2, h3⟩ := h i cs e hr
    obtain ⟨c', h4, h5⟩ := hA.rows i c e (0, 0) h1
    rw [h1, h4]
    refine ⟨rfl, rfl, h5, fun j _ => ?_⟩
    obtain ⟨l, hl, hat⟩ := hS.rel.obj i _ (hend i _ hr)
    have hl0 : startM gs i = some ⟨i, 0, cs.length⟩ := by unfold startM; rw [hr]
    have := hS.le _ _ hl0
    rw [hl] at this
    cases this
    obtain ⟨c2, k1, _, _, k4⟩ := hat
    simp only at k1
    rw [h4] at k1
    cases k1
    rcases Nat.lt_or_ge j cs.length with hj | hj
    · obtain ⟨y, hy, hxy⟩ := h3 j _ (List.getElem?_eq_getElem hj)
      obtain ⟨z, hz, hxz⟩ := k4 j _ (List.getElem?_eq_getElem hj)
      simp only [Nat.zero_add] at hz
      rw [hy, hz]
      have hmem := hsc _ (List.mem_of_getElem? hr)
      have hone : ∀ (l : List AV), scalarsSame l l = true → ∀ x ∈ l, scalarSame x x = true := by
        intro l
        induction l with
        | nil => intro _ x hx; cases hx
        | cons a l ih =>
          intro hl x hx
          simp only [scalarsSame, Bool.and_eq_true] at hl
          rcases List.mem_cons.1 hx with rfl | hx
          · exact hl.1
          · exact ih hl.2 x hx
      rw [cell_same hxy (hone cs hmem _ (List.getElem_mem hj)) hxz]
    · rw [Array.getElem?_eq_none (by omega), Array.getElem?_eq_none (by omega)]

end
end Go.Ab
