/- Own text of this claim: part Ab51. -/
import Derived.Test.YtjffanafmodhdaaGreatDoorAb26
import Derived.Test.YtjffanafmodhdaaGreatDoorAb50
set_option linter.unusedVariables false
set_option linter.unusedSimpArgs false
set_option linter.unusedSectionVars false
set_option linter.unnecessarySimpa false
/-
  Own library, part 51: known calls whose results keep a part of the heap alone.
-/
namespace Go.Ab
open Go.Conc (G)

noncomputable section
def optSub : Option AObj → Option AObj → Bool
  | none, _ => true
  | some a, some b => AObj.same a b
  | _, _ => false

/-- What the first holds, the second holds. -/
def T.sub : T AObj → T AObj → Bool
  | .leaf, _ => true
  | .node none .leaf .leaf, .leaf => true
  | .node _ _ _, .leaf => false
  | .node v l r, .node v' l' r' => optSub v v' && T.sub l l' && T.sub r r'

def Known.holdsS (P : Program) (l : List Known) (n : Nat) (k : Known) : Bool :=
  match runO P l n (.call k.f k.args k.s) with
  | some (.val u t) => AV.same u k.v && (Nat.beq t.next k.s'.next && T.sub k.s'.heap t.heap)
  | _ => false
end

theorem T.sub_get : ∀ (a b : T AObj), T.sub a b = true → ∀ (n : Nat) (o : AObj), a.get n = some o → b.get n = some o
  | .leaf, _, _, n, o, h => by rw [T.get_leaf] at h; cases h
  | .node v l r, .leaf, hs, n, o, h => by
    unfold T.sub at hs
    split at hs
    · cases (by assumption : T.node v l r = .leaf)
    · rename_i heq _
      cases heq
      rw [T.get_node] at h
      split at h
      · cases h
      · split at h <;> (rw [T.get_leaf] at h; cases h)
    · cases hs
    · rename_i heq
      cases heq
  | .node v l r, .node v' l' r', hs, n, o, h => by
    have hs : (optSub v v' && T.sub l l' && T.sub r r') = true := by
      unfold T.sub at hs
      split at hs
      · rename_i heq; cases heq
      · rename_i heq; cases heq
      · rename_i heq; cases heq
      · rename_i e1 e2; cases e1; cases e2; exact hs
    simp only [Bool.and_eq_true] at hs
    rw [T.get_node] at h ⊢
    by_cases h0 : n = 0
    · rw [if_pos h0] at h ⊢
      subst h
      cases v' with
      | none => cases hs.1.1
      | some o' => rw [AObj.same_eq o o' hs.1.1]
    · rw [if_neg h0] at h ⊢
      by_cases h1 : n % 2 = 1
      · rw [if_pos h1] at h ⊢
        exact T.sub_get l l' hs.1.2 _ _ h
      · rw [if_neg h1] at h ⊢
        exact T.sub_get r r' hs.2 _ _ h

section
variable {P : Program} {main : Bool}

theorem StepF.less {ρ ρ' : Map} {s t s' : St} {x x' : FW} (h : StepF P ρ s x ρ' t x') (hn : t.next = s'.next) (hs : ∀ id o, s'.get id = some o → t.get id = some o) : StepF P ρ s x ρ' s' x' := by
  have up : ∀ id, (s'.get id).isSome → (t.get id).isSome := fun id hi => by
    obtain ⟨o, ho⟩ := Option.isSome_iff_exists.1 hi
    rw [hs id o ho]
    rfl
  exact ⟨⟨fun id o ho => h.rel.obj id o (hs id o ho), fun i j l m hi hj => h.rel.inj i j l m (up i hi) (up j hj), h.rel.glob, h.rel.low, fun id l hi hl => h.rel.own id l (up id hi) hl, h.rel.fresh⟩, h.le, hn ▸ h.next, hn ▸ h.old, fun id l hi hl => h.live id l (up id hi) hl, h.size, h.foot, h.frame⟩

/-- A call that was carried out by the kernel is known. -/
theorem Known.okS (C : Good P) {l : List Known} (hl : ∀ k ∈ l, KnownOk P main k) {n : Nat} {k : Known} (h : k.holdsS P l n = true) : KnownOk P main k := by
  unfold Known.holdsS at h
  split at h
  · rename_i u t hr
    simp only [Bool.and_eq_true] at h
    obtain ⟨h1, h2, h3⟩ := h
    obtain ⟨hf, hnx, N, hN⟩ := (runO_sound C hl n).2 _ _ _ _ _ hr
    have hn := Nat.eq_of_beq_eq_true h2
    refine ⟨hf, hn ▸ hnx, N, ?_⟩
    rw [← AV.same_eq _ _ h1]
    exact fun ρ w args' kind caller cs Stop m hR hF ha hk hK => hN ρ w args' kind caller cs Stop m hR (hn ▸ hF) ha hk fun ρ' w' v' S hv => hK ρ' w' v' (S.less hn (T.sub_get _ _ h3)) hv
  · cases h
end
end Go.Ab

