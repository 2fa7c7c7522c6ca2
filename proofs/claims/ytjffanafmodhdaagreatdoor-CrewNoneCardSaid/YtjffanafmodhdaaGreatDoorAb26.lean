/- Own text of this claim: part Ab26. -/
import Derived.Test.YtjffanafmodhdaaGreatDoorAb24
import Derived.Test.YtjffanafmodhdaaGreatDoorAb23
set_option linter.unusedVariables false
set_option linter.unusedSimpArgs false
set_option linter.unusedSectionVars false
set_option linter.unnecessarySimpa false
/-
  Own library, part 26: the evaluator with calls that are known.
-/
namespace Go.Ab
open Go.Conc (G)

noncomputable section

def esSame : List (AV × AV × Nat) → List (AV × AV × Nat) → Bool
  | [], [] => true
  | a :: as, b :: bs => AV.same a.1 b.1 && AV.same a.2.1 b.2.1 && Nat.beq a.2.2 b.2.2 && esSame as bs
  | _, _ => false

def AObj.same : AObj → AObj → Bool
  | .cells a e, .cells b f => Nat.beq e f && AV.sameL a b
  | .map a c, .map b d => Nat.beq c d && esSame a b
  | .deferred a, .deferred b => a == b
  | .chan, .chan => true
  | _, _ => false

def optSame (a b : Option AObj) : Bool :=
  match a, b with
  | none, none => true
  | some a, some b => AObj.same a b
  | _, _ => false

def T.same : T AObj → T AObj → Bool
  | .leaf, .leaf => true
  | .node v l r, .node v' l' r' => optSame v v' && T.same l l' && T.same r r'
  | _, _ => false

def St.same (a b : St) : Bool := Nat.beq a.next b.next && T.same a.heap b.heap

structure Known where
  f : FuncId
  args : List AV
  s : St
  v : AV
  s' : St

def askCall (f : FuncId) (args : List AV) (s : St) (l : List Known) : Option Res :=
  List.rec (motive := fun _ => Option Res) none (fun k _ ih => bc (Nat.beq f k.f) (bc (Nat.beq s.next k.s.next) (bc (AV.sameL args k.args && St.same s k.s) (some (.val k.v k.s')) ih) ih) ih) l

def askO (l : List Known) (t : Task) : Option Res :=
  Task.rec (motive := fun _ => List Known → Option Res) (fun _ _ _ _ _ => none) (fun f args s l => askCall f args s l) t l

def orElse (a : Option Res) (b : Option Res) : Option Res := Option.rec (motive := fun _ => Option Res) b (fun r => some r) a

def runO (P : Program) (l : List Known) (n : Nat) : Rc := Nat.rec (motive := fun _ => Rc) (fun _ => none) (fun _ ih t => orElse (askO l t) (stepF P ih t)) n

/-- The result of a call is the one that is said. -/
def isRes (r : Option Res) (v : AV) (s : St) : Bool :=
  match r with
  | some (.val u t) => AV.same u v && St.same t s
  | _ => false

def Known.holds (P : Program) (l : List Known) (n : Nat) (k : Known) : Bool := isRes (runO P l n (.call k.f k.args k.s)) k.v k.s'

end

theorem esSame_eq : ∀ (a b : List (AV × AV × Nat)), esSame a b = true → a = b
  | [], [], _ => rfl
  | [], _ :: _, h => by cases h
  | _ :: _, [], h => by cases h
  | (k, v, n) :: as, (k', v', n') :: bs, h => by
    simp only [esSame, Bool.and_eq_true] at h
    obtain ⟨⟨⟨h1, h2⟩, h3⟩, h4⟩ := h
    rw [AV.same_eq _ _ h1, AV.same_eq _ _ h2, Nat.eq_of_beq_eq_true h3, esSame_eq as bs h4]

theorem AObj.same_eq (a b : AObj) (h : AObj.same a b = true) : a = b := by
  unfold AObj.same at h
  split at h
  · simp only [Bool.and_eq_true] at h
    rw [AV.sameL_eq _ _ h.2]
    congr 1
    exact Nat.eq_of_beq_eq_true h.1
  · simp only [Bool.and_eq_true] at h
    rw [Nat.eq_of_beq_eq_true h.1, esSame_eq _ _ h.2]
  · rw [eq_of_beq h]
  · rfl
  · cases h

theorem optSame_eq (a b : Option AObj) (h : optSame a b = true) : a = b := by
  unfold optSame at h
  split at h
  · rfl
  · rw [AObj.same_eq _ _ h]
  · cases h

theorem T.same_eq : ∀ (a b : T AObj), T.same a b = true → a = b
  | .leaf, .leaf, _ => rfl
  | .leaf, .node _ _ _, h => by cases h
  | .node _ _ _, .leaf, h => by cases h
  | .node v l r, .node v' l' r', h => by
    simp only [T.same, Bool.and_eq_true] at h
    rw [optSame_eq _ _ h.1.1, T.same_eq l l' h.1.2, T.same_eq r r' h.2]

theorem St.same_eq (a b : St) (h : St.same a b = true) : a = b := by
  unfold St.same at h
  simp only [Bool.and_eq_true] at h
  cases a; cases b
  simp only at h
  rw [Nat.eq_of_beq_eq_true h.1, T.same_eq _ _ h.2]

section
variable {P : Program} {main : Bool}

variable (P main R D) in
def KnownOk (k : Known) : Prop := (∃ fn c, P.funcs[k.f]? = some fn ∧ fn.body = some c) ∧ k.s.next ≤ k.s'.next ∧ ∃ N, CallSem P main k.f k.args k.s k.v k.s' N

theorem askCall_ok {f : FuncId} {args : List AV} {s : St} : ∀ {l : List Known} {r : Res}, (∀ k ∈ l, KnownOk P main k) → askCall f args s l = some r → ∃ v s', r = .val v s' ∧ KnownOk P main ⟨f, args, s, v, s'⟩
  | [], r, _, h => by cases h
  | k :: l, r, hl, h => by
    change bc (Nat.beq f k.f) (bc (Nat.beq s.next k.s.next) (bc (AV.sameL args k.args && St.same s k.s) (some (.val k.v k.s')) (askCall f args s l)) (askCall f args s l)) (askCall f args s l) = some r at h
    have ih : askCall f args s l = some r → ∃ v s', r = .val v s' ∧ KnownOk P main ⟨f, args, s, v, s'⟩ := fun h => askCall_ok (fun k hk => hl k (List.mem_cons_of_mem _ hk)) h
    simp only [bc_eq] at h
    cases h1 : Nat.beq f k.f with
    | false => rw [h1] at h; exact ih h
    | true =>
      rw [h1] at h
      cases h2 : Nat.beq s.next k.s.next with
      | false => rw [h2] at h; exact ih h
      | true =>
        rw [h2] at h
        simp only [cond_true] at h
        cases h3 : (AV.sameL args k.args && St.same s k.s) with
        | false => rw [h3] at h; exact ih h
        | true =>
          rw [h3] at h
          simp only [cond_true, Option.some.injEq] at h
          simp only [Bool.and_eq_true] at h3
          refine ⟨k.v, k.s', h.symm, ?_⟩
          rw [Nat.eq_of_beq_eq_true h1, AV.sameL_eq _ _ h3.1, St.same_eq _ _ h3.2]
          exact hl k (by simp)

theorem runO_sound (C : Good P) {l : List Known} (hl : ∀ k ∈ l, KnownOk P main k) : ∀ n, RecOk P main (runO P l n)
  | 0 => by
    constructor
    · intro _ _ _ _ _ _ _ h; cases h
    · intro _ _ _ _ _ h; cases h
  | n + 1 => by
    have ih := runO_sound C hl n
    have hs := step_sound C ih
    constructor
    · intro cx c fr s e fr' s' h
      have h : stepF P (runO P l n) (.code cx c fr s) = some (.code e fr' s') := h
      rw [stepF_eq] at h
      exact hs.1 cx c fr s e fr' s' h
    · intro f args s v s' h
      have h : orElse (askCall f args s l) (stepF P (runO P l n) (.call f args s)) = some (.val v s') := h
      cases ha : askCall f args s l with
      | none =>
        rw [ha] at h
        have h : stepF P (runO P l n) (.call f args s) = some (.val v s') := h
        rw [stepF_eq] at h
        exact hs.2 f args s v s' h
      | some r =>
        rw [ha] at h
        have h : some r = some (.val v s') := h
        cases h
        obtain ⟨v', s'', e, hk⟩ := askCall_ok hl ha
        cases e
        exact hk

/-- A call that was carried out by the kernel is known. -/
theorem Known.ok (C : Good P) {l : List Known} (hl : ∀ k ∈ l, KnownOk P main k) {n : Nat} {k : Known} (h : k.holds P l n = true) : KnownOk P main k := by
  unfold Known.holds isRes at h
  split at h
  · rename_i u t hr
    simp only [Bool.and_eq_true] at h
    have := (runO_sound C hl n).2 _ _ _ _ _ hr
    rw [AV.same_eq _ _ h.1, St.same_eq _ _ h.2] at this
    exact this
  · cases h

end
end Go.Ab

