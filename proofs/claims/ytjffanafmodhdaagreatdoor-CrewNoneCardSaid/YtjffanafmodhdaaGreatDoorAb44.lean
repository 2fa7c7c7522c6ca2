/- Own text of this claim: part Ab44. -/
import Derived.Test.YtjffanafmodhdaaGreatDoorAb43
set_option linter.unusedVariables false
set_option linter.unusedSimpArgs false
set_option linter.unusedSectionVars false
set_option linter.unnecessarySimpa false
/-
  Own library, part 44: abstract heaps are parted and put together again; what two goroutines are between two meetings.
-/
set_option linter.unusedSectionVars false
namespace Go.Ab
open Go.Conc

/-! ### Parting and joining -/

namespace T
variable {α : Type}

/-- Those at the places that p lists; g says which place of the whole a place is. -/
def sift (p : Nat → Bool) : (Nat → Nat) → T α → T α
  | _, .leaf => .leaf
  | g, .node v l r => .node (bif p (g 0) then v else none) (sift p (fun m => g (2 * m + 1)) l) (sift p (fun m => g (2 * m + 2)) r)

theorem get_sift (p : Nat → Bool) : ∀ (t : T α) (g : Nat → Nat) (n : Nat), (sift p g t).get n = bif p (g n) then t.get n else none
  | .leaf, g, n => by simp only [sift, get_leaf]; cases p (g n) <;> rfl
  | .node v l r, g, n => by
    simp only [sift]
    rw [get_node, get_node]
    by_cases h0 : n = 0
    · subst h0; simp only [if_true]
    · rw [if_neg h0, if_neg h0]
      by_cases h1 : n % 2 = 1
      · rw [if_pos h1, if_pos h1, get_sift p l, show 2 * (n / 2) + 1 = n by omega]
      · rw [if_neg h1, if_neg h1, get_sift p r, show 2 * (n / 2 - 1) + 2 = n by omega]

def orO : Option α → Option α → Option α
  | some x, _ => some x
  | none, y => y

def or : T α → T α → T α
  | .leaf, t => t
  | t, .leaf => t
  | .node v l r, .node v' l' r' => .node (orO v v') (or l l') (or r r')

theorem get_or : ∀ (s t : T α) (n : Nat), (or s t).get n = orO (s.get n) (t.get n)
  | .leaf, t, n => by simp only [or, get_leaf, orO]
  | .node v l r, .leaf, n => by
    simp only [or, get_leaf]
    cases (T.node v l r).get n <;> rfl
  | .node v l r, .node v' l' r', n => by
    simp only [or]
    rw [get_node, get_node, get_node]
    by_cases h0 : n = 0
    · rw [if_pos h0, if_pos h0, if_pos h0]
    · rw [if_neg h0, if_neg h0, if_neg h0]
      by_cases h1 : n % 2 = 1
      · rw [if_pos h1, if_pos h1, if_pos h1, get_or l l']
      · rw [if_neg h1, if_neg h1, if_neg h1, get_or r r']
end T

/-- Part of a state; new names from n on. -/
def St.part (s : St) (p : Nat → Bool) (n : Nat) : St := { heap := s.heap.sift p id, next := n }
/-- Two states, the second's new names behind the first's. -/
def St.join (a b : St) : St := { heap := a.heap.or b.heap, next := b.next }

theorem part_get {s : St} {p : Nat → Bool} {n id : Nat} {o : AObj} (h : (s.part p n).get id = some o) : p id = true ∧ s.get id = some o := by
  unfold St.part St.get at h
  rw [T.get_sift] at h
  exact bif_some h

theorem join_get {a b : St} {id : Nat} {o : AObj} (h : (a.join b).get id = some o) : a.get id = some o ∨ b.get id = some o := by
  unfold St.join St.get at h
  rw [T.get_or] at h
  show a.heap.get id = some o ∨ b.heap.get id = some o
  cases h1 : a.heap.get id with
  | some x => rw [h1] at h; exact .inl h
  | none => rw [h1] at h; exact .inr h

/-- The blocks of a part. -/
def Blocks (ρ : Map) (s : St) (p : Nat → Bool) : Nat → Prop := fun b => ∃ id l, p id = true ∧ (s.get id).isSome ∧ ρ id = some l ∧ l.b = b

section
variable {P : Program} {ρ : Map} {s : St} {w : World} {F : Nat → Prop}

theorem Rel.part (h : Rel (FW.A ⟨w, F⟩) P ρ s w.heap) (p : Nat → Bool) (n : Nat) : Rel (FW.A ⟨w, Blocks ρ s p⟩) P ρ (s.part p n) w.heap := by
  have up : ∀ id, ((s.part p n).get id).isSome → p id = true ∧ (s.get id).isSome := fun id hi => by
    obtain ⟨o, ho⟩ := Option.isSome_iff_exists.1 hi
    obtain ⟨h1, h2⟩ := part_get ho
    exact ⟨h1, by rw [h2]; rfl⟩
  refine ⟨fun id o ho => h.obj id o (part_get ho).2, fun i j l m hi hj => h.inj i j l m (up i hi).2 (up j hj).2, h.glob, h.low, fun id l hi hl => ?_, fun b hb => .inr hb⟩
  exact .inl ⟨id, l, (up id hi).1, (up id hi).2, hl, rfl⟩

theorem blocks_in (h : Rel (FW.A ⟨w, F⟩) P ρ s w.heap) {p : Nat → Bool} {b : Nat} (hb : Blocks ρ s p b) : F b ∧ b < w.heap.size := by
  obtain ⟨id, l, _, hi, hl, rfl⟩ := hb
  have h1 := (h.low id l hl).1
  rcases h.own id l hi hl with h2 | h2
  · exact ⟨h2, h1⟩
  · have h2 : w.heap.size ≤ l.b := h2
    omega

theorem blocks_apart (h : Rel (FW.A ⟨w, F⟩) P ρ s w.heap) {p q : Nat → Bool} (hpq : ∀ id, p id = true → q id = true → False) {b : Nat} (hp : Blocks ρ s p b) (hq : Blocks ρ s q b) : False := by
  obtain ⟨i, l, h1, h2, h3, h4⟩ := hp
  obtain ⟨j, m, k1, k2, k3, k4⟩ := hq
  have := h.inj i j l m h2 k2 h3 k3 (h4.trans k4.symm)
  subst this
  exact hpq i h1 k1
end

/-- How the names of a part have grown. -/
structure Names (ρ : Map) (n : Nat) (ρ' : Map) (n' : Nat) : Prop where
  le : ρ.le ρ'
  next : n ≤ n'
  old : ∀ id, id < n ∨ n' ≤ id → ρ' id = ρ id

theorem Names.of {P : Program} {ρ ρ' : Map} {s s' : St} {x x' : FW} (h : StepF P ρ s x ρ' s' x') : Names ρ s.next ρ' s'.next := ⟨h.le, h.next, h.old⟩

/-- The two maps as one. -/
def both (n1 : Nat) (ρa ρb : Map) : Map := fun id => if id < n1 then ρa id else ρb id

section
variable {P : Program} {ρ ρa ρb : Map} {n0 n1 : Nat} {sa sb : St} {w : World} {G0 G1 : Nat → Prop}

theorem both_le (htop : ∀ id, n0 ≤ id → ρ id = none) (ha : Names ρ n0 ρa sa.next) (hn : sa.next ≤ n1) (hb : Names ρ n1 ρb sb.next) : ρa.le (both n1 ρa ρb) ∧ ρb.le (both n1 ρa ρb) ∧ (∀ id, sb.next ≤ id → both n1 ρa ρb id = none) := by
  have hna := ha.next
  refine ⟨fun id l h => ?_, fun id l h => ?_, fun id hi => ?_⟩
  · unfold both
    by_cases hid : id < n1
    · rw [if_pos hid]; exact h
    · rw [ha.old id (.inr (by omega)), htop id (by omega)] at h
      cases h
  · unfold both
    by_cases hid : id < n1
    · rw [if_pos hid]
      rw [hb.old id (.inl hid)] at h
      exact ha.le id l h
    · rw [if_neg hid]; exact h
  · have := hb.next
    unfold both
    rw [if_neg (by omega), hb.old id (.inr hi)]
    exact htop id (by omega)

theorem Rel.join (htop : ∀ id, n0 ≤ id → ρ id = none) (ha : Names ρ n0 ρa sa.next) (hn : sa.next ≤ n1) (hb : Names ρ n1 ρb sb.next) (hap : ∀ b, G0 b → G1 b → False)
    (h0 : Rel (FW.A ⟨w, G0⟩) P ρa sa w.heap) (h1 : Rel (FW.A ⟨w, G1⟩) P ρb sb w.heap) : Rel (FW.A ⟨w, fun b => G0 b ∨ G1 b⟩) P (both n1 ρa ρb) (sa.join sb) w.heap := by
  obtain ⟨la, lb, _⟩ := both_le htop ha hn hb
  have in0 : ∀ id l, (sa.get id).isSome → ρa id = some l → G0 l.b := fun id l hi hl => by
    have h2 := (h0.low id l hl).1
    rcases h0.own id l hi hl with h | h
    · exact h
    · have h : w.heap.size ≤ l.b := h
      omega
  have in1 : ∀ id l, (sb.get id).isSome → ρb id = some l → G1 l.b := fun id l hi hl => by
    have h2 := (h1.low id l hl).1
    rcases h1.own id l hi hl with h | h
    · exact h
    · have h : w.heap.size ≤ l.b := h
      omega
  have live : ∀ id l, ((sa.join sb).get id).isSome → both n1 ρa ρb id = some l → ((sa.get id).isSome ∧ ρa id = some l) ∨ ((sb.get id).isSome ∧ ρb id = some l) := fun id l hi hl => by
    obtain ⟨o, ho⟩ := Option.isSome_iff_exists.1 hi
    rcases join_get ho with h | h
    · obtain ⟨l', h2, _⟩ := h0.obj id o h
      have := la id l' h2
      rw [hl] at this
      cases this
      exact .inl ⟨by rw [h]; rfl, h2⟩
    · obtain ⟨l', h2, _⟩ := h1.obj id o h
      have := lb id l' h2
      rw [hl] at this
      cases this
      exact .inr ⟨by rw [h]; rfl, h2⟩
  refine ⟨fun id o ho => ?_, fun i j l m hi hj hl hm e => ?_, fun g hg => ?_, fun id l hl => ?_, fun id l hi hl => ?_, fun b hb => .inr hb⟩
  · rcases join_get ho with h | h
    · obtain ⟨l, h2, h3⟩ := h0.obj id o h
      exact ⟨l, la id l h2, h3.mono la⟩
    · obtain ⟨l, h2, h3⟩ := h1.obj id o h
      exact ⟨l, lb id l h2, h3.mono lb⟩
  · rcases live i l hi hl with ⟨i1, i2⟩ | ⟨i1, i2⟩ <;> rcases live j m hj hm with ⟨j1, j2⟩ | ⟨j1, j2⟩
    · exact h0.inj i j l m i1 j1 i2 j2 e
    · exact (hap l.b (in0 i l i1 i2) (e ▸ in1 j m j1 j2)).elim
    · exact (hap m.b (in0 j m j1 j2) (e ▸ in1 i l i1 i2)).elim
    · exact h1.inj i j l m i1 j1 i2 j2 e
  · obtain ⟨l, h2, h3⟩ := h0.glob g hg
    exact ⟨l, la g l h2, h3⟩
  · unfold both at hl
    split at hl
    · exact h0.low id l hl
    · exact h1.low id l hl
  · rcases live id l hi hl with ⟨i1, i2⟩ | ⟨i1, i2⟩
    · exact .inl (.inl (in0 id l i1 i2))
    · exact .inl (.inr (in1 id l i1 i2))
end
end Go.Ab

/-
  Own library, part 45: from one meeting to the next, in abstract states.
-/
set_option linter.unusedSectionVars false
namespace Go.Ab
open Go.Conc Go.ConcX Go.Conc.Lib

noncomputable section
/-! ### At what it stands -/

def sendO (P : Program) (a : AFr) : Option (Nat × AV) :=
  (opAt a).bind fun p => match p.1.op with
  | .send ch x => match evalA P a.ts ch with
    | some (.chan id) => (evalA P a.ts x).bind fun v => some (id, v)
    | _ => none
  | _ => none

def recvO (P : Program) (a : AFr) : Option (Nat × AV) :=
  (opAt a).bind fun p => match p.1.op with
  | .recv t ch true => match evalA P a.ts ch with
    | some (.chan id) => (tyOf P t).bind fun ty => match ty.desc with
      | .chan _ elem => (tyOf P elem).bind fun et => et.zero.bind fun z => some (id, z)
      | _ => none
    | _ => none
  | _ => none

def selO (P : Program) (a : AFr) : Option (Nat × AV) :=
  (opAt a).bind fun p => match p.1.op with
  | .select cases true => match cases.toList with
    | [{ chan := ch, send := none, elem }] => match evalA P a.ts ch with
      | some (.chan id) => (tyOf P elem).bind fun et => et.zero.bind fun z => some (id, z)
      | _ => none
    | _ => none
  | _ => none

def offO (P : Program) (D main : Bool) (a : AFr) : Option (Nat × AV) :=
  match D, main with
  | true, true => sendO P a
  | true, false => recvO P a
  | false, true => selO P a
  | false, false => sendO P a

/-- What it is handed. -/
def gotA (D main : Bool) (v : AV) : AV :=
  match D, main with
  | true, true => undefA
  | true, false => .tuple [v, .bool true]
  | false, true => .tuple [.int .i64 0, .bool true, v]
  | false, false => undefA
end

theorem opAt_of_off {P : Program} {D main : Bool} {a : AFr} {u : Nat × AV} (h : offO P D main a = some u) : ∃ p, opAt a = some p := by
  have key : ∀ (f : Oper × Array Oper × Nat × List Nat × List Item → Option (Nat × AV)), (opAt a).bind f = some u → ∃ p, opAt a = some p := fun f hf => by
    obtain ⟨p, hp, _⟩ := bind_some hf
    exact ⟨p, hp⟩
  unfold offO at h
  split at h <;> first | exact key _ h

def csM (main D : Bool) (c : Nat) : Value → Value → Array CommCase := if main then cs0 D c else cs1 D c
def shM (main D : Bool) : CommShape := if main then sh0 D else sh1 D

section
variable {P : Program} {ρ : Map} {n0 : Nat} {a : AFr} {cs : List AFr} {bs : List Frame} {g : Goroutine}

theorem off_at (hB : Based P ρ n0) (hg : GRel ρ { top := a, cs } bs g) {D main : Bool} {id : Nat} {uA : AV} (h : offO P D main a = some (id, uA)) :
    ∃ l v z, ρ id = some l ∧ V ρ uA v ∧ g.status = .running ∧ ∀ w, stepG P main g w = .comm g (csM main D l.b v z) true (shM main D) w #[] := by
  have send : sendO P a = some (id, uA) → ∃ l v, ρ id = some l ∧ V ρ uA v ∧ g.status = .running ∧ ∀ main w, stepG P main g w = .comm g #[scase l.b v (.tuple #[])] true .send w #[] := by
    intro h
    unfold sendO at h
    obtain ⟨⟨o, ops, i, rest, k⟩, hop, h⟩ := bind_some h
    simp only at h
    split at h
    · rename_i ch x ho
      split at h
      · rename_i id' hc
        obtain ⟨v, hx, h⟩ := bind_some h
        cases h
        exact send_at hB hop hg ho hc hx
      · cases h
    · cases h
  unfold offO at h
  split at h
  · obtain ⟨l, v, h1, h2, h3, h4⟩ := send h
    exact ⟨l, v, _, h1, h2, h3, h4 true⟩
  · unfold recvO at h
    obtain ⟨⟨o, ops, i, rest, k⟩, hop, h⟩ := bind_some h
    simp only at h
    split at h
    · rename_i t ch ho
      split at h
      · rename_i id' hc
        obtain ⟨ty, hty, h⟩ := bind_some h
        split at h
        · rename_i d elem hd
          obtain ⟨et, het, h⟩ := bind_some h
          obtain ⟨zA, hz, h⟩ := bind_some h
          cases h
          obtain ⟨z, hz1, hz2⟩ := zero_of het hz
          obtain ⟨l, h1, h3, h4⟩ := recv_at hB hop hg ho hc hty hd hz2
          obtain ⟨f, fs, rfl, _⟩ := hg.is
          exact ⟨l, z, z, h1, ofValue_V ρ hz1, h3, fun w => h4 false none w⟩
        · cases h
      · cases h
    · cases h
  · unfold selO at h
    obtain ⟨⟨o, ops, i, rest, k⟩, hop, h⟩ := bind_some h
    simp only at h
    split at h
    · rename_i cases_ ho
      split at h
      · rename_i ch elem hcs
        split at h
        · rename_i id' hc
          obtain ⟨et, het, h⟩ := bind_some h
          obtain ⟨zA, hz, h⟩ := bind_some h
          cases h
          have e : cases_ = #[{ chan := ch, send := none, elem }] := Array.toList_inj.1 hcs
          obtain ⟨z, hz1, _⟩ := zero_of het hz
          obtain ⟨l, z', h1, h3, h4⟩ := select_at hB hop hg (e ▸ ho) hc het hz
          exact ⟨l, z, z', h1, ofValue_V ρ hz1, h3, h4 true⟩
        · cases h
      · cases h
    · cases h
  · obtain ⟨l, v, h1, h2, h3, h4⟩ := send h
    exact ⟨l, v, _, h1, h2, h3, h4 false⟩

/-- Handed what the other said. -/
theorem off_done (hg : GRel ρ { top := a, cs } bs g) {D main : Bool} {u : Nat × AV} (h : offO P D main a = some u) {vA : AV} {v : Value} {a' : AFr} (hp : opPut a (gotA D main vA) = some a') (hv : V ρ vA v) :
    GRel ρ { top := a', cs } bs (Go.Conc.served g (if main then got0 D v else got1 D v)) := by
  obtain ⟨⟨o, ops, i, rest, k⟩, hop⟩ := opAt_of_off h
  refine op_done hop hg hp ?_
  cases D <;> cases main
  · exact .tuple .nil
  · exact .tuple (.cons (.int .i64 0) (.cons (.bool true) (.cons hv .nil)))
  · exact .tuple (.cons hv (.cons (.bool true) .nil))
  · exact .tuple .nil
end

/-! ### Between two meetings -/

section
variable (P : Program) (L : WgLink) (W0 : World) (I : Nat → Prop) (co ct wg cb : Nat)

/-- The world, at a meeting's end. -/
structure JW (no nt : Nat) (s : St) (w : World) (ρ : Map) (F : Nat → Prop) (lo lt lw lb : Pl) (t : Trace) (pg ps : Nat) : Prop where
  tr : ∀ I0 I1 : Nat → Prop, (∀ b, I0 b → I1 b → False) → Tr t t.size I0 I1
  fork : Forked t pg ps
  since : Since W0 I w
  foot : Foot W0 I F
  rel : Rel (FW.A ⟨w, F⟩) P ρ s w.heap
  top : ∀ id, s.next ≤ id → ρ id = none
  ho : ρ co = some lo
  hoc : w.heap[lo.b]? = some (.chan 0 #[] false no no false)
  hoF : ¬ F lo.b
  ht : ρ ct = some lt
  htc : w.heap[lt.b]? = some (.chan 0 #[] false nt nt false)
  htF : ¬ F lt.b
  hw : ρ wg = some lw
  hwc : WgAt L.tWg lw.b w KK 0
  hwF : ¬ F lw.b
  hb : ρ cb = some lb
  new : W0.heap.size ≤ lo.b ∧ W0.heap.size ≤ lt.b ∧ W0.heap.size ≤ lw.b ∧ W0.heap.size ≤ lb.b
  ne : lw.b ≠ lo.b ∧ lo.b ≠ lt.b ∧ lw.b ≠ lt.b

structure Joint (bs : List Frame) (no nt : Nat) (pa ca : AG) (s : St) (m : Machine) (t : Trace) : Prop where
  is : ∃ a b w sl ρ F lo lt lw lb pg ps, m = duo a b w sl ∧ JW P L W0 I co ct wg cb no nt s w ρ F lo lt lw lb t pg ps ∧ GRel ρ pa bs a ∧ GRel ρ ca [bot P] b
end

section
variable {P : Program} {L : WgLink} {W0 : World} {I : Nat → Prop} {co ct wg cb : Nat} {bs : List Frame}

/-- What is known at an offer. -/
def KOff (P : Program) (ρ : Map) (n : Nat) (s' : St) (a' : AG) (bs : List Frame) (uA : AV) (g : Goroutine) (v : Value) (y : FW) : Prop :=
  ∃ ρ', Names ρ n ρ' s'.next ∧ Rel y.A P ρ' s' y.heap ∧ GRel ρ' a' bs g ∧ V ρ' uA v

theorem off_gof {main D : Bool} {ρ : Map} {s s' : St} {a a' : AG} {x : FW} {g : Goroutine} {c : Nat} {l : Pl} {id : Nat} {uA : AV} (hadv : AdvSem P main a s a' s') (hg : GRel ρ a bs g) (hR : Rel x.A P ρ s x.heap) (htop : ∀ id, s.next ≤ id → ρ id = none)
    (hl : ρ id = some l) (hc : l.b = c) (hoff : offO P D main a'.top = some (id, uA)) :
    ∃ N, GoF P main (AtOff P main (csM main D c) (shM main D) (KOff P ρ s.next s' a' bs uA)) N g x := by
  obtain ⟨_, N, h⟩ := hadv
  refine ⟨0 + N, h ρ x bs g _ 0 hg hR (fun id h1 _ => htop id h1) fun ρ' x' g' S hg' => GoF.stop fun y hy => ?_⟩
  have hRy := S.rel.rely hy
  obtain ⟨l', v, z, h1, h2, h3, h4⟩ := off_at hRy.based hg' hoff
  rw [S.le _ _ hl] at h1
  cases h1
  exact ⟨h3, g', v, z, by rw [← hc]; exact h4 y.w, fun y' hy' => ⟨ρ', Names.of S, hRy.rely hy', hg', h2⟩⟩

theorem passed_keep {w : World} {c n b : Nat} (h : b ≠ c) : (w.passed c n n false).heap[b]? = w.heap[b]? := by
  simp only [World.passed]
  rw [Array.getElem?_setIfInBounds_ne (Ne.symm h)]
theorem passed_size {w : World} {c n : Nat} : (w.passed c n n false).heap.size = w.heap.size := by simp [World.passed]
theorem passed_at {w : World} {c n : Nat} (h : c < w.heap.size) : (w.passed c n n false).heap[c]? = some (.chan 0 #[] false (n + 1) (n + 1) false) := by
  simp only [World.passed]
  rw [Array.getElem?_setIfInBounds_self_of_lt h]

/-- ONE MEETING. -/
theorem meet_core {no nt : Nat} {s sa sb : St} {w : World} {ρ : Map} {F : Nat → Prop} {lo lt lw lb : Pl} {t : Trace} {pg ps : Nat} (J : JW P L W0 I co ct wg cb no nt s w ρ F lo lt lw lb t pg ps)
    (D : Bool) (q : Nat → Bool) {n1 : Nat} (hn : sa.next ≤ n1) (hn0 : s.next ≤ n1) {a b : Goroutine} {sl : Option (Nat × Nat)} {pa' ca' : AG} {u0 u1 : AV} {N0 N1 : Nat} {idp : Nat × AV} {idc : Nat × AV}
    (h0 : GoF P true (AtOff P true (csM true D (if D then lo.b else lt.b)) (shM true D) (KOff P ρ s.next sa pa' bs u0)) N0 a ⟨w, Blocks ρ s (fun id => !q id)⟩)
    (h1 : GoF P false (AtOff P false (csM false D (if D then lo.b else lt.b)) (shM false D) (KOff P ρ n1 sb ca' [bot P] u1)) N1 b ⟨w, Blocks ρ s q⟩)
    (ho0 : offO P D true pa'.top = some idp) (ho1 : offO P D false ca'.top = some idc) {pf cf : AFr} (hp0 : opPut pa'.top (gotA D true (if D then u0 else u1)) = some pf) (hp1 : opPut ca'.top (gotA D false (if D then u0 else u1)) = some cf) :
    ∃ k m' t', runNT P k (duo a b w sl) t = (.next m', t') ∧ Joint P L W0 I co ct wg cb bs (if D then no + 1 else no) (if D then nt else nt + 1) { top := pf, cs := pa'.cs } { top := cf, cs := ca'.cs } (sa.join sb) m' t' := by
  have hap : ∀ b, Blocks ρ s (fun id => !q id) b → Blocks ρ s q b → False := fun b x y => blocks_apart J.rel (fun id e1 e2 => by rw [e2] at e1; cases e1) x y
  have cF : ∀ p, ¬ Blocks ρ s p (if D then lo.b else lt.b) := fun p e => by
    have := (blocks_in J.rel e).1
    cases D
    · exact J.htF this
    · exact J.hoF this
  have hcc : w.heap[(if D then lo.b else lt.b)]? = some (.chan 0 #[] false (if D then no else nt) (if D then no else nt) false) := by
    cases D
    · exact J.htc
    · exact J.hoc
  have hne : lw.b ≠ (if D then lo.b else lt.b) := by
    cases D
    · exact J.ne.2.2
    · exact J.ne.1
  have hnew : W0.heap.size ≤ (if D then lo.b else lt.b) := by
    cases D
    · exact J.new.2.1
    · exact J.new.1
  obtain ⟨k, m', t', hr, a2, b2, v0, v1, w1, sl', G0, G1, rfl, hG, hK0, hK1, hc1, hG0, hG1, hGap, hTr⟩ := phase (P := P) (D := D) (N0 + 1 + (N1 + 1)) (N0 + 1) (N1 + 1) a b w sl t t.size _ _ (Nat.le_refl _) (by omega) (.run h0) (.run h1)
    ⟨J.tr _ _ hap, fun b hb => (blocks_in J.rel hb).2, fun b hb => (blocks_in J.rel hb).2⟩ (cF _) (cF _) hcc
  refine ⟨k, _, t', hr, ?_⟩
  obtain ⟨ρa, na, ra, ga, va⟩ := hK0
  obtain ⟨ρb, nb, rb, gb, vb⟩ := hK1
  obtain ⟨la, lbb, htop'⟩ := both_le J.top na hn nb
  have hle : ρ.le (both n1 ρa ρb) := fun id l h => la id l (na.le id l h)
  have hv : V (both n1 ρa ρb) (if D then u0 else u1) (said D v0 v1) := by
    cases D
    · exact vb.mono lbb
    · exact va.mono la
  have hcl : (if D then lo.b else lt.b) < w.heap.size := obj_lt hcc
  have hcl1 : (if D then lo.b else lt.b) < w1.heap.size := obj_lt hc1
  have hS1 : Since W0 I w1 := J.since.grown hG (fun b hb e => J.foot b hb (blocks_in J.rel e).1) (fun b hb e => J.foot b hb (blocks_in J.rel e).1)
  have hF0 : Foot W0 I G0 := Foot.grown J.since hG (fun b hb e => J.foot b hb (blocks_in J.rel e).1)
  have hF1 : Foot W0 I G1 := Foot.grown1 J.since hG (fun b hb e => J.foot b hb (blocks_in J.rel e).1)
  have nF : ∀ b, b < w.heap.size → ¬ F b → ¬ (G0 b ∨ G1 b) := by
    rintro b hb hF (e | e)
    · rcases hG.new0 b e with h | h
      · exact hF (blocks_in J.rel h).1
      · omega
    · rcases hG.new1 b e with h | h
      · exact hF (blocks_in J.rel h).1
      · omega
  have keep : ∀ b, b < w.heap.size → ¬ F b → b ≠ (if D then lo.b else lt.b) → (w1.passed (if D then lo.b else lt.b) (if D then no else nt) (if D then no else nt) false).heap[b]? = w.heap[b]? := fun b hb hF hne => by
    rw [passed_keep hne]
    exact hG.keep b hb (fun e => hF (blocks_in J.rel e).1) (fun e => hF (blocks_in J.rel e).1)
  have hsz : (w1.passed (if D then lo.b else lt.b) (if D then no else nt) (if D then no else nt) false).heap.size = w1.heap.size := passed_size
  have rel1 : Rel (FW.A ⟨w1, fun b => G0 b ∨ G1 b⟩) P (both n1 ρa ρb) (sa.join sb) w1.heap := Rel.join J.top na hn nb hGap ra rb
  have rel2 := rel1.rely (y := ⟨w1.passed (if D then lo.b else lt.b) (if D then no else nt) (if D then no else nt) false, fun b => G0 b ∨ G1 b⟩) ⟨rfl, Nat.le_of_eq hsz.symm, fun b hb _ => passed_keep (fun e => nF _ hcl (by
    intro hF
    cases D
    · exact J.htF hF
    · exact J.hoF hF) (e ▸ hb))⟩
  obtain ⟨v, hv'⟩ := runNT_ext hr
  have hlo := obj_lt J.hoc
  have hlt := obj_lt J.htc
  have hlw := obj_lt J.hwc
  refine ⟨_, _, _, sl', both n1 ρa ρb, fun b => G0 b ∨ G1 b, lo, lt, lw, lb, pg, ps, rfl, ⟨hTr, by rw [hv']; exact J.fork.app v, hS1.fresh rfl rfl (Nat.le_of_eq hsz.symm) fun b hb => passed_keep (by omega), fun b hb e => e.elim (hF0 b hb) (hF1 b hb), rel2, htop', hle _ _ J.ho, ?_, nF _ hlo J.hoF, hle _ _ J.ht, ?_, nF _ hlt J.htF, hle _ _ J.hw, ?_, nF _ hlw J.hwF, hle _ _ J.hb, J.new, J.ne⟩, ?_, ?_⟩
  · cases D
    · exact (keep lo.b hlo J.hoF J.ne.2.1).trans J.hoc
    · exact passed_at hcl1
  · cases D
    · exact passed_at hcl1
    · exact (keep lt.b hlt J.htF (Ne.symm J.ne.2.1)).trans J.htc
  · exact (keep lw.b hlw J.hwF hne).trans J.hwc
  · have := off_done (ga.mono la) ho0 hp0 hv
    simpa using this
  · have := off_done (gb.mono lbb) ho1 hp1 hv
    simpa using this

/-- ONE MEETING, both in frames. -/
theorem meet_step {no nt : Nat} {pa pa' ca ca' : AG} {s sa sb : St} {m : Machine} {t : Trace} (J : Joint P L W0 I co ct wg cb bs no nt pa ca s m t) (D : Bool) (q : Nat → Bool) (n1 : Nat)
    (h0 : AdvSem P true pa (s.part (fun id => !q id) s.next) pa' sa) (hn : sa.next ≤ n1) (h1 : AdvSem P false ca (s.part q n1) ca' sb) {u0 u1 : AV} (ho0 : offO P D true pa'.top = some (if D then co else ct, u0)) (ho1 : offO P D false ca'.top = some (if D then co else ct, u1))
    {pf cf : AFr} (hp0 : opPut pa'.top (gotA D true (if D then u0 else u1)) = some pf) (hp1 : opPut ca'.top (gotA D false (if D then u0 else u1)) = some cf) :
    ∃ k m' t', runNT P k m t = (.next m', t') ∧ Joint P L W0 I co ct wg cb bs (if D then no + 1 else no) (if D then nt else nt + 1) { top := pf, cs := pa'.cs } { top := cf, cs := ca'.cs } (sa.join sb) m' t' := by
  obtain ⟨a, b, w, sl, ρ, F, lo, lt, lw, lb, pg, ps, rfl, JJ, ga, gb⟩ := J.is
  have hn0 : s.next ≤ n1 := Nat.le_trans h0.1 hn
  have hl : ∃ l, ρ (if D then co else ct) = some l ∧ l.b = (if D then lo.b else lt.b) := by
    cases D
    · exact ⟨lt, JJ.ht, rfl⟩
    · exact ⟨lo, JJ.ho, rfl⟩
  obtain ⟨l, hl1, hl2⟩ := hl
  obtain ⟨N0, g0⟩ := off_gof h0 ga (JJ.rel.part _ _) JJ.top hl1 hl2 ho0
  obtain ⟨N1, g1⟩ := off_gof h1 gb (JJ.rel.part _ _) (fun id hi => JJ.top id (Nat.le_trans hn0 hi)) hl1 hl2 ho1
  exact meet_core JJ D q hn hn0 g0 g1 ho0 ho1 hp0 hp1

end
end Go.Ab

/-
  Own library, part 46: from the last meeting to the end, in abstract states.
-/
set_option linter.unusedSectionVars false
namespace Go.Ab
open Go.Conc Go.ConcX Go.Conc.Lib

noncomputable section
def closeO (P : Program) (a : AFr) : Option Nat :=
  (opAt a).bind fun p => match p.1.op with
  | .call { callee := .builtin .close, args, .. } => match args.toList with
    | [x] => match evalA P a.ts x with
      | some (.chan id) => some id
      | _ => none
    | _ => none
  | _ => none

/-- A call of a function of that number with no captured values. -/
def callO (P : Program) (g : FuncId) (a : AFr) : Option (List AV) :=
  (opAt a).bind fun p => match p.1.op with
  | .call c => match c.callee with
    | .value f => match evalA P a.ts f with
      | some (.func (.func g') [] []) => bif Nat.beq g g' then mapO (evalA P a.ts) c.args.toList else none
      | _ => none
    | _ => none
  | _ => none

/-- At its end: what it returns. -/
def endO (P : Program) (a : AG) (s : St) : Option AV :=
  match a.cs with
  | [] => bif a.top.ret && a.top.nrm then (match a.top.ds with
    | [] => (P.funcs[a.top.fn]?).bind fun fn => (readRes P a.top.ts s fn.results.toList).bind fun vs => some (oneOf vs)
    | _ => none) else none
  | _ => none
end

section
variable {P : Program} {main : Bool} {fn : FuncId} {kind : CallKind} {tmps : Array Value} {todo : List Item} {w w' : World} {A : Nat → Prop}

theorem st_done {f : Func} {v : Value} (hf : P.funcs[fn]? = some f) (hi : P.inits.idxOf? fn = none) (h : (results f tmps).runL A P w = .ok v w') (hk : kind = .normal) :
    ∃ es, stepG P true (G (mk fn none kind tmps [] .returning todo) []) w = .ended (.done v) w' es ∧ EvAll A w' es := by
  subst hk
  simp only [stepG, G, mk, unwind, hf, Sem.runT_eq, runL_run h, doReturn, hi, Bool.not_true, Bool.false_eq_true, if_false]
  exact ⟨_, rfl, (ev_seen h).append EvAll.nil⟩

theorem end_at {ρ : Map} {a : AG} {g : Goroutine} {x : FW} {s : St} {v : AV} (h : endO P a s = some v) (hg : GRel ρ a [] g) (hR : Rel x.A P ρ s x.heap) (hi : P.inits.idxOf? a.top.fn = none) : EndG P v s g x := by
  unfold endO at h
  split at h
  · rename_i hcs
    obtain ⟨hc, h⟩ := bif_some h
    simp only [Bool.and_eq_true] at hc
    split at h
    · rename_i hds
      obtain ⟨fn, hfn, h⟩ := bind_some h
      obtain ⟨vs, hvs, h⟩ := bind_some h
      cases h
      obtain ⟨tmps, defers, todo, fs, rfl, h4, h5, h6⟩ := grel_ret hg hc.1
      rw [hcs] at h6
      rw [hds] at h5
      have hfs : fs = [] := by cases fs with | nil => rfl | cons => exact h6.elim
      have hdf : defers = [] := by cases defers with | nil => rfl | cons => exact h5.elim
      subst hfs hdf
      obtain ⟨v', h7, h8⟩ := results_sound (w := x.w) hR h4 hvs
      obtain ⟨es, e1, he⟩ := st_done (todo := todo) (kind := kindOf a.top.nrm) hfn hi h7 (by rw [hc.2]; rfl)
      exact ⟨rfl, v', es, ρ, e1, he, hR, h8⟩
    · cases h
  · cases h

theorem fin_gof {a aE : AG} {s sF : St} {vF : AV} (hadv : AdvSem P true a s aE sF) (he : endO P aE sF = some vF) (hi : P.inits.idxOf? aE.top.fn = none) :
    ∃ N, ∀ ρ (x : FW) g, GRel ρ a [] g → Rel x.A P ρ s x.heap → (∀ id, s.next ≤ id → ρ id = none) → GoF P true (EndG P vF sF) N g x := by
  obtain ⟨_, N, h⟩ := hadv
  refine ⟨0 + N, fun ρ x g hg hR ht => h ρ x [] g _ 0 hg hR (fun id h1 _ => ht id h1) fun ρ' x' g' S hg' => GoF.stop fun y hy => ?_⟩
  exact end_at he hg' (S.rel.rely hy) hi
end

section
variable {P : Program} {L : WgLink} {W0 : World} {I : Nat → Prop} {co ct wg cb : Nat}

theorem close_gof {ρ : Map} {s s1 : St} {a a' : AG} {x : FW} {g : Goroutine} {l : Pl} (hadv : AdvSem P true a s a' s1) {bs : List Frame} (hg : GRel ρ a bs g) (hR : Rel x.A P ρ s x.heap) (htop : ∀ id, s.next ≤ id → ρ id = none) (hl : ρ co = some l) (hc : closeO P a'.top = some co)
    {aC : AFr} (hp : opPut a'.top undefA = some aC) : ∃ N, GoF P true (AtClose P l.b (BehindClose P ρ aC a'.cs bs s1)) N g x := by
  obtain ⟨hnx, N, h⟩ := hadv
  refine ⟨0 + N, h ρ x bs g _ 0 hg hR (fun id h1 _ => htop id h1) fun ρ' x' g' S hg' => GoF.stop fun y hy => ?_⟩
  have hRy := S.rel.rely hy
  unfold closeO at hc
  obtain ⟨⟨o, ops, i, rest, k⟩, hop, hc⟩ := bind_some hc
  simp only at hc
  split at hc
  · rename_i args tys ho
    split at hc
    · rename_i x hargs
      split at hc
      · rename_i id hx
        cases hc
        have e : args = #[x] := Array.toList_inj.1 hargs
        subst e
        obtain ⟨l', h1, h2, h3, h4⟩ := close_at (main := true) hRy.based hop hg' ho hx
        rw [S.le _ _ hl] at h1
        cases h1
        refine ⟨h2, h3, _, rfl, fun n hn => h4 n y.w hn, fun y' hy' => ⟨ρ', S.le, op_done hop hg' hp (.tuple .nil), hRy.rely hy', fun id hi => ?_⟩⟩
        rw [S.old id (.inr hi)]
        exact htop id (Nat.le_trans S.next hi)
      · cases hc
    · cases hc
  · cases hc

/-- TO THE END. -/
theorem joint_end (H : WgLib P L) (Cg : Good P) {no nt : Nat} {pa pa' ca : AG} {s s1 : St} {m : Machine} {t : Trace} (J : Joint P L W0 I co ct wg cb [] no nt pa ca s m t)
    {csB : List AV} {ety : TypeId} (hcb : s.get cb = some (.cells csB ety)) (hcacs : ca.cs = [])
    -- goroutine 0
    (hadv : AdvSem P true pa (s.part (fun id => !Nat.beq id cb) s.next) pa' s1) (hclose : closeO P pa'.top = some co) {aC aW aR : AFr} (hp : opPut pa'.top undefA = some aC) {nC : Nat} (hadvC : advP P nC aC = aW) (hwait : callO P L.wait aW = some [.ptr wg 0]) (hpW : opPut aW undefA = some aR)
    {aE : AG} {sF : St} {vF : AV} (hadvR : AdvSem P true { top := aR, cs := pa'.cs } s1 aE sF) (hend : endO P aE sF = some vF) (hinit : P.inits.idxOf? aE.top.fn = none)
    -- goroutine 1
    {nK nQ : Nat} {aK aQ aD : AFr} (hadvK : advP P nK ca.top = aK) {zA : AV} (hrecv : recvO P aK = some (co, zA)) (hpK : opPut aK (.tuple [zA, .bool false]) = some aQ) (hadvQ : advP P nQ aQ = aD) (hret : aD.ret = true) (hnrm : aD.nrm = false)
    (hds : aD.ds = [.inl { fn := .func L.done, captured := [], args := [.ptr wg 0] }]) {fnD : Func} (hfnD : P.funcs[aD.fn]? = some fnD) (hresD : fnD.results = #[]) :
    Ends P m t (PostG P W0 I vF sF) := by
  obtain ⟨a, b, w, sl, ρ, F, lo, lt, lw, lb, pg, ps, rfl, JJ, ga, gb⟩ := J.is
  obtain ⟨lb', hlb', hat⟩ := JJ.rel.obj cb _ hcb
  rw [JJ.hb] at hlb'
  cases hlb'
  obtain ⟨buf, hbuf, _⟩ := hat
  have hcbF : F lb.b := by
    rcases JJ.rel.own cb lb (by rw [hcb]; rfl) JJ.hb with h | h
    · exact h
    · have := (JJ.rel.low cb lb JJ.hb).1
      have h : w.heap.size ≤ lb.b := h
      omega
  have nb : ¬ Blocks ρ s (fun id => !Nat.beq id cb) lb.b := by
    rintro ⟨id, l, h1, h2, h3, h4⟩
    have : id = cb := JJ.rel.inj id cb l lb h2 (by rw [hcb]; rfl) h3 JJ.hb h4
    subst this
    simp at h1
  have nF : ∀ b, ¬ F b → ¬ Blocks ρ s (fun id => !Nat.beq id cb) b := fun b h e => h (blocks_in JJ.rel e).1
  obtain ⟨N0, h0⟩ := close_gof hadv ga (JJ.rel.part _ _) JJ.top JJ.ho hclose hp
  obtain ⟨mF, hfin⟩ := fin_gof hadvR hend hinit
  -- goroutine 1
  have hB1 : Based P ρ w.heap.size := JJ.rel.based
  unfold recvO at hrecv
  obtain ⟨⟨o, ops, i, rest, k⟩, hop, hrecv⟩ := bind_some hrecv
  simp only at hrecv
  split at hrecv
  · rename_i tt ch ho
    split at hrecv
    · rename_i id' hc
      obtain ⟨ty, hty, hrecv⟩ := bind_some hrecv
      split at hrecv
      · rename_i d elem hd
        obtain ⟨et, het, hrecv⟩ := bind_some hrecv
        obtain ⟨zA', hz, hrecv⟩ := bind_some hrecv
        cases hrecv
        obtain ⟨z, hz1, hz2⟩ := zero_of het hz
        have gb' : GRel ρ { top := ca.top, cs := [] } [bot P] b := by
          have : ca = { top := ca.top, cs := [] } := by cases ca; simp only at hcacs; rw [hcacs]
          rw [← this]; exact gb
        have hkid := advP_goes (main := false) hB1 (cs := []) (bs := [bot P]) (Stop := AtRecv P lo.b w.heap.size z (BehindRecv ρ aQ [bot P] z)) (m := 0) nK ca.top b w gb' (fun g' w' hg' => by
          rw [hadvK] at hg'
          obtain ⟨l, h1, h2, h3⟩ := recv_at hB1 hop hg' ho hc hty hd hz2
          rw [JJ.ho] at h1
          cases h1
          refine fun w₁ _ => ⟨h2, g', ?_, fun off w _ => h3 false off w, op_done hop hg' hpK (.tuple (.cons (ofValue_V ρ hz1) (.cons (.bool false) .nil)))⟩
          obtain ⟨f, fs, rfl, _⟩ := hg'.is
          exact h3 false none w₁)
        unfold callO at hwait
        obtain ⟨⟨oW, opsW, iW, restW, kW⟩, hopW, hwait⟩ := bind_some hwait
        simp only at hwait
        split at hwait
        · rename_i cl hoW
          split at hwait
          · rename_i f hfv
            split at hwait
            · rename_i g' hev
              obtain ⟨hgb, hargs⟩ := bif_some hwait
              have hge := of_beqT hgb
              rw [← hge] at hev
              have hlw := JJ.rel.low wg lw JJ.hw
              exact endgame (l := lw) (l1 := lw) (wg := wg) (wg1 := wg) (C := lb.b) (Wg := lw.b) (c := lo.b) (n := no) H Cg (W0 := W0) (I := I) ⟨JJ.tr _ _ (fun b _ h => h), fun b hb => (blocks_in JJ.rel hb).2, fun b h => h.elim⟩ JJ.fork JJ.since (fun b hb e => JJ.foot b hb (blocks_in JJ.rel e).1) JJ.hoc JJ.hwc hbuf (nF _ JJ.hoF) (nF _ JJ.hwF) nb
                JJ.ne.1 (fun e => JJ.hwF (e ▸ hcbF)) (fun e => JJ.hoF (e ▸ hcbF)) ⟨JJ.new.2.2.1, JJ.new.2.2.2, JJ.new.1⟩ hB1 (.run hkid) hadvQ hret hnrm hds JJ.hw rfl hlw.2 hfnD hresD h0 hadvC hopW hoW hfv hev hargs JJ.hw rfl hlw.2 hpW hfin
            · cases hwait
          · cases hwait
        · cases hwait
      · cases hrecv
    · cases hrecv
  · cases hrecv

end
end Go.Ab

