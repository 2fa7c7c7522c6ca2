/- Own text of this claim: part Ab17. -/
import Derived.Test.YtjffanafmodhdaaGreatDoorAb16
import Derived.Laws.Strings
set_option linter.unusedVariables false
set_option linter.unusedSimpArgs false
set_option linter.unusedSectionVars false
set_option linter.unnecessarySimpa false
/-
  Own library, part 17: orders that a region may draw; what stands ahead of what; values that are the same.
-/
namespace Go.Ab
open Go.Conc (G)

/-! ### The same value -/

theorem ieq_to {a b : Int} (h : ieq a b = true) : a = b := by rw [ieq_eq] at h; exact eq_of_beq h

mutual
theorem AV.same_eq : ∀ (a b : AV), AV.same a b = true → a = b
  | a, b, h => by
    unfold AV.same at h
    split at h
    · simp at h; rw [h]
    · simp only [Bool.and_eq_true] at h; rw [ieqk_eq h.1, ieq_to h.2]
    · rename_i a b
      rw [beq_iff_eq, ByteArray.toList_eq, ByteArray.toList_eq] at h
      cases a; cases b
      simp only at h
      rw [Array.toList_inj] at h
      rw [h]
    · simp only [Bool.and_eq_true] at h; rw [Nat.eq_of_beq_eq_true h.1, Nat.eq_of_beq_eq_true h.2]
    · rfl
    · rfl
    · simp only [Bool.and_eq_true] at h
      obtain ⟨⟨⟨h1, h2⟩, h3⟩, h4⟩ := h
      rw [Nat.eq_of_beq_eq_true h1, Nat.eq_of_beq_eq_true h2, Nat.eq_of_beq_eq_true h3]
      congr 1
      split at h4
      · rw [Nat.eq_of_beq_eq_true h4]
      · simp only [Bool.and_eq_true] at h4; rw [Nat.eq_of_beq_eq_true h4.1, Nat.eq_of_beq_eq_true h4.2]
      · cases h4
    · rfl
    · rw [Nat.eq_of_beq_eq_true h]
    · rfl
    · rw [Nat.eq_of_beq_eq_true h]
    · rfl
    · rename_i f a b g c d
      simp only [Bool.and_eq_true] at h
      rw [Nat.eq_of_beq_eq_true h.1.1, AV.sameL_eq a c h.1.2, AV.sameL_eq b d h.2]
    · rename_i f a b g c d
      simp only [Bool.and_eq_true] at h
      rw [Nat.eq_of_beq_eq_true h.1.1, AV.sameL_eq a c h.1.2, AV.sameL_eq b d h.2]
    · rfl
    · rename_i t v u x
      simp only [Bool.and_eq_true] at h
      rw [AV.same_eq v x h.2]
      congr 1
      exact Nat.eq_of_beq_eq_true h.1
    · rfl
    · rename_i a b
      rw [AV.sameL_eq a b h]
    · rename_i a b
      rw [AV.sameL_eq a b h]
    · cases h
theorem AV.sameL_eq : ∀ (a b : List AV), AV.sameL a b = true → a = b
  | [], [], _ => rfl
  | [], _ :: _, h => by unfold AV.sameL at h; cases h
  | _ :: _, [], h => by unfold AV.sameL at h; cases h
  | x :: xs, y :: ys, h => by
    unfold AV.sameL at h
    simp only [Bool.and_eq_true] at h
    rw [AV.same_eq x y h.1, AV.sameL_eq xs ys h.2]
end

/-! ### Bits -/

theorem bit_test (m i : Nat) : bit m i = m.testBit i := by
  unfold bit
  rw [Nat.testBit_eq_decide_div_mod_eq]
  cases h : (m / 2 ^ i % 2).beq 1 with
  | true => rw [Nat.eq_of_beq_eq_true h]; rfl
  | false =>
    rw [eq_comm, decide_eq_false_iff_not]
    intro e
    rw [e] at h
    cases h

theorem bit_or (a b i : Nat) : bit (Nat.lor a b) i = (bit a i || bit b i) := by
  simp only [bit_test]
  exact Nat.testBit_or a b i

theorem bit_pow (a i : Nat) : bit (2 ^ a) i = decide (a = i) := by
  rw [bit_test, Nat.testBit_two_pow]

theorem bit_zero (i : Nat) : bit 0 i = false := by rw [bit_test]; simp

theorem fold_bits (acc : List Nat) (j : Nat) : ∀ (es : List Edge) (m : Nat),
    bit (es.foldl (fun m e => bif Region.binds .any e then Nat.lor m (Nat.lor (2 ^ e.on) ((acc[e.on]?).getD 0)) else m) m) j = true →
    bit m j = true ∨ ∃ e ∈ es, Region.binds .any e = true ∧ (e.on = j ∨ bit ((acc[e.on]?).getD 0) j = true)
  | [], m, h => .inl h
  | e :: es, m, h => by
    simp only [List.foldl_cons] at h
    rcases fold_bits acc j es _ h with h1 | ⟨e', he, h2⟩
    · cases hb : Region.binds .any e with
      | false => rw [hb] at h1; exact .inl h1
      | true =>
        rw [hb] at h1
        simp only [cond_true, bit_or, bit_pow, Bool.or_eq_true, decide_eq_true_eq] at h1
        rcases h1 with h1 | h1 | h1
        · exact .inl h1
        · exact .inr ⟨e, by simp, hb, .inl h1⟩
        · exact .inr ⟨e, by simp, hb, .inr h1⟩
    · exact .inr ⟨e', by simp [he], h2⟩

theorem befF_length : ∀ (l : List Oper) (acc : List Nat), (befF l acc).length = acc.length + l.length
  | [], acc => rfl
  | o :: l, acc => by simp only [befF]; rw [befF_length l]; simp; omega

theorem befF_keep : ∀ (l : List Oper) (acc : List Nat) (i : Nat), i < acc.length → (befF l acc)[i]? = acc[i]?
  | [], acc, i, _ => rfl
  | o :: l, acc, i, h => by
    simp only [befF]
    rw [befF_keep l _ i (by simp; omega), List.getElem?_append_left h]

theorem befF_spec : ∀ (l : List Oper) (acc : List Nat) (i : Nat) (o : Oper), l[i]? = some o → (∀ e ∈ o.after, Region.binds .any e = true → e.on < acc.length + i) → ∀ j,
    bit (((befF l acc)[acc.length + i]?).getD 0) j = true → ∃ e ∈ o.after, Region.binds .any e = true ∧ (e.on = j ∨ bit (((befF l acc)[e.on]?).getD 0) j = true)
  | [], acc, i, o, h, _, _, _ => by cases h
  | o :: l, acc, 0, o', h, hb, j, hj => by
    cases h
    simp only [befF, Nat.add_zero] at hj ⊢
    rw [befF_keep l _ acc.length (by simp)] at hj
    simp only [List.getElem?_append_right (Nat.le_refl _), Nat.sub_self, List.getElem?_cons_zero, Option.getD_some] at hj
    rcases fold_bits acc j _ _ hj with h1 | ⟨e, he, h2, h3⟩
    · rw [bit_zero] at h1; cases h1
    · refine ⟨e, by simpa using he, h2, ?_⟩
      have hlt := hb e (by simpa using he) h2
      rw [befF_keep l _ e.on (by simp; omega), List.getElem?_append_left (by omega)]
      exact h3
  | o :: l, acc, i + 1, o', h, hb, j, hj => by
    simp only [befF] at hj ⊢
    have hlen : (acc ++ [o.after.toList.foldl (fun m e => bif Region.binds .any e then Nat.lor m (Nat.lor (2 ^ e.on) ((acc[e.on]?).getD 0)) else m) 0]).length = acc.length + 1 := by simp
    have := befF_spec l _ i o' (by simpa using h) (by intro e he hb'; have := hb e he hb'; rw [hlen]; omega) j
    rw [hlen, show acc.length + 1 + i = acc.length + (i + 1) from by omega] at this
    exact this hj

theorem edgesBack_spec {ops : Array Oper} (h : edgesBack ops = true) {i : Nat} {o : Oper} (ho : ops[i]? = some o) : ∀ e ∈ o.after, Region.binds .any e = true → e.on < i := by
  have key : ∀ (l : List Oper) (k : Nat), ((enum k l).all fun p => p.2.after.toList.all fun e => !Region.binds .any e || Nat.blt e.on p.1) = true → ∀ j o, l[j]? = some o → ∀ e ∈ o.after, Region.binds .any e = true → e.on < k + j := by
    intro l
    induction l with
    | nil => intro k _ j o hj; cases hj
    | cons x l ih =>
      intro k h j o hj e he hb
      simp only [enum, List.all_cons, Bool.and_eq_true] at h
      cases j with
      | zero =>
        cases hj
        have := List.all_eq_true.1 h.1 e (by simpa using he)
        rw [hb] at this
        simp only [Bool.not_true, Bool.false_or, Nat.blt_eq] at this
        omega
      | succ j =>
        have := ih (k + 1) h.2 j o (by simpa using hj) e he hb
        omega
  intro e he hb
  have := key ops.toList 0 h i o (by simpa using ho) e he hb
  omega

theorem bef_spec {ops : Array Oper} (hb : edgesBack ops = true) {i : Nat} {o : Oper} (ho : ops[i]? = some o) {j : Nat} (h : anc (bef ops) i j = true) :
    ∃ e ∈ o.after, Region.binds .any e = true ∧ (e.on = j ∨ anc (bef ops) e.on j = true) := by
  unfold anc bef at *
  have := befF_spec ops.toList [] i o (by simpa using ho) (by intro e he hb'; have := edgesBack_spec hb ho e he hb'; simpa using this) j
  simp only [List.length_nil, Nat.zero_add] at this
  exact this h

theorem enum_get {α : Type} : ∀ (l : List α) (k i : Nat) (x : α), l[i]? = some x → (k + i, x) ∈ enum k l
  | [], _, _, _, h => by cases h
  | y :: l, k, 0, x, h => by cases h; simp [enum]
  | y :: l, k, i + 1, x, h => by
    have := enum_get l (k + 1) i x (by simpa using h)
    rw [show k + (i + 1) = k + 1 + i from by omega]
    simp [enum, this]

theorem enum_mem {α : Type} : ∀ (l : List α) (k : Nat) (p : Nat × α), p ∈ enum k l → ∃ i, p.1 = k + i ∧ l[i]? = some p.2
  | [], _, _, h => by cases h
  | y :: l, k, p, h => by
    simp only [enum, List.mem_cons] at h
    rcases h with rfl | h
    · exact ⟨0, rfl, rfl⟩
    · obtain ⟨i, h1, h2⟩ := enum_mem l (k + 1) p h
      exact ⟨i + 1, by omega, by simpa using h2⟩

/-! ### Orders -/

def addD (done : Nat → Bool) (i : Nat) : Nat → Bool := fun j => if j = i then true else done j

inductive Sched (ops : Array Oper) : (Nat → Bool) → List Nat → Prop
  | nil {done : Nat → Bool} (h : ∀ i, i < ops.size → done i = true) : Sched ops done []
  | cons {done : Nat → Bool} {i : Nat} {o : Oper} {rest : List Nat} (hi : done i = false) (ho : ops[i]? = some o) (he : ∀ e ∈ o.after, Region.binds .any e = true → done e.on = true) (h : Sched ops (addD done i) rest) : Sched ops done (i :: rest)

theorem addD_listed {listed : Array Bool} {i : Nat} (hi : i < listed.size) : (fun j => (listed.setIfInBounds i true).getD j false) = addD (fun j => listed.getD j false) i := by
  funext j
  unfold addD
  simp only [Array.getD_eq_getD_getElem?]
  by_cases e : j = i
  · subst e; rw [if_pos rfl, Array.getElem?_setIfInBounds_self_of_lt hi]; rfl
  · rw [if_neg e, Array.getElem?_setIfInBounds_ne (fun x => e x.symm)]

theorem all_listed {ops : Array Oper} (hb : edgesBack ops = true) {listed : Array Bool} (hs : listed.size = ops.size) (hr : Region.ready .any ops listed = []) : ∀ i, i < ops.size → listed.getD i false = true := by
  intro i
  induction i using Nat.strongRecOn with
  | _ i ih =>
    intro hi
    cases hl : listed.getD i false with
    | true => rfl
    | false =>
      exfalso
      have hmem : i ∈ Region.ready .any ops listed := by
        unfold Region.ready
        rw [List.mem_filter]
        refine ⟨List.mem_range.2 hi, ?_⟩
        have hl' : listed.getD i true = false := by
          simp only [Array.getD_eq_getD_getElem?] at hl ⊢
          rw [Array.getElem?_eq_getElem (by omega)] at hl ⊢
          exact hl
        rw [hl', Array.getElem?_eq_getElem hi]
        simp only [Bool.not_false, Bool.true_and, Option.map_some, Option.getD_some, Array.all_eq_true']
        intro e he
        cases hb' : Region.binds .any e with
        | false => rfl
        | true =>
          have hlt := edgesBack_spec hb (Array.getElem?_eq_getElem hi) e he hb'
          rw [ih e.on hlt (by omega)]
          rfl
      rw [hr] at hmem
      cases hmem

theorem sched_go {ops : Array Oper} (hb : edgesBack ops = true) : ∀ (fuel t : Nat) (listed : Array Bool), listed.size = ops.size → listed.toList.count false ≤ fuel →
    Sched ops (fun j => listed.getD j false) (Region.linearise.go .any ops fuel t listed [])
  | 0, t, listed, hs, hc => by
    refine .nil fun i hi => ?_
    simp only [Array.getD_eq_getD_getElem?]
    rw [Array.getElem?_eq_getElem (by omega)]
    cases hx : listed[i]'(by omega) with
    | true => rfl
    | false =>
      exfalso
      have : 0 < listed.toList.count false := List.count_pos_iff.2 (by rw [← hx]; simp)
      omega
  | fuel + 1, t, listed, hs, hc => by
    simp only [Region.linearise.go]
    change Sched ops _ (match (Region.ready .any ops listed)[t % (Region.ready .any ops listed).length]? with
      | some i => Region.linearise.go .any ops fuel (t / (Region.ready .any ops listed).length) (listed.setIfInBounds i true) [i]
      | none => [].reverse)
    cases hi : (Region.ready .any ops listed)[t % (Region.ready .any ops listed).length]? with
    | none =>
      have hnil : Region.ready .any ops listed = [] := by
        cases hr : Region.ready .any ops listed with
        | nil => rfl
        | cons x xs =>
          rw [hr] at hi
          have hlt : t % (x :: xs).length < (x :: xs).length := Nat.mod_lt _ (by simp)
          simp at hi
          simp at hlt
          omega
      exact .nil (all_listed hb hs hnil)
    | some i =>
      simp only []
      rw [linearise_go_acc, List.reverse_singleton, List.singleton_append]
      have hmem := List.mem_of_getElem? hi
      unfold Region.ready at hmem
      rw [List.mem_filter] at hmem
      obtain ⟨h1, h2⟩ := hmem
      have hlt : i < ops.size := List.mem_range.1 h1
      rw [Array.getElem?_eq_getElem hlt] at h2
      simp only [Option.map_some, Option.getD_some, Bool.and_eq_true, Bool.not_eq_true', Array.all_eq_true'] at h2
      obtain ⟨h2, h3⟩ := h2
      have hx : listed[i]'(by omega) = false := by
        simp only [Array.getD_eq_getD_getElem?] at h2
        rw [Array.getElem?_eq_getElem (by omega)] at h2
        exact h2
      refine .cons (o := ops[i]) ?_ (Array.getElem?_eq_getElem hlt) ?_ ?_
      · simp only [Array.getD_eq_getD_getElem?]
        rw [Array.getElem?_eq_getElem (by omega), hx]
        rfl
      · intro e he hbi
        have := h3 e he
        rw [hbi] at this
        exact this
      · rw [← addD_listed (by omega)]
        refine sched_go hb fuel _ _ (by simpa using hs) ?_
        rw [Array.toList_setIfInBounds, List.count_set (by simp; omega)]
        have hp : 0 < listed.toList.count false := List.count_pos_iff.2 (by rw [← hx]; simp)
        have hx' : listed.toList[i]'(by simp; omega) = false := by simpa using hx
        rw [hx']
        simp only [beq_self_eq_true, if_true, show (true == false) = false from rfl, Bool.false_eq_true, if_false]
        omega

theorem sched_any {ops : Array Oper} (hb : edgesBack ops = true) (t : Nat) : Sched ops (fun _ => false) (Region.linearise .any ops t) := by
  have := sched_go hb ops.size t (Array.replicate ops.size false) (by simp) (by simp)
  have e : (fun j => (Array.replicate ops.size false).getD j false) = fun _ => false := by
    funext j
    simp only [Array.getD_eq_getD_getElem?, Array.getElem?_replicate]
    split <;> rfl
  rw [e] at this
  exact this

end Go.Ab

/-
  Own library, part 18: regions that draw their order: what a trace says; a step beside other things.
-/
namespace Go.Ab
open Go.Conc (G)

/-! ### Tries with given contents -/

theorem T.bound {α : Type} : ∀ (t : T α), ∃ n, ∀ i, n ≤ i → t.get i = none
  | .leaf => ⟨0, fun i _ => T.get_leaf i⟩
  | .node v l r => by
    obtain ⟨a, ha⟩ := T.bound l
    obtain ⟨b, hb⟩ := T.bound r
    refine ⟨2 * (a + b) + 3, fun i hi => ?_⟩
    rw [T.get_node]
    rw [if_neg (by omega)]
    split
    · exact ha _ (by omega)
    · exact hb _ (by omega)

theorem T.exists_of {α : Type} (g : Nat → Option α) : ∀ n, ∃ t : T α, ∀ i, t.get i = if i < n then g i else none
  | 0 => ⟨.leaf, fun i => by rw [T.get_leaf]; simp⟩
  | n + 1 => by
    obtain ⟨t, ht⟩ := T.exists_of g n
    refine ⟨t.put n (g n), fun i => ?_⟩
    rw [T.get_put, ht]
    by_cases e : i = n
    · subst e; rw [if_pos rfl, if_pos (by omega)]
    · rw [if_neg e]
      by_cases h : i < n
      · rw [if_pos h, if_pos (by omega)]
      · rw [if_neg h, if_neg (by omega)]

theorem St.over (s₁ s₂ K : St) (N : Nat) : ∃ K' : St, K'.next = N ∧ ∀ id, K'.get id = (match s₂.get id with | some o => some o | none => if (s₁.get id).isNone then K.get id else none) := by
  obtain ⟨a, ha⟩ := T.bound s₂.heap
  obtain ⟨b, hb⟩ := T.bound K.heap
  obtain ⟨t, ht⟩ := T.exists_of (fun id => match s₂.get id with | some o => some o | none => if (s₁.get id).isNone then K.get id else none) (a + b)
  refine ⟨⟨t, N⟩, rfl, fun id => ?_⟩
  show t.get id = _
  rw [ht]
  by_cases h : id < a + b
  · rw [if_pos h]
  · rw [if_neg h]
    have h1 : s₂.get id = none := ha _ (by omega)
    have h2 : K.get id = none := hb _ (by omega)
    rw [h1, h2]
    simp

section
variable {A : Nat → Prop} {P : Program} {ρ₀ ρ ρ' : Map} {s₀ s s₁ s₂ K : St} {H : Array Obj} {x₀ x y : FW}

theorem Rel.sub (hR : Rel A P ρ K H) (h : ∀ id o, s.get id = some o → K.get id = some o) : Rel A P ρ s H := by
  have hs : ∀ id, (s.get id).isSome → (K.get id).isSome := by
    intro id hi
    cases hg : s.get id with
    | none => rw [hg] at hi; cases hi
    | some o => rw [h id o hg]; rfl
  exact ⟨fun id o hg => hR.obj id o (h id o hg), fun i j l m hi hj => hR.inj i j l m (hs i hi) (hs j hj), hR.glob, hR.low, fun i l hi => hR.own i l (hs i hi), hR.fresh⟩

theorem StepF.sub (hS : StepF P ρ₀ s₀ x₀ ρ K x) (h : ∀ id o, s.get id = some o → K.get id = some o) (hn : s.next = K.next) : StepF P ρ₀ s₀ x₀ ρ s x where
  rel := hS.rel.sub h
  le := hS.le
  next := by rw [hn]; exact hS.next
  old := by rw [hn]; exact hS.old
  live := fun id l hi hl => hS.live id l (by
    cases hg : s.get id with
    | none => rw [hg] at hi; cases hi
    | some o => rw [h id o hg]; rfl) hl
  size := hS.size
  foot := hS.foot
  frame := hS.frame

/-- A step of a part of the heap, seen from the whole. -/
theorem StepF.ext (hS : StepF P ρ₀ s₀ x₀ ρ K x) (hsub : ∀ id o, s₁.get id = some o → K.get id = some o) (hT : StepF P ρ s₁ x ρ' s₂ y) (h1 : s₀.next ≤ s₁.next) (h2 : s₂.next ≤ K.next) :
    ∃ K', K'.next = K.next ∧ StepF P ρ₀ s₀ x₀ ρ' K' y ∧ (∀ id o, s₂.get id = some o → K'.get id = some o) ∧ (∀ id o, K.get id = some o → s₁.get id = none → K'.get id = some o ∧ s₂.get id = none) := by
  obtain ⟨K', hn, hK'⟩ := St.over s₁ s₂ K K.next
  have some1 : ∀ {id}, (s₁.get id).isSome → (K.get id).isSome := by
    intro id hi
    cases hg : s₁.get id with
    | none => rw [hg] at hi; cases hi
    | some o => rw [hsub id o hg]; rfl
  have hextra : ∀ id o, K.get id = some o → s₁.get id = none → s₂.get id = none := by
    intro id o hK h1'
    cases h2' : s₂.get id with
    | none => rfl
    | some o' =>
      exfalso
      obtain ⟨l, hl, _⟩ := hS.rel.obj id o hK
      have hl' := hT.le _ _ hl
      rcases hT.live id l (by rw [h2']; rfl) hl' with hb | ⟨j, m, hj, hj', hm⟩
      · have := (hS.rel.low _ _ hl).1; omega
      · have := hS.rel.inj j id m l (some1 hj) (by rw [hK]; rfl) hj' hl hm
        subst this
        rw [h1'] at hj
        cases hj
  have hcase : ∀ id o, K'.get id = some o → s₂.get id = some o ∨ (s₂.get id = none ∧ s₁.get id = none ∧ K.get id = some o) := by
    intro id o h
    rw [hK' id] at h
    cases h2' : s₂.get id with
    | some o' => rw [h2'] at h; exact .inl h
    | none =>
      rw [h2'] at h
      simp only at h
      split at h
      · rename_i h1'
        exact .inr ⟨rfl, by simpa using h1', h⟩
      · cases h
  have hcaseS : ∀ id, (K'.get id).isSome → (s₂.get id).isSome ∨ (s₁.get id = none ∧ (K.get id).isSome) := by
    intro id h
    cases hg : K'.get id with
    | none => rw [hg] at h; cases h
    | some o =>
      rcases hcase id o hg with h' | ⟨_, h', h''⟩
      · exact .inl (by rw [h']; rfl)
      · exact .inr ⟨h', by rw [h'']; rfl⟩
  have hown : ∀ id l, (K.get id).isSome → ρ id = some l → x.F l.b := by
    intro id l hK hl
    rcases hS.rel.own id l hK hl with h | h
    · exact h
    · have := (hS.rel.low _ _ hl).1
      have h : x.heap.size ≤ l.b := h
      omega
  have hkeep : ∀ id l, s₁.get id = none → (K.get id).isSome → ρ id = some l → y.heap[l.b]? = x.heap[l.b]? := by
    intro id l h1' hK hl
    refine hT.frame l.b (hown id l hK hl) (hS.rel.low _ _ hl).1 fun j m hj hm e => ?_
    have := hS.rel.inj j id m l (some1 hj) hK hm hl e
    subst this
    rw [h1'] at hj
    cases hj
  have hbound : ∀ id, (K.get id).isSome → ∃ l, ρ id = some l := by
    intro id h
    cases hg : K.get id with
    | none => rw [hg] at h; cases h
    | some o => obtain ⟨l, hl, _⟩ := hS.rel.obj id o hg; exact ⟨l, hl⟩
  have hmix : ∀ i j l m, (s₂.get i).isSome → s₁.get j = none → (K.get j).isSome → ρ' i = some l → ρ' j = some m → l.b ≠ m.b := by
    intro i j l m hi hj hK hl hm e
    obtain ⟨m', hm'⟩ := hbound j hK
    have := hT.le _ _ hm'
    rw [hm] at this
    cases this
    rcases hT.live i l hi hl with hb | ⟨k, p, hk, hk', hp⟩
    · have := (hS.rel.low _ _ hm').1; omega
    · have := hS.rel.inj k j p m (some1 hk) hK hk' hm' (hp.trans e)
      subst this
      rw [hj] at hk
      cases hk
  refine ⟨K', hn, ?_, ?_, ?_⟩
  · refine ⟨⟨?_, ?_, hT.rel.glob, hT.rel.low, ?_, hT.rel.fresh⟩, Map.le_trans hS.le hT.le, by rw [hn]; exact hS.next, ?_, ?_, Nat.le_trans hS.size hT.size, fun b hb => hT.foot b (hS.foot b hb), ?_⟩
    · intro id o h
      rcases hcase id o h with h' | ⟨_, h1', hK⟩
      · exact hT.rel.obj id o h'
      · obtain ⟨l, hl, hat⟩ := hS.rel.obj id o hK
        exact ⟨l, hT.le _ _ hl, (hat.block (hkeep id l h1' (by rw [hK]; rfl) hl)).mono hT.le⟩
    · intro i j l m hi hj hl hm e
      rcases hcaseS i hi with hi' | ⟨hi1, hi2⟩ <;> rcases hcaseS j hj with hj' | ⟨hj1, hj2⟩
      · exact hT.rel.inj i j l m hi' hj' hl hm e
      · exact absurd e (hmix i j l m hi' hj1 hj2 hl hm)
      · exact absurd e.symm (hmix j i m l hj' hi1 hi2 hm hl)
      · obtain ⟨l', hl'⟩ := hbound i hi2
        obtain ⟨m', hm'⟩ := hbound j hj2
        have e1 := hT.le _ _ hl'
        have e2 := hT.le _ _ hm'
        rw [hl] at e1; rw [hm] at e2
        cases e1; cases e2
        exact hS.rel.inj i j l m hi2 hj2 hl' hm' e
    · intro id l hi hl
      rcases hcaseS id hi with hi' | ⟨hi1, hi2⟩
      · exact hT.rel.own id l hi' hl
      · obtain ⟨l', hl'⟩ := hbound id hi2
        have e1 := hT.le _ _ hl'
        rw [hl] at e1; cases e1
        exact .inl (hT.foot _ (hown id l hi2 hl'))
    · intro id h
      have a := hT.next
      rw [hn] at h
      rw [hT.old id (by omega), hS.old id (by omega)]
    · intro id l hi hl
      rcases hcaseS id hi with hi' | ⟨hi1, hi2⟩
      · rcases hT.live id l hi' hl with hb | ⟨j, m, hj, hj', hm⟩
        · exact .inl (Nat.le_trans hS.size hb)
        · rw [← hm]
          exact hS.live j m (some1 hj) hj'
      · obtain ⟨l', hl'⟩ := hbound id hi2
        have e1 := hT.le _ _ hl'
        rw [hl] at e1; cases e1
        exact hS.live id l hi2 hl'
    · intro B hF hB hno
      rw [hT.frame B (hS.foot B hF) (Nat.lt_of_lt_of_le hB hS.size), hS.frame B hF hB hno]
      intro id l hi hl e
      rcases hS.live id l (some1 hi) hl with hb | ⟨j, m, hj, hj', hm⟩
      · omega
      · exact hno j m hj hj' (hm.trans e)
  · intro id o h
    rw [hK' id, h]
  · intro id o hK h1'
    have h2' := hextra id o hK h1'
    refine ⟨?_, h2'⟩
    rw [hK' id, h2', h1']
    exact hK
end

end Go.Ab

/-
  Own library, part 19: what a trace says.
-/
namespace Go.Ab
open Go.Conc (G)

def stA (l : List TE) (sN : St) (i : Nat) : St := match l[i]? with | some e => e.s | none => sN
def tsA (l : List TE) (tN : T AV) (i : Nat) : T AV := match l[i]? with | some e => e.ts | none => tN

theorem stA_of {l : List TE} {sN : St} {i : Nat} {e : TE} (h : l[i]? = some e) : stA l sN i = e.s := by unfold stA; rw [h]
theorem tsA_of {l : List TE} {tN : T AV} {i : Nat} {e : TE} (h : l[i]? = some e) : tsA l tN i = e.ts := by unfold tsA; rw [h]

section
variable {P : Program} {main : Bool}

structure TrOk (P : Program) (rec : Task → Option Res) (ops : Array Oper) (nt : Nat) (rest : List Oper) (l : List TE) (s sN : St) (t0 tN : T AV) : Prop where
  len : l.length = rest.length
  first : stA l sN 0 = s
  firstT : tsA l tN 0 = t0
  op : ∀ (i : Nat) (e : TE), l[i]? = some e → rest[i]? = some e.o
  run1 : ∀ (i : Nat) (e : TE), l[i]? = some e → one P rec ops e.o e.ts e.s = some e
  next : ∀ (i : Nat) (e : TE), l[i]? = some e → stA l sN (i + 1) = e.s'
  skip : ∀ (i : Nat) (e : TE), l[i]? = some e → e.o.dst = none → tsA l tN (i + 1) = e.ts
  put : ∀ (i : Nat) (e : TE) (d : Tmp), l[i]? = some e → e.o.dst = some d → d < nt ∧ tsA l tN (i + 1) = e.ts.put d (some e.v)

theorem trace_ok {rec : Task → Option Res} {cx : Cx} {ops : Array Oper} : ∀ (rest : List Oper) (fr : Fr) (s : St) (l : List TE) (fr' : Fr) (s' : St), trace P rec cx ops rest fr s = some (l, fr', s') →
    fr'.ds = fr.ds ∧ TrOk P rec ops cx.nt rest l s s' fr.ts fr'.ts
  | [], fr, s, l, fr', s', h => by
    cases h
    refine ⟨rfl, rfl, rfl, rfl, ?_, ?_, ?_, ?_, ?_⟩
    · intro i e h; cases h
    · intro i e h; cases h
    · intro i e h; cases h
    · intro i e h; cases h
    · intro i e d h; cases h
  | o :: rest, fr, s, l, fr', s', h => by
    unfold trace at h
    obtain ⟨e, he, h1⟩ := bind_some h
    obtain ⟨fr1, hp, h2⟩ := bind_some h1
    obtain ⟨r, hr, h3⟩ := bind_some h2
    obtain ⟨l', fr2, s2⟩ := r
    cases h3
    obtain ⟨hds, ih⟩ := trace_ok rest fr1 e.s' l' _ _ hr
    have hfield : e.o = o ∧ e.ts = fr.ts ∧ e.s = s := by
      unfold Go.Ab.one at he
      cases hw : wantedA ops fr.ts o with
      | false => rw [hw] at he; cases he; exact ⟨rfl, rfl, rfl⟩
      | true =>
        rw [hw] at he
        simp only [cond_true] at he
        cases hq : isQuiet o with
        | true => rw [hq] at he; obtain ⟨_, _, h1⟩ := bind_some he; cases h1; exact ⟨rfl, rfl, rfl⟩
        | false =>
          rw [hq] at he
          simp only [cond_false] at he
          cases hb : isBirth o with
          | true => rw [hb] at he; obtain ⟨_, _, h1⟩ := bind_some he; cases h1; exact ⟨rfl, rfl, rfl⟩
          | false => rw [hb] at he; obtain ⟨_, _, h1⟩ := bind_some he; cases h1; exact ⟨rfl, rfl, rfl⟩
    obtain ⟨ho, ht, hs⟩ := hfield
    have hput : fr1.ds = fr.ds ∧ (o.dst = none → fr1.ts = fr.ts) ∧ (∀ d, o.dst = some d → d < cx.nt ∧ fr1.ts = fr.ts.put d (some e.v)) := by
      unfold Fr.put at hp
      cases hd : o.dst with
      | none => rw [hd] at hp; cases hp; exact ⟨rfl, fun _ => rfl, fun d h => by cases h⟩
      | some d =>
        rw [hd] at hp
        obtain ⟨h1, h2⟩ := bif_some hp
        cases h2
        exact ⟨rfl, (fun h => by cases h), fun d' h => by cases h; exact ⟨by rw [Nat.blt_eq] at h1; exact h1, rfl⟩⟩
    have hst : stA (e :: l') s' 1 = e.s' := by
      have := ih.first
      unfold stA at this ⊢
      simpa using this
    have hts : tsA (e :: l') fr'.ts 1 = fr1.ts := by
      have := ih.firstT
      unfold tsA at this ⊢
      simpa using this
    refine ⟨by rw [hds, hput.1], by simp [ih.len], hs, ht, ?_, ?_, ?_, ?_, ?_⟩
    · intro i e' h
      cases i with
      | zero => cases h; rw [ho]; rfl
      | succ i => exact ih.op i e' (by simpa using h)
    · intro i e' h
      cases i with
      | zero => cases h; rw [ho, ht, hs]; exact he
      | succ i => exact ih.run1 i e' (by simpa using h)
    · intro i e' h
      cases i with
      | zero => cases h; exact hst
      | succ i => have := ih.next i e' (by simpa using h); unfold stA at this ⊢; simpa using this
    · intro i e' h hd
      cases i with
      | zero => cases h; rw [hts, ht]; exact hput.2.1 (by rw [← ho]; exact hd)
      | succ i => have := ih.skip i e' (by simpa using h) hd; unfold tsA at this ⊢; simpa using this
    · intro i e' d h hd
      cases i with
      | zero => cases h; rw [hts, ht]; exact hput.2.2 d (by rw [← ho]; exact hd)
      | succ i => have := ih.put i e' d (by simpa using h) hd; unfold tsA at this ⊢; simpa using this

/-- What one entry says. -/
inductive OneIs (P : Program) (rec : Task → Option Res) (ops : Array Oper) (e : TE) : Prop
  | skip (hk : e.kind = .skip) (hw : wantedA ops e.ts e.o = false) (hv : e.v = undefA) (hs : e.s' = e.s)
  | quiet (hk : e.kind = .quiet) (hw : wantedA ops e.ts e.o = true) (hq : isQuiet e.o = true) (hs : e.s' = e.s)
  | birth (x : AObj) (hk : e.kind = .birth x) (hw : wantedA ops e.ts e.o = true) (hb : isBirth e.o = true) (hx : abirth P e.o (evR P ops e.o e.ts) e.s.next = some (e.v, x)) (hs : e.s' = e.s.new x)
  | loud (hk : e.kind = .loud) (hw : wantedA ops e.ts e.o = true) (hx : stepOp P rec e.o (evR P ops e.o e.ts) e.s = some (e.v, e.s'))

theorem one_is {rec : Task → Option Res} {ops : Array Oper} {e : TE} (h : one P rec ops e.o e.ts e.s = some e) : OneIs P rec ops e := by
  unfold one at h
  cases hw : wantedA ops e.ts e.o with
  | false =>
    rw [hw] at h
    simp only [cond_false, Option.some.injEq] at h
    exact .skip (by rw [← h]) hw (by rw [← h]) (by rw [← h])
  | true =>
    rw [hw] at h
    simp only [cond_true] at h
    cases hq : isQuiet e.o with
    | true =>
      rw [hq] at h
      obtain ⟨v, _, h1⟩ := bind_some h
      simp only [Option.some.injEq] at h1
      exact .quiet (by rw [← h1]) hw hq (by rw [← h1])
    | false =>
      rw [hq] at h
      simp only [cond_false] at h
      cases hb : isBirth e.o with
      | true =>
        rw [hb] at h
        obtain ⟨r, hr, h1⟩ := bind_some h
        simp only [Option.some.injEq] at h1
        have e1 : e.v = r.1 := by rw [← h1]
        exact .birth r.2 (by rw [← h1]) hw hb (by rw [hr, e1]) (by rw [← h1])
      | false =>
        rw [hb] at h
        obtain ⟨r, hr, h1⟩ := bind_some h
        simp only [Option.some.injEq] at h1
        have e1 : e.v = r.1 := by rw [← h1]
        have e2 : e.s' = r.2 := by rw [← h1]
        exact .loud (by rw [← h1]) hw (by rw [hr, e1, e2])

theorem OneIs.le (C : Good P) {rec : Task → Option Res} (hrec : RecOk P main rec) {ops : Array Oper} {e : TE} (h : OneIs P rec ops e) : e.s.next ≤ e.s'.next := by
  cases h with
  | skip _ _ _ hs => rw [hs]; exact Nat.le_refl _
  | quiet _ _ _ hs => rw [hs]; exact Nat.le_refl _
  | birth x _ _ _ _ hs => rw [hs]; exact Nat.le_succ _
  | loud _ _ hx => exact (stepOp_sound C hrec hx).1

theorem TrOk.mono (C : Good P) {rec : Task → Option Res} (hrec : RecOk P main rec) {ops : Array Oper} {nt : Nat} {rest : List Oper} {l : List TE} {s sN : St} {t0 tN : T AV} (h : TrOk P rec ops nt rest l s sN t0 tN) :
    ∀ i j, i ≤ j → j ≤ l.length → (stA l sN i).next ≤ (stA l sN j).next := by
  intro i j hij
  induction hij with
  | refl => intro _; exact Nat.le_refl _
  | step hij ih =>
    rename_i j
    intro hj
    refine Nat.le_trans (ih (by omega)) ?_
    have he : l[j]? = some (l[j]'(by omega)) := List.getElem?_eq_getElem (by omega)
    rw [h.next j _ he, stA_of he]
    exact (one_is (h.run1 j _ he)).le C hrec

/-- The temporaries at a place: what the last one ahead of it put there. -/
theorem TrOk.ts_at {rec : Task → Option Res} {ops : Array Oper} {nt : Nat} {rest : List Oper} {l : List TE} {s sN : St} {t0 tN : T AV} (h : TrOk P rec ops nt rest l s sN t0 tN) (t : Nat) :
    ∀ i, i ≤ l.length → (∃ j e, j < i ∧ l[j]? = some e ∧ e.o.dst = some t ∧ (∀ j' e', l[j']? = some e' → j' < i → e'.o.dst = some t → j' ≤ j) ∧ (tsA l tN i).get t = some e.v) ∨
      ((∀ j e, l[j]? = some e → j < i → e.o.dst ≠ some t) ∧ (tsA l tN i).get t = t0.get t) := by
  intro i
  induction i with
  | zero => intro _; exact .inr ⟨fun j e _ h => by omega, by rw [h.firstT]⟩
  | succ i ih =>
    intro hi
    have he : l[i]? = some (l[i]'(by omega)) := List.getElem?_eq_getElem (by omega)
    generalize l[i]'(by omega) = e at he
    have ih := ih (by omega)
    rw [tsA_of he] at ih
    by_cases hd : e.o.dst = some t
    · refine .inl ⟨i, e, by omega, he, hd, fun j' e' _ h _ => by omega, ?_⟩
      rw [(h.put i e t he hd).2, T.get_put_same]
    · have hsame : (tsA l tN (i + 1)).get t = e.ts.get t := by
        cases hd' : e.o.dst with
        | none => rw [h.skip i e he hd']
        | some d =>
          rw [(h.put i e d he hd').2, T.get_put_ne]
          intro x
          subst x
          exact hd hd'
      rw [hsame]
      rcases ih with ⟨j, e1, h1, h2, h3, h4, h5⟩ | ⟨h1, h2⟩
      · refine .inl ⟨j, e1, by omega, h2, h3, fun j' e' hj' hlt hdst => ?_, h5⟩
        by_cases x : j' = i
        · subst x; rw [he] at hj'; cases hj'; exact absurd hdst hd
        · exact h4 j' e' hj' (by omega) hdst
      · refine .inr ⟨fun j' e' hj' hlt hdst => ?_, h2⟩
        by_cases x : j' = i
        · subst x; rw [he] at hj'; cases hj'; exact hd hdst
        · exact h1 j' e' hj' (by omega) hdst

/-! ### What was looked at -/

theorem drawOk_spec {ops : Array Oper} {b : List Nat} (h : drawOk ops b = true) : edgesBack ops = true ∧ ∀ (i j : Nat) (x y : Oper), ops[i]? = some x → ops[j]? = some y → i ≠ j → anc b j i = true ∨ anc b i j = true ∨ x.apart ops y = true := by
  unfold drawOk at h
  simp only [Bool.and_eq_true] at h
  refine ⟨h.1, fun i j x y hi hj hne => ?_⟩
  have h1 := List.all_eq_true.1 h.2 (i, x) (by simpa using enum_get ops.toList 0 i x (by simpa using hi))
  have h2 := List.all_eq_true.1 h1 (j, y) (by simpa using enum_get ops.toList 0 j y (by simpa using hj))
  unfold pairOk at h2
  simp only [beqF hne, Bool.false_or, Bool.or_eq_true] at h2
  rcases h2 with (h2 | h2) | h2
  · exact .inl h2
  · exact .inr (.inl h2)
  · exact .inr (.inr h2)

theorem anc_lt {ops : Array Oper} (hb : edgesBack ops = true) : ∀ (i j : Nat) (o : Oper), ops[i]? = some o → anc (bef ops) i j = true → j < i := by
  intro i
  induction i using Nat.strongRecOn with
  | _ i ih =>
    intro j o ho h
    obtain ⟨e, he, hbe, h1⟩ := bef_spec hb ho h
    have hlt := edgesBack_spec hb ho e he hbe
    rcases h1 with h1 | h1
    · omega
    · have hsz : i < ops.size := by
        have := Array.getElem?_eq_some_iff.1 ho
        exact this.1
      have := ih e.on hlt j _ (Array.getElem?_eq_getElem (by omega)) h1
      omega

theorem traceOk_loud {ops : Array Oper} {b : List Nat} {s₀ : St} {l : List TE} (h : traceOk P ops b s₀ (enum 0 l) = true) {i j : Nat} {e e' : TE} (hi : l[i]? = some e) (hk : e.kind = .loud) (hj : l[j]? = some e') (hlt : j < i) (hk' : e'.kind.isLoud = true ∨ e'.kind.isBirth = true) : anc b i j = true := by
  unfold traceOk at h
  have h1 := List.all_eq_true.1 h (i, e) (by simpa using enum_get l 0 i e hi)
  simp only [hk] at h1
  have h2 := List.all_eq_true.1 h1 (j, e') (by simpa using enum_get l 0 j e' hj)
  simp only [Bool.or_eq_true, Nat.ble_eq] at h2
  rcases h2 with (h2 | h2) | h2
  · omega
  · rcases hk' with hk' | hk' <;> simp [hk'] at h2
  · exact h2

theorem traceOk_quiet {ops : Array Oper} {b : List Nat} {s₀ sN : St} {l : List TE} (h : traceOk P ops b s₀ (enum 0 l) = true) (hfirst : stA l sN 0 = s₀) (hnext : ∀ i e, l[i]? = some e → stA l sN (i + 1) = e.s') {i : Nat} {e : TE} (hi : l[i]? = some e) (hk : e.kind = .quiet) {m : Nat}
    (hm : m = 0 ∨ ∃ j e', m = j + 1 ∧ l[j]? = some e' ∧ e'.kind = .loud) (hno : ∀ j e', l[j]? = some e' → e'.kind = .loud → (m ≤ j → anc b i j = false) ∧ (j < m → anc b j i = false)) : aquiet P e.o (evR P ops e.o e.ts) (stA l sN m) = some e.v := by
  unfold traceOk at h
  have h1 := List.all_eq_true.1 h (i, e) (by simpa using enum_get l 0 i e hi)
  simp only [hk] at h1
  have hpt : (m, stA l sN m) ∈ ((0, s₀) :: ((enum 0 l).filter fun p => p.2.kind.isLoud).map fun p => (p.1 + 1, p.2.s')) := by
    rcases hm with rfl | ⟨j, e', rfl, hj, hk'⟩
    · rw [hfirst]; simp
    · rw [hnext j e' hj]
      refine List.mem_cons_of_mem _ (List.mem_map.2 ⟨(j, e'), List.mem_filter.2 ⟨by simpa using enum_get l 0 j e' hj, by rw [hk']; rfl⟩, rfl⟩)
  have h2 := List.all_eq_true.1 h1 _ hpt
  rw [Bool.or_eq_true] at h2
  rcases h2 with h2 | h2
  · exfalso
    obtain ⟨p, hp, h3⟩ := List.any_eq_true.1 h2
    obtain ⟨hp1, hp2⟩ := List.mem_filter.1 hp
    obtain ⟨j, hj1, hj2⟩ := enum_mem l 0 p hp1
    have hkl : p.2.kind = .loud := by
      cases hkk : p.2.kind <;> rw [hkk] at hp2 <;> first | rfl | cases hp2
    have := hno j p.2 hj2 hkl
    have hpj : p.1 = j := by omega
    rw [hpj] at h3
    simp only [Bool.or_eq_true, Bool.and_eq_true, Nat.ble_eq, Nat.blt_eq] at h3
    rcases h3 with ⟨h3, h4⟩ | ⟨h3, h4⟩
    · rw [this.1 h3] at h4; cases h4
    · rw [this.2 h3] at h4; cases h4
  · split at h2
    · rename_i v hv
      rw [hv, AV.same_eq _ _ h2]
    · cases h2

theorem yielded_at {ρ : Map} {ts : T AV} {tmps : Array Value} {ops : Array Oper} {j : Nat} (h : ∀ d, (ops[j]?).bind (·.dst) = some d → V ρ ((ts.get d).getD undefA) (tmps.getD d undef)) : yielded ops tmps j = yieldedA ops ts j := by
  unfold yielded yieldedA
  cases hd : (ops[j]?).bind (·.dst) with
  | none => simp
  | some d =>
    simp only [Option.bind_some]
    have hv := h d hd
    rw [Array.getD_eq_getD_getElem?] at hv
    cases ht : ts.get d with
    | none =>
      rw [ht] at hv
      simp only [Option.getD_none] at hv
      cases he : tmps[d]? with
      | none => rfl
      | some y =>
        rw [he] at hv
        simp only [Option.getD_some] at hv
        cases hv
        rfl
    | some x =>
      rw [ht] at hv
      simp only [Option.getD_some] at hv
      cases he : tmps[d]? with
      | none =>
        rw [he] at hv
        simp only [Option.getD_none] at hv
        have hu : (undef : Value) = .tuple #[] := rfl
        rw [hu] at hv
        cases hv
        rfl
      | some y =>
        rw [he] at hv
        simp only [Option.getD_some] at hv
        cases hv <;> rfl

theorem wanted_at {ρ : Map} {ts : T AV} {tmps : Array Value} {ops : Array Oper} {o : Oper} (h : ∀ d, d ∈ o.looksAt ops → V ρ ((ts.get d).getD undefA) (tmps.getD d undef)) : Region.wanted o (yielded ops tmps) = wantedA ops ts o := by
  unfold Region.wanted wantedA
  cases hg : o.guard with
  | none => rfl
  | some p =>
    obtain ⟨j, want⟩ := p
    have : yielded ops tmps j = yieldedA ops ts j := yielded_at fun d hd => h d (by unfold Oper.looksAt; rw [hg]; simp [hd])
    simp only [this]
    cases yieldedA ops ts j with
    | none => cases want <;> rfl
    | some b => cases b <;> cases want <;> rfl

theorem evR_at {A : Nat → Prop} {ρ : Map} {s : St} {H : Array Obj} (hR : Rel A P ρ s H) {ts : T AV} {tmps : Array Value} {ops : Array Oper} {o : Oper} (h : ∀ d, d ∈ o.looksAt ops → V ρ ((ts.get d).getD undefA) (tmps.getD d undef)) (defers : List Deferred) :
    ∀ x v, evR P ops o ts x = some v → V ρ v (({ tmps, defers } : Act).eval x) := by
  intro x v hx
  cases x with
  | tmp t =>
    simp only [evR] at hx
    obtain ⟨h1, h2⟩ := bif_some hx
    simp only [evalA, Option.some.injEq] at h2
    subst h2
    obtain ⟨d, hd, he⟩ := List.any_eq_true.1 h1
    have := Nat.eq_of_beq_eq_true he
    subst this
    have := h t hd
    simp only [Act.eval]
    rw [Array.getD_eq_getD_getElem?] at this
    simpa using this
  | const c => exact ofValue_V ρ hx
  | global g =>
    simp only [evR, evalA] at hx
    obtain ⟨hg, hx⟩ := bif_some hx
    cases hx
    rw [Nat.blt_eq] at hg
    obtain ⟨l, hl, h1, h2⟩ := hR.glob g hg
    have := V.ptr (ρ := ρ) (off := 0) hl
    rw [h1, h2] at this
    exact this
  | func f => simp only [evR, evalA, Option.some.injEq] at hx; subst hx; exact .func (.func f) .nil .nil

end
end Go.Ab

/-
  Own library, part 20: regions that draw their order: whatever the order, the same comes of it.
-/
namespace Go.Ab
open Go.Conc (G)

theorem leaf_none (id : Nat) : (T.leaf : T AObj).get id = none := T.get_leaf id

theorem abirth_aloud {P : Program} {o : Oper} {ev : Operand → Option AV} {s : St} {v : AV} {x : AObj} (hb : isBirth o = true) (h : abirth P o ev s.next = some (v, x)) : aloud P o ev s = some (v, s.new x) := by
  unfold isBirth at hb
  unfold aloud
  split at hb <;> first | (rename_i heq; simp only [heq, h, Option.bind_some]; done) | (cases hb; done)

theorem go_length (md : Region.Mode) (ops : Array Oper) : ∀ (fuel t : Nat) (listed : Array Bool), (Region.linearise.go md ops fuel t listed []).length ≤ fuel
  | 0, t, listed => by simp [Region.linearise.go]
  | fuel + 1, t, listed => by
    simp only [Region.linearise.go]
    split
    · rw [linearise_go_acc, List.reverse_singleton, List.singleton_append, List.length_cons]
      have := go_length md ops fuel
      exact Nat.succ_le_succ (this _ _)
    · simp

section
variable {P : Program} {main : Bool}

theorem OpSem.more {o : Oper} {evA : Operand → Option AV} {s s' : St} {v : AV} {N N' : Nat} (h : OpSem P main o evA s v s' N) (hn : N ≤ N') : OpSem P main o evA s v s' N' := by
  intro ρ w evC h1 h2 h3
  rcases h ρ w evC h1 h2 h3 with h | ⟨nx, a, b, c⟩
  · exact .inl h
  · exact .inr ⟨nx, a, b, fun kind caller cs Stop m hk hK => GoF.more' (c kind caller cs Stop m hk hK) (by omega)⟩

structure Inv (P : Program) (l : List TE) (sN : St) (b : List Nat) (nt : Nat) (t0 : T AV) (ρ₀ : Map) (s₀ : St) (H₀ : FW) (done : Nat → Bool) (m : Nat) (ρ : Map) (K : St) (H : FW) (tmps : Array Value) : Prop where
  step : StepF P ρ₀ s₀ H₀ ρ K H
  next : K.next = sN.next
  pt : m = 0 ∨ ∃ (j : Nat) (e : TE), m = j + 1 ∧ l[j]? = some e ∧ e.kind = .loud
  louds : ∀ (j : Nat) (e : TE), l[j]? = some e → e.kind = .loud → (done j = true ↔ j < m)
  closed : ∀ i, done i = true → ∀ j, anc b i j = true → done j = true
  inside : ∀ i, done i = true → i < l.length
  sub : ∀ id o, (stA l sN m).get id = some o → K.get id = some o
  pend : ∀ (j : Nat) (e : TE) (x : AObj), m ≤ j → l[j]? = some e → e.kind = .birth x → done j = true → K.get e.s.next = some x
  clear : ∀ (j : Nat) (e : TE) (x : AObj), m ≤ j → l[j]? = some e → e.kind = .birth x → (stA l sN m).get e.s.next = none
  free : ∀ (j : Nat) (e : TE), l[j]? = some e → done j = false → Fresh ρ e.s.next e.s'.next
  size : tmps.size = nt
  tmp : ∀ t, (∃ (i : Nat) (e : TE), l[i]? = some e ∧ done i = true ∧ e.o.dst = some t ∧ (∀ (j : Nat) (e' : TE), l[j]? = some e' → done j = true → e'.o.dst = some t → j ≤ i) ∧ V ρ e.v (tmps.getD t undef)) ∨
    ((∀ (i : Nat) (e : TE), l[i]? = some e → done i = true → e.o.dst ≠ some t) ∧ V ρ ((t0.get t).getD undefA) (tmps.getD t undef))

section
variable {l : List TE} {sN s₀ : St} {b : List Nat} {nt : Nat} {t0 tN : T AV} {ρ₀ ρ : Map} {H₀ H : FW} {done : Nat → Bool} {m : Nat} {K : St} {tmps : Array Value} {rec : Task → Option Res} {ops : Array Oper}

/-- A temporary whose writers that are done are just those ahead of a place. -/
theorem Inv.read (I : Inv P l sN b nt t0 ρ₀ s₀ H₀ done m ρ K H tmps) (T : TrOk P rec ops nt ops.toList l s₀ sN t0 tN) {q : Nat} (hq : q ≤ l.length) {t : Tmp} (h : ∀ (i : Nat) (e : TE), l[i]? = some e → e.o.dst = some t → (done i = true ↔ i < q)) :
    V ρ (((tsA l tN q).get t).getD undefA) (tmps.getD t undef) := by
  rcases T.ts_at t q hq with ⟨j, e, h1, h2, h3, h4, h5⟩ | ⟨h1, h2⟩
  · rcases I.tmp t with ⟨i, e', g1, g2, g3, g4, g5⟩ | ⟨g1, g2⟩
    · have a1 := g4 j e h2 ((h j e h2 h3).2 h1) h3
      have a2 := h4 i e' g1 ((h i e' g1 g3).1 g2) g3
      have : i = j := by omega
      subst this
      rw [h2] at g1; cases g1
      rw [h5]
      exact g5
    · exact absurd h3 (g1 j e h2 ((h j e h2 h3).2 h1))
  · rcases I.tmp t with ⟨i, e', g1, g2, g3, g4, g5⟩ | ⟨g1, g2⟩
    · exact absurd g3 (h1 i e' g1 ((h i e' g1 g3).1 g2))
    · rw [h2]; exact g2

/-- The writers of what an operation touches. -/
theorem Inv.touch (I : Inv P l sN (bef ops) nt t0 ρ₀ s₀ H₀ done m ρ K H tmps) (T : TrOk P rec ops nt ops.toList l s₀ sN t0 tN) (hok : drawOk ops (bef ops) = true) {q : Nat} {e : TE} (hq : l[q]? = some e) (hnd : done q = false) (hanc : ∀ j, anc (bef ops) q j = true → done j = true) {t : Tmp} (ht : t ∈ e.o.looksAt ops ∨ e.o.dst = some t) :
    ∀ (i : Nat) (e' : TE), l[i]? = some e' → e'.o.dst = some t → (done i = true ↔ i < q) := by
  intro i e' hi hd
  obtain ⟨hb, hp⟩ := drawOk_spec hok
  have oq : ops[q]? = some e.o := by simpa using T.op q e hq
  have oi : ops[i]? = some e'.o := by simpa using T.op i e' hi
  by_cases x : i = q
  · subst x; rw [hnd]; simp
  · rcases hp i q _ _ oi oq x with h | h | h
    · exact ⟨fun _ => anc_lt hb q i _ oq h, fun _ => hanc i h⟩
    · constructor
      · intro hdone
        have := I.closed i hdone q h
        rw [hnd] at this; cases this
      · intro hlt
        have := anc_lt hb i q _ oi h
        omega
    · obtain ⟨a1, a2, a3⟩ := Oper.apart_spec h
      rcases ht with ht | ht
      · exact absurd ht (a1 t hd)
      · exact absurd ht (a2 t hd)

/-- Up to the next loud one: births laid beside. -/
theorem Inv.merge (I : Inv P l sN b nt t0 ρ₀ s₀ H₀ done m ρ K H tmps) (T : TrOk P rec ops nt ops.toList l s₀ sN t0 tN) (C : Good P) (hrec : RecOk P main rec) : ∀ q, m ≤ q → q ≤ l.length → (∀ (j : Nat) (e : TE), l[j]? = some e → m ≤ j → j < q → e.kind ≠ .loud ∧ (∀ x, e.kind = .birth x → done j = true)) →
    (∀ id o, (stA l sN q).get id = some o → K.get id = some o) ∧ ∀ (j : Nat) (e : TE) (x : AObj), q ≤ j → l[j]? = some e → e.kind = .birth x → (stA l sN q).get e.s.next = none := by
  intro q hmq
  induction hmq with
  | refl => intro _ _; exact ⟨I.sub, I.clear⟩
  | step hmq ih =>
    rename_i q
    intro hq hall
    obtain ⟨ih1, ih2⟩ := ih (by omega) fun j e hj h1 h2 => hall j e hj h1 (by omega)
    have he : l[q]? = some (l[q]'(by omega)) := List.getElem?_eq_getElem (by omega)
    generalize l[q]'(by omega) = e at he
    obtain ⟨hnl, hbd⟩ := hall q e he hmq (by omega)
    rw [T.next q e he]
    rw [stA_of he] at ih1 ih2
    have hsame : e.s' = e.s → (∀ id o, e.s'.get id = some o → K.get id = some o) ∧ ∀ (j : Nat) (e1 : TE) (x : AObj), q + 1 ≤ j → l[j]? = some e1 → e1.kind = .birth x → e.s'.get e1.s.next = none := by
      intro hs
      rw [hs]
      exact ⟨ih1, fun j e1 x hj => ih2 j e1 x (by omega)⟩
    cases one_is (T.run1 q e he) with
    | skip _ _ _ hs => exact hsame hs
    | quiet _ _ _ hs => exact hsame hs
    | birth x hk _ _ _ hs =>
      refine ⟨fun id o h => ?_, fun j e1 x1 hj h1 hk1 => ?_⟩
      · rw [hs, St.get_new] at h
        by_cases e0 : id = e.s.next
        · rw [if_pos e0] at h; cases h
          rw [e0]
          exact I.pend q e x hmq he hk (hbd x hk)
        · rw [if_neg e0] at h; exact ih1 id o h
      · have hmono := T.mono C hrec (q + 1) j hj (by
          have := (List.getElem?_eq_some_iff.1 h1).1; omega)
        rw [T.next q e he, stA_of h1, hs] at hmono
        have hlt : e.s.next < e1.s.next := hmono
        rw [hs, St.get_new, if_neg (by omega)]
        exact ih2 j e1 x1 (by omega) h1 hk1
    | loud hk => exact absurd hk hnl

/-- The temporaries behind an operation. -/
theorem Inv.tmp_put (I : Inv P l sN (bef ops) nt t0 ρ₀ s₀ H₀ done m ρ K H tmps) (T : TrOk P rec ops nt ops.toList l s₀ sN t0 tN) (hok : drawOk ops (bef ops) = true) {q : Nat} {e : TE} (hq : l[q]? = some e) (hnd : done q = false) (hanc : ∀ j, anc (bef ops) q j = true → done j = true)
    {ρ' : Map} (hle : ρ.le ρ') {v' : Value} (hv : V ρ' e.v v') :
    ∀ t, (∃ (i : Nat) (e1 : TE), l[i]? = some e1 ∧ addD done q i = true ∧ e1.o.dst = some t ∧ (∀ (j : Nat) (e' : TE), l[j]? = some e' → addD done q j = true → e'.o.dst = some t → j ≤ i) ∧ V ρ' e1.v ((putC tmps e.o.dst v').getD t undef)) ∨
    ((∀ (i : Nat) (e1 : TE), l[i]? = some e1 → addD done q i = true → e1.o.dst ≠ some t) ∧ V ρ' ((t0.get t).getD undefA) ((putC tmps e.o.dst v').getD t undef)) := by
  intro t
  by_cases hd : e.o.dst = some t
  · have hw := I.touch T hok hq hnd hanc (.inr hd)
    have hlt := (T.put q e t hq hd).1
    refine .inl ⟨q, e, hq, by unfold addD; rw [if_pos rfl], hd, fun j e' hj hdj hdst => ?_, ?_⟩
    · unfold addD at hdj
      by_cases x : j = q
      · omega
      · rw [if_neg x] at hdj
        have := (hw j e' hj hdst).1 hdj
        omega
    · rw [hd]
      simp only [putC]
      rw [Array.getD_eq_getD_getElem?, Array.getElem?_setIfInBounds_self_of_lt (by rw [I.size]; exact hlt)]
      exact hv
  · have hsame : (putC tmps e.o.dst v').getD t undef = tmps.getD t undef := by
      cases hd' : e.o.dst with
      | none => rfl
      | some d =>
        simp only [putC]
        rw [Array.getD_eq_getD_getElem?, Array.getD_eq_getD_getElem?, Array.getElem?_setIfInBounds_ne]
        intro x
        subst x
        exact hd hd'
    rw [hsame]
    have hadd : ∀ j e', l[j]? = some e' → addD done q j = true → e'.o.dst = some t → done j = true := by
      intro j e' hj h1 h2
      unfold addD at h1
      by_cases x : j = q
      · subst x; rw [hq] at hj; cases hj; exact absurd h2 hd
      · rw [if_neg x] at h1; exact h1
    rcases I.tmp t with ⟨i, e', g1, g2, g3, g4, g5⟩ | ⟨g1, g2⟩
    · refine .inl ⟨i, e', g1, ?_, g3, fun j e1 h1 h2 h3 => g4 j e1 h1 (hadd j e1 h1 h2 h3) h3, g5.mono hle⟩
      unfold addD
      split
      · rfl
      · exact g2
    · exact .inr ⟨fun i e1 h1 h2 h3 => g1 i e1 h1 (hadd i e1 h1 h2 h3) h3, g2.mono hle⟩

theorem putC_size (tmps : Array Value) (dst : Option Tmp) (v : Value) : (putC tmps dst v).size = tmps.size := by
  cases dst <;> simp [putC]

/-- What an operation of some part of the heap makes of the whole. -/
theorem Inv.go (I : Inv P l sN (bef ops) nt t0 ρ₀ s₀ H₀ done m ρ K H tmps) (T : TrOk P rec ops nt ops.toList l s₀ sN t0 tN) (C : Good P) (hrec : RecOk P main rec) (hok : drawOk ops (bef ops) = true) {q : Nat} {e : TE} (hq : l[q]? = some e) (hnd : done q = false) (hanc : ∀ j, anc (bef ops) q j = true → done j = true)
    {s₁ s₂ : St} (hsub : ∀ id o, s₁.get id = some o → K.get id = some o) {ρ' : Map} {H' : FW} (hT : StepF P ρ s₁ H ρ' s₂ H') {v' : Value} (hv : V ρ' e.v v')
    (hn : s₁.next = s₂.next ∧ s₀.next ≤ s₁.next ∧ s₂.next ≤ sN.next ∨ s₁.next = e.s.next ∧ s₂.next = e.s'.next) {m' : Nat} (hm : m ≤ m')
    (hpt : m' = 0 ∨ ∃ (j : Nat) (e : TE), m' = j + 1 ∧ l[j]? = some e ∧ e.kind = .loud)
    (hlouds : ∀ (j : Nat) (e : TE), l[j]? = some e → e.kind = .loud → (addD done q j = true ↔ j < m'))
    (hsub' : ∀ K' : St, (∀ id o, s₂.get id = some o → K'.get id = some o) → (∀ id o, K.get id = some o → s₁.get id = none → K'.get id = some o ∧ s₂.get id = none) → ∀ id o, (stA l sN m').get id = some o → K'.get id = some o)
    (hpend : ∀ K' : St, (∀ id o, s₂.get id = some o → K'.get id = some o) → (∀ id o, K.get id = some o → s₁.get id = none → K'.get id = some o ∧ s₂.get id = none) → ∀ (j : Nat) (e : TE) (x : AObj), m' ≤ j → l[j]? = some e → e.kind = .birth x → addD done q j = true → K'.get e.s.next = some x)
    (hclear : (∀ id o, K.get id = some o → s₁.get id = none → s₂.get id = none) → ∀ (j : Nat) (e : TE) (x : AObj), m' ≤ j → l[j]? = some e → e.kind = .birth x → (stA l sN m').get e.s.next = none) :
    ∃ K', Inv P l sN (bef ops) nt t0 ρ₀ s₀ H₀ (addD done q) m' ρ' K' H' (putC tmps e.o.dst v') := by
  have hql : q < l.length := (List.getElem?_eq_some_iff.1 hq).1
  have m0 : s₀.next ≤ e.s.next := by
    have := T.mono C hrec 0 q (Nat.zero_le _) (by omega)
    rwa [T.first, stA_of hq] at this
  have mN : e.s'.next ≤ sN.next := by
    have := T.mono C hrec (q + 1) l.length (by omega) (Nat.le_refl _)
    rw [T.next q e hq] at this
    unfold stA at this
    simpa using this
  have h1 : s₀.next ≤ s₁.next := by rcases hn with ⟨_, h, _⟩ | ⟨h, _⟩ <;> omega
  have h2 : s₂.next ≤ K.next := by rw [I.next]; rcases hn with ⟨_, _, h⟩ | ⟨_, h⟩ <;> omega
  obtain ⟨K', e1, e2, e3, e4⟩ := I.step.ext hsub hT h1 h2
  refine ⟨K', e2, by rw [e1, I.next], hpt, hlouds, ?_, ?_, hsub' K' e3 e4, hpend K' e3 e4, hclear fun id o a b => (e4 id o a b).2, ?_, by rw [putC_size, I.size], I.tmp_put T hok hq hnd hanc hT.le hv⟩
  · intro i hi j hj
    unfold addD at hi ⊢
    by_cases x : j = q
    · rw [if_pos x]
    · rw [if_neg x]
      by_cases y : i = q
      · subst y; exact hanc j hj
      · rw [if_neg y] at hi; exact I.closed i hi j hj
  · intro i hi
    unfold addD at hi
    by_cases x : i = q
    · omega
    · rw [if_neg x] at hi; exact I.inside i hi
  · intro j ej hj hdj id ha hb
    unfold addD at hdj
    by_cases x : j = q
    · rw [if_pos x] at hdj; cases hdj
    · rw [if_neg x] at hdj
      have hf := I.free j ej hj hdj id ha hb
      rw [hT.old id ?_]
      · exact hf
      · rcases hn with ⟨h, _⟩ | ⟨ha1, hb1⟩
        · omega
        · have hjl : j < l.length := (List.getElem?_eq_some_iff.1 hj).1
          rcases Nat.lt_or_gt_of_ne x with x | x
          · have := T.mono C hrec (j + 1) q (by omega) (by omega)
            rw [T.next j ej hj, stA_of hq] at this
            omega
          · have := T.mono C hrec (q + 1) j (by omega) (by omega)
            rw [T.next q e hq, stA_of hj] at this
            omega

end

theorem sched_sound (C : Good P) {rec : Task → Option Res} (hrec : RecOk P main rec) {cx : Cx} {ops : Array Oper} (hok : drawOk ops (bef ops) = true) {l : List TE} {s₀ sN : St} {t0 tN : T AV} (T : TrOk P rec ops cx.nt ops.toList l s₀ sN t0 tN) (hall : traceOk P ops (bef ops) s₀ (enum 0 l) = true)
    {N : Nat} (hN : ∀ (i : Nat) (e : TE), l[i]? = some e → e.kind = .loud → OpSem P main e.o (evR P ops e.o e.ts) e.s e.v e.s' N)
    {ρ₀ : Map} {H₀ : FW} {rd : Option Nat} {kind : CallKind} {defers : List Deferred} {k : List Item} {cs : List Frame} {Stop : Goroutine → FW → Prop} {n : Nat}
    (hK : ∀ (ρ' : Map) (w' : FW) (tmps' : Array Value), StepF P ρ₀ s₀ H₀ ρ' sN w' → TR ρ' tN cx.nt tmps' → GoF P main Stop n (G (mk cx.fn rd kind tmps' defers .run k) cs) w') :
    ∀ (order : List Nat) (done : Nat → Bool), Sched ops done order → ∀ (m : Nat) (ρ : Map) (K : St) (w : FW) (tmps : Array Value), Inv P l sN (bef ops) cx.nt t0 ρ₀ s₀ H₀ done m ρ K w tmps →
      GoF P main Stop (n + 1 + order.length * (N + 1)) (G (mk cx.fn rd kind tmps defers .run (.inRegion ops order :: k)) cs) w := by
  intro order
  induction order with
  | nil =>
    intro done hs m ρ K w tmps I
    cases hs
    rename_i hdone
    simp only [List.length_nil, Nat.zero_mul, Nat.add_zero]
    have hlen : l.length = ops.size := by simpa using T.len
    have hml : m ≤ l.length := by
      rcases I.pt with h | ⟨j, e, h1, h2, _⟩
      · omega
      · have := (List.getElem?_eq_some_iff.1 h2).1; omega
    obtain ⟨h1, _⟩ := I.merge T C hrec l.length hml (Nat.le_refl _) fun j e hj hm hl => by
      refine ⟨fun hk => ?_, fun _ _ => hdone j (by omega)⟩
      have := (I.louds j e hj hk).1 (hdone j (by omega))
      omega
    have hlast : stA l sN l.length = sN := by unfold stA; simp
    have hlastT : tsA l tN l.length = tN := by unfold tsA; simp
    rw [hlast] at h1
    have hStep := I.step.sub h1 I.next.symm
    refine C.idle rfl (fun w₁ => st_region_end) (hK ρ w tmps hStep ⟨I.size, fun t => ?_⟩)
    have := I.read T (Nat.le_refl _) (t := t) fun i e hi _ => by
      have := (List.getElem?_eq_some_iff.1 hi).1
      exact ⟨fun _ => this, fun _ => hdone i (by omega)⟩
    rwa [hlastT] at this
  | cons q order ih =>
    intro done hs m ρ K w tmps I
    cases hs with | cons hnd ho he hs => ?_
    rename_i o
    obtain ⟨hb, _⟩ := drawOk_spec hok
    have hlen : l.length = ops.size := by simpa using T.len
    have hql : q < l.length := by rw [hlen]; exact (Array.getElem?_eq_some_iff.1 ho).1
    have hq : l[q]? = some (l[q]'hql) := List.getElem?_eq_getElem hql
    generalize l[q]'hql = e at hq
    have heo : ops[q]? = some e.o := by simpa using T.op q e hq
    rw [ho] at heo
    cases heo
    have hanc : ∀ j, anc (bef ops) q j = true → done j = true := by
      intro j hj
      obtain ⟨ed, h1, h2, h3⟩ := bef_spec hb ho hj
      rcases h3 with h3 | h3
      · rw [← h3]; exact he ed h1 h2
      · exact I.closed _ (he ed h1 h2) j h3
    have hlook : ∀ d, d ∈ e.o.looksAt ops → V ρ ((e.ts.get d).getD undefA) (tmps.getD d undef) := by
      intro d hd
      have := I.read T (q := q) (by omega) (t := d) (I.touch T hok hq hnd hanc (.inl hd))
      rwa [tsA_of hq] at this
    have hwant := wanted_at hlook
    have ecount : n + 1 + (q :: order).length * (N + 1) = (n + 1 + order.length * (N + 1)) + N + 1 := by
      rw [List.length_cons, Nat.succ_mul]; omega
    rw [ecount]
    have hmq : ∀ (j : Nat) (e' : TE), l[j]? = some e' → e'.kind = .loud → e.kind ≠ .loud → (addD done q j = true ↔ j < m) := by
      intro j e' hj hk hne
      unfold addD
      have : j ≠ q := by intro x; subst x; rw [hq] at hj; cases hj; exact hne hk
      rw [if_neg this]
      exact I.louds j e' hj hk
    cases one_is (T.run1 q e hq) with
    | skip hk hw hv hsame =>
      refine GoF.more' (n := n + 1 + order.length * (N + 1) + 1) ?_ (by omega)
      refine region_skip C ho (by rw [hwant]; exact hw) ?_
      obtain ⟨K', I'⟩ := I.go T C hrec hok hq hnd hanc (s₁ := { heap := .leaf, next := e.s.next }) (s₂ := { heap := .leaf, next := e.s'.next }) (fun id o h => by cases (leaf_none id).symm.trans h) (ρ' := ρ) (H' := w) (v' := undef) (m' := m)
        (by rw [hsame]; exact StepF.refl (I.step.rel.sub fun id o h => by cases (leaf_none id).symm.trans h)) (by rw [hv]; exact .tuple .nil) (.inr ⟨rfl, rfl⟩) (Nat.le_refl _) I.pt (fun j e' hj hk' => hmq j e' hj hk' (by rw [hk]; intro x; cases x))
        (fun K' h1 h2 id o h => (h2 id o (I.sub id o h) (leaf_none id)).1)
        (fun K' h1 h2 j e' x hj hl hk' hd => (h2 _ _ (I.pend j e' x hj hl hk' (by
          unfold addD at hd
          have : j ≠ q := by intro y; subst y; rw [hq] at hl; cases hl; rw [hk] at hk'; cases hk'
          rwa [if_neg this] at hd)) (leaf_none _)).1)
        (fun _ => I.clear)
      exact ih _ hs m ρ K' w _ I'
    | quiet hk hw hqq hsame =>
      have hqv := traceOk_quiet hall T.first T.next hq hk I.pt fun j e' hj hk' => by
        constructor
        · intro hmj
          cases hx : anc (bef ops) q j with
          | false => rfl
          | true =>
            have := (I.louds j e' hj hk').1 (hanc j hx)
            omega
        · intro hjm
          cases hx : anc (bef ops) j q with
          | false => rfl
          | true =>
            have := I.closed j ((I.louds j e' hj hk').2 hjm) q hx
            rw [hnd] at this; cases this
      have hml : m ≤ l.length := by
        rcases I.pt with h | ⟨j, e, h1, h2, _⟩
        · omega
        · have := (List.getElem?_eq_some_iff.1 h2).1; omega
      have hRm : Rel w.A P ρ (stA l sN m) w.heap := I.step.rel.sub I.sub
      have hop : OpSem P main e.o (evR P ops e.o e.ts) (stA l sN m) e.v (stA l sN m) 0 := by
        intro ρ1 w1 evC hR1 _ hev
        obtain ⟨v', h1, h2⟩ := quiet_sound hR1 hev hqv
        exact .inl ⟨ρ1, _, w1.w, h1, ⟨v', .inl rfl, h2⟩, Step.refl hR1, Aside.refl w1.w⟩
      have hnodef : ∀ c, e.o.op ≠ .defer c := by
        intro c hc
        unfold isQuiet at hqq
        rw [hc] at hqq
        cases hqq
      have hstep := region_op C (hop.more (Nat.zero_le N)) (rest := order) (k := k) (cs := cs) (Stop := Stop) (m := n + 1 + order.length * (N + 1)) (rd := rd) (kind := kind) (cx := cx) ho hnodef hRm (fun id h1 h2 => by omega) (evR_at hRm hlook defers) (by rw [hwant]; exact hw)
      refine hstep fun ρ' w' v' hS hv => ?_
      obtain ⟨K', I'⟩ := I.go T C hrec hok hq hnd hanc I.sub hS hv (.inl ⟨rfl, by
          have := T.mono C hrec 0 m (Nat.zero_le _) hml
          rwa [T.first] at this, by
          have := T.mono C hrec m l.length hml (Nat.le_refl _)
          have hlast : stA l sN l.length = sN := by unfold stA; simp
          rwa [hlast] at this⟩) (Nat.le_refl m) I.pt (fun j e' hj hk' => hmq j e' hj hk' (by rw [hk]; intro x; cases x))
        (fun K' h1 _ => h1)
        (fun K' h1 h2 j e' x hj hl hk' hd => (h2 _ _ (I.pend j e' x hj hl hk' (by
          unfold addD at hd
          have : j ≠ q := by intro y; subst y; rw [hq] at hl; cases hl; rw [hk] at hk'; cases hk'
          rwa [if_neg this] at hd)) (I.clear j e' x hj hl hk')).1)
        (fun _ => I.clear)
      exact ih _ hs m ρ' K' w' _ I'
    | birth x hk hw hbb hx hnew =>
      have hRe : Rel w.A P ρ { heap := .leaf, next := e.s.next } w.heap := I.step.rel.sub fun id o h => by cases (leaf_none id).symm.trans h
      have hfr := I.free q e hq hnd
      have hop : OpSem P main e.o (evR P ops e.o e.ts) { heap := .leaf, next := e.s.next } e.v (St.new { heap := .leaf, next := e.s.next } x) 0 := by
        intro ρ1 w1 evC hR1 hF hev
        exact .inl (loud_sound hR1 hev (abirth_aloud hbb hx) hF)
      have hnodef : ∀ c, e.o.op ≠ .defer c := by
        intro c hc
        unfold isBirth at hbb
        rw [hc] at hbb
        cases hbb
      have hnext : (St.new { heap := .leaf, next := e.s.next } x).next = e.s'.next := by rw [hnew]; rfl
      have hstep := region_op C (hop.more (Nat.zero_le N)) (rest := order) (k := k) (cs := cs) (Stop := Stop) (m := n + 1 + order.length * (N + 1)) (rd := rd) (kind := kind) (cx := cx) ho hnodef hRe (by rw [hnext]; exact hfr) (evR_at hRe hlook defers) (by rw [hwant]; exact hw)
      refine hstep fun ρ' w' v' hS hv => ?_
      obtain ⟨K', I'⟩ := I.go T C hrec hok hq hnd hanc (fun id o h => by cases (leaf_none id).symm.trans h) hS hv (.inr ⟨rfl, hnext⟩) (Nat.le_refl m) I.pt (fun j e' hj hk' => hmq j e' hj hk' (by rw [hk]; intro x; cases x))
        (fun K' h1 h2 id o h => (h2 id o (I.sub id o h) (leaf_none id)).1)
        (fun K' h1 h2 j e' x' hj hl hk' hd => by
          by_cases y : j = q
          · subst y
            rw [hq] at hl; cases hl
            rw [hk] at hk'; cases hk'
            refine h1 _ _ ?_
            rw [St.get_new, if_pos rfl]
          · unfold addD at hd
            rw [if_neg y] at hd
            exact (h2 _ _ (I.pend j e' x' hj hl hk' hd) (leaf_none _)).1)
        (fun _ => I.clear)
      exact ih _ hs m ρ' K' w' _ I'
    | loud hk hw hx =>
      have hmle : m ≤ q := by
        by_cases h : m ≤ q
        · exact h
        · have := (I.louds q e hq hk).2 (by omega)
          rw [hnd] at this; cases this
      have hprev : ∀ (j : Nat) (e' : TE), l[j]? = some e' → j < q → (e'.kind.isLoud = true ∨ e'.kind.isBirth = true) → done j = true := fun j e' hj hlt hkk => hanc j (traceOk_loud hall hq hk hj hlt hkk)
      obtain ⟨hsubq, hclearq⟩ := I.merge T C hrec q hmle (by omega) fun j e' hj h1 h2 => by
        refine ⟨fun hkl => ?_, fun x hkb => hprev j e' hj h2 (.inr (by rw [hkb]; rfl))⟩
        have := (I.louds j e' hj hkl).1 (hprev j e' hj h2 (.inl (by rw [hkl]; rfl)))
        omega
      rw [stA_of hq] at hsubq hclearq
      have hRq : Rel w.A P ρ e.s w.heap := I.step.rel.sub hsubq
      have hfr := I.free q e hq hnd
      have hnodef : ∀ c, e.o.op ≠ .defer c := by
        intro c hc
        unfold stepOp isQuiet aloud at hx
        rw [hc] at hx
        cases hx
      refine region_op C (hN q e hq hk) (rest := order) ho hnodef hRq hfr (evR_at hRq hlook defers) (by rw [hwant]; exact hw) fun ρ' w' v' hS hv => ?_
      have hpq : ∀ (j : Nat) (e' : TE), l[j]? = some e' → e'.kind = .loud → (addD done q j = true ↔ j < q + 1) := by
        intro j e' hj hkl
        unfold addD
        by_cases y : j = q
        · subst y; rw [if_pos rfl]; simp
        · rw [if_neg y]
          constructor
          · intro hd
            have := (I.louds j e' hj hkl).1 hd
            omega
          · intro hlt
            exact hprev j e' hj (by omega) (.inl (by rw [hkl]; rfl))
      have hst : stA l sN (q + 1) = e.s' := T.next q e hq
      have hdq : ∀ (j : Nat), q + 1 ≤ j → addD done q j = true → done j = true := by
        intro j hj hd
        unfold addD at hd
        rwa [if_neg (by omega)] at hd
      obtain ⟨K', I'⟩ := I.go T C hrec hok hq hnd hanc hsubq hS hv (.inr ⟨rfl, rfl⟩) (m' := q + 1) (by omega) (.inr ⟨q, e, rfl, hq, hk⟩) hpq
        (fun K' h1 _ => by rw [hst]; exact h1)
        (fun K' h1 h2 j e' x hj hl hk' hd => (h2 _ _ (I.pend j e' x (by omega) hl hk' (hdq j hj hd)) (hclearq j e' x (by omega) hl hk')).1)
        (fun h2 j e' x hj hl hk' => by
          rw [hst]
          cases hd : done j with
          | true => exact h2 _ _ (I.pend j e' x (by omega) hl hk' hd) (hclearq j e' x (by omega) hl hk')
          | false =>
            have hjl : j < l.length := (List.getElem?_eq_some_iff.1 hl).1
            have hge := T.mono C hrec (q + 1) j hj (by omega)
            rw [hst, stA_of hl] at hge
            have hlt : e'.s.next < e'.s'.next := by
              cases one_is (T.run1 j e' hl) with
              | birth x' _ _ _ _ hs' => rw [hs']; exact Nat.lt_succ_self _
              | skip hk2 => rw [hk2] at hk'; cases hk'
              | quiet hk2 => rw [hk2] at hk'; cases hk'
              | loud hk2 => rw [hk2] at hk'; cases hk'
            have hnone := I.free j e' hl hd e'.s.next (Nat.le_refl _) hlt
            cases hg : e.s'.get e'.s.next with
            | none => rfl
            | some o =>
              obtain ⟨p, hp, _⟩ := hS.rel.obj _ _ hg
              rw [hS.old _ (.inr hge), hnone] at hp
              cases hp)
      exact ih _ hs (q + 1) ρ' K' w' _ I'

end
end Go.Ab

