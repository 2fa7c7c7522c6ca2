/-
  Own library, part 17: orders that a region may draw; what stands ahead of what; values that are the same.
-/
import Derived.Test.YtflokkhbcjnklaaGreatDoorAb16
import Derived.Laws.Strings
namespace Go.Ab
open Go.Conc (G Goes)

/-! ### The same value -/

theorem ieq_to {a b : Int} (h : ieq a b = true) : a = b := by rw [ieq_eq] at h; exact eq_of_beq h

mutual
theorem AV.same_eq : ∀ (a b : AV), AV.same a b = true → a = b
  | a, b, h => by
    unfold AV.same at h
    split at h
    · simp at h; rw [h]
    · simp only [Bool.and_eq_true] at h; rw [ieqk_eq h.1, ieq_to h.2]
    · rename_i a b
      rw [beq_iff_eq, ByteArray.toList_eq, ByteArray.toList_eq] at h
      cases a; cases b
      simp only at h
      rw [Array.toList_inj] at h
      rw [h]
    · simp only [Bool.and_eq_true] at h; rw [Nat.eq_of_beq_eq_true h.1, Nat.eq_of_beq_eq_true h.2]
    · rfl
    · rfl
    · simp only [Bool.and_eq_true] at h
      obtain ⟨⟨⟨h1, h2⟩, h3⟩, h4⟩ := h
      rw [Nat.eq_of_beq_eq_true h1, Nat.eq_of_beq_eq_true h2, Nat.eq_of_beq_eq_true h3]
      congr 1
      split at h4
      · rw [Nat.eq_of_beq_eq_true h4]
      · simp only [Bool.and_eq_true] at h4; rw [Nat.eq_of_beq_eq_true h4.1, Nat.eq_of_beq_eq_true h4.2]
      · cases h4
    · rfl
    · rw [Nat.eq_of_beq_eq_true h]
    · rfl
    · rename_i f a b g c d
      simp only [Bool.and_eq_true] at h
      rw [Nat.eq_of_beq_eq_true h.1.1, AV.sameL_eq a c h.1.2, AV.sameL_eq b d h.2]
    · rename_i f a b g c d
      simp only [Bool.and_eq_true] at h
      rw [Nat.eq_of_beq_eq_true h.1.1, AV.sameL_eq a c h.1.2, AV.sameL_eq b d h.2]
    · rfl
    · rename_i t v u x
      simp only [Bool.and_eq_true] at h
      rw [AV.same_eq v x h.2]
      congr 1
      exact Nat.eq_of_beq_eq_true h.1
    · rfl
    · rename_i a b
      rw [AV.sameL_eq a b h]
    · rename_i a b
      rw [AV.sameL_eq a b h]
    · cases h
theorem AV.sameL_eq : ∀ (a b : List AV), AV.sameL a b = true → a = b
  | [], [], _ => rfl
  | [], _ :: _, h => by unfold AV.sameL at h; cases h
  | _ :: _, [], h => by unfold AV.sameL at h; cases h
  | x :: xs, y :: ys, h => by
    unfold AV.sameL at h
    simp only [Bool.and_eq_true] at h
    rw [AV.same_eq x y h.1, AV.sameL_eq xs ys h.2]
end

/-! ### Bits -/

theorem bit_test (m i : Nat) : bit m i = m.testBit i := by
  unfold bit
  rw [Nat.testBit_eq_decide_div_mod_eq]
  cases h : (m / 2 ^ i % 2).beq 1 with
  | true => rw [Nat.eq_of_beq_eq_true h]; rfl
  | false =>
    rw [eq_comm, decide_eq_false_iff_not]
    intro e
    rw [e] at h
    cases h

theorem bit_or (a b i : Nat) : bit (Nat.lor a b) i = (bit a i || bit b i) := by
  simp only [bit_test]
  exact Nat.testBit_or a b i

theorem bit_pow (a i : Nat) : bit (2 ^ a) i = decide (a = i) := by
  rw [bit_test, Nat.testBit_two_pow]

theorem bit_zero (i : Nat) : bit 0 i = false := by rw [bit_test]; simp

theorem fold_bits (acc : List Nat) (j : Nat) : ∀ (es : List Edge) (m : Nat),
    bit (es.foldl (fun m e => bif Region.binds .any e then Nat.lor m (Nat.lor (2 ^ e.on) ((acc[e.on]?).getD 0)) else m) m) j = true →
    bit m j = true ∨ ∃ e ∈ es, Region.binds .any e = true ∧ (e.on = j ∨ bit ((acc[e.on]?).getD 0) j = true)
  | [], m, h => .inl h
  | e :: es, m, h => by
    simp only [List.foldl_cons] at h
    rcases fold_bits acc j es _ h with h1 | ⟨e', he, h2⟩
    · cases hb : Region.binds .any e with
      | false => rw [hb] at h1; exact .inl h1
      | true =>
        rw [hb] at h1
        simp only [cond_true, bit_or, bit_pow, Bool.or_eq_true, decide_eq_true_eq] at h1
        rcases h1 with h1 | h1 | h1
        · exact .inl h1
        · exact .inr ⟨e, by simp, hb, .inl h1⟩
        · exact .inr ⟨e, by simp, hb, .inr h1⟩
    · exact .inr ⟨e', by simp [he], h2⟩

theorem befF_length : ∀ (l : List Oper) (acc : List Nat), (befF l acc).length = acc.length + l.length
  | [], acc => rfl
  | o :: l, acc => by simp only [befF]; rw [befF_length l]; simp; omega

theorem befF_keep : ∀ (l : List Oper) (acc : List Nat) (i : Nat), i < acc.length → (befF l acc)[i]? = acc[i]?
  | [], acc, i, _ => rfl
  | o :: l, acc, i, h => by
    simp only [befF]
    rw [befF_keep l _ i (by simp; omega), List.getElem?_append_left h]

theorem befF_spec : ∀ (l : List Oper) (acc : List Nat) (i : Nat) (o : Oper), l[i]? = some o → (∀ e ∈ o.after, Region.binds .any e = true → e.on < acc.length + i) → ∀ j,
    bit (((befF l acc)[acc.length + i]?).getD 0) j = true → ∃ e ∈ o.after, Region.binds .any e = true ∧ (e.on = j ∨ bit (((befF l acc)[e.on]?).getD 0) j = true)
  | [], acc, i, o, h, _, _, _ => by cases h
  | o :: l, acc, 0, o', h, hb, j, hj => by
    cases h
    simp only [befF, Nat.add_zero] at hj ⊢
    rw [befF_keep l _ acc.length (by simp)] at hj
    simp only [List.getElem?_append_right (Nat.le_refl _), Nat.sub_self, List.getElem?_cons_zero, Option.getD_some] at hj
    rcases fold_bits acc j _ _ hj with h1 | ⟨e, he, h2, h3⟩
    · rw [bit_zero] at h1; cases h1
    · refine ⟨e, by simpa using he, h2, ?_⟩
      have hlt := hb e (by simpa using he) h2
      rw [befF_keep l _ e.on (by simp; omega), List.getElem?_append_left (by omega)]
      exact h3
  | o :: l, acc, i + 1, o', h, hb, j, hj => by
    simp only [befF] at hj ⊢
    have hlen : (acc ++ [o.after.toList.foldl (fun m e => bif Region.binds .any e then Nat.lor m (Nat.lor (2 ^ e.on) ((acc[e.on]?).getD 0)) else m) 0]).length = acc.length + 1 := by simp
    have := befF_spec l _ i o' (by simpa using h) (by intro e he hb'; have := hb e he hb'; rw [hlen]; omega) j
    rw [hlen, show acc.length + 1 + i = acc.length + (i + 1) from by omega] at this
    exact this hj

theorem edgesBack_spec {ops : Array Oper} (h : edgesBack ops = true) {i : Nat} {o : Oper} (ho : ops[i]? = some o) : ∀ e ∈ o.after, Region.binds .any e = true → e.on < i := by
  have key : ∀ (l : List Oper) (k : Nat), ((enum k l).all fun p => p.2.after.toList.all fun e => !Region.binds .any e || Nat.blt e.on p.1) = true → ∀ j o, l[j]? = some o → ∀ e ∈ o.after, Region.binds .any e = true → e.on < k + j := by
    intro l
    induction l with
    | nil => intro k _ j o hj; cases hj
    | cons x l ih =>
      intro k h j o hj e he hb
      simp only [enum, List.all_cons, Bool.and_eq_true] at h
      cases j with
      | zero =>
        cases hj
        have := List.all_eq_true.1 h.1 e (by simpa using he)
        rw [hb] at this
        simp only [Bool.not_true, Bool.false_or, Nat.blt_eq] at this
        omega
      | succ j =>
        have := ih (k + 1) h.2 j o (by simpa using hj) e he hb
        omega
  intro e he hb
  have := key ops.toList 0 h i o (by simpa using ho) e he hb
  omega

theorem bef_spec {ops : Array Oper} (hb : edgesBack ops = true) {i : Nat} {o : Oper} (ho : ops[i]? = some o) {j : Nat} (h : anc (bef ops) i j = true) :
    ∃ e ∈ o.after, Region.binds .any e = true ∧ (e.on = j ∨ anc (bef ops) e.on j = true) := by
  unfold anc bef at *
  have := befF_spec ops.toList [] i o (by simpa using ho) (by intro e he hb'; have := edgesBack_spec hb ho e he hb'; simpa using this) j
  simp only [List.length_nil, Nat.zero_add] at this
  exact this h

theorem enum_get {α : Type} : ∀ (l : List α) (k i : Nat) (x : α), l[i]? = some x → (k + i, x) ∈ enum k l
  | [], _, _, _, h => by cases h
  | y :: l, k, 0, x, h => by cases h; simp [enum]
  | y :: l, k, i + 1, x, h => by
    have := enum_get l (k + 1) i x (by simpa using h)
    rw [show k + (i + 1) = k + 1 + i from by omega]
    simp [enum, this]

theorem enum_mem {α : Type} : ∀ (l : List α) (k : Nat) (p : Nat × α), p ∈ enum k l → ∃ i, p.1 = k + i ∧ l[i]? = some p.2
  | [], _, _, h => by cases h
  | y :: l, k, p, h => by
    simp only [enum, List.mem_cons] at h
    rcases h with rfl | h
    · exact ⟨0, rfl, rfl⟩
    · obtain ⟨i, h1, h2⟩ := enum_mem l (k + 1) p h
      exact ⟨i + 1, by omega, by simpa using h2⟩

/-! ### Orders -/

def addD (done : Nat → Bool) (i : Nat) : Nat → Bool := fun j => if j = i then true else done j

inductive Sched (ops : Array Oper) : (Nat → Bool) → List Nat → Prop
  | nil {done : Nat → Bool} (h : ∀ i, i < ops.size → done i = true) : Sched ops done []
  | cons {done : Nat → Bool} {i : Nat} {o : Oper} {rest : List Nat} (hi : done i = false) (ho : ops[i]? = some o) (he : ∀ e ∈ o.after, Region.binds .any e = true → done e.on = true) (h : Sched ops (addD done i) rest) : Sched ops done (i :: rest)

theorem addD_listed {listed : Array Bool} {i : Nat} (hi : i < listed.size) : (fun j => (listed.setIfInBounds i true).getD j false) = addD (fun j => listed.getD j false) i := by
  funext j
  unfold addD
  simp only [Array.getD_eq_getD_getElem?]
  by_cases e : j = i
  · subst e; rw [if_pos rfl, Array.getElem?_setIfInBounds_self_of_lt hi]; rfl
  · rw [if_neg e, Array.getElem?_setIfInBounds_ne (fun x => e x.symm)]

theorem all_listed {ops : Array Oper} (hb : edgesBack ops = true) {listed : Array Bool} (hs : listed.size = ops.size) (hr : Region.ready .any ops listed = []) : ∀ i, i < ops.size → listed.getD i false = true := by
  intro i
  induction i using Nat.strongRecOn with
  | _ i ih =>
    intro hi
    cases hl : listed.getD i false with
    | true => rfl
    | false =>
      exfalso
      have hmem : i ∈ Region.ready .any ops listed := by
        unfold Region.ready
        rw [List.mem_filter]
        refine ⟨List.mem_range.2 hi, ?_⟩
        have hl' : listed.getD i true = false := by
          simp only [Array.getD_eq_getD_getElem?] at hl ⊢
          rw [Array.getElem?_eq_getElem (by omega)] at hl ⊢
          exact hl
        rw [hl', Array.getElem?_eq_getElem hi]
        simp only [Bool.not_false, Bool.true_and, Option.map_some, Option.getD_some, Array.all_eq_true']
        intro e he
        cases hb' : Region.binds .any e with
        | false => rfl
        | true =>
          have hlt := edgesBack_spec hb (Array.getElem?_eq_getElem hi) e he hb'
          rw [ih e.on hlt (by omega)]
          rfl
      rw [hr] at hmem
      cases hmem

theorem sched_go {ops : Array Oper} (hb : edgesBack ops = true) : ∀ (fuel t : Nat) (listed : Array Bool), listed.size = ops.size → listed.toList.count false ≤ fuel →
    Sched ops (fun j => listed.getD j false) (Region.linearise.go .any ops fuel t listed [])
  | 0, t, listed, hs, hc => by
    refine .nil fun i hi => ?_
    simp only [Array.getD_eq_getD_getElem?]
    rw [Array.getElem?_eq_getElem (by omega)]
    cases hx : listed[i]'(by omega) with
    | true => rfl
    | false =>
      exfalso
      have : 0 < listed.toList.count false := List.count_pos_iff.2 (by rw [← hx]; simp)
      omega
  | fuel + 1, t, listed, hs, hc => by
    simp only [Region.linearise.go]
    change Sched ops _ (match (Region.ready .any ops listed)[t % (Region.ready .any ops listed).length]? with
      | some i => Region.linearise.go .any ops fuel (t / (Region.ready .any ops listed).length) (listed.setIfInBounds i true) [i]
      | none => [].reverse)
    cases hi : (Region.ready .any ops listed)[t % (Region.ready .any ops listed).length]? with
    | none =>
      have hnil : Region.ready .any ops listed = [] := by
        cases hr : Region.ready .any ops listed with
        | nil => rfl
        | cons x xs =>
          rw [hr] at hi
          have hlt : t % (x :: xs).length < (x :: xs).length := Nat.mod_lt _ (by simp)
          simp at hi
          simp at hlt
          omega
      exact .nil (all_listed hb hs hnil)
    | some i =>
      simp only []
      rw [linearise_go_acc, List.reverse_singleton, List.singleton_append]
      have hmem := List.mem_of_getElem? hi
      unfold Region.ready at hmem
      rw [List.mem_filter] at hmem
      obtain ⟨h1, h2⟩ := hmem
      have hlt : i < ops.size := List.mem_range.1 h1
      rw [Array.getElem?_eq_getElem hlt] at h2
      simp only [Option.map_some, Option.getD_some, Bool.and_eq_true, Bool.not_eq_true', Array.all_eq_true'] at h2
      obtain ⟨h2, h3⟩ := h2
      have hx : listed[i]'(by omega) = false := by
        simp only [Array.getD_eq_getD_getElem?] at h2
        rw [Array.getElem?_eq_getElem (by omega)] at h2
        exact h2
      refine .cons (o := ops[i]) ?_ (Array.getElem?_eq_getElem hlt) ?_ ?_
      · simp only [Array.getD_eq_getD_getElem?]
        rw [Array.getElem?_eq_getElem (by omega), hx]
        rfl
      · intro e he hbi
        have := h3 e he
        rw [hbi] at this
        exact this
      · rw [← addD_listed (by omega)]
        refine sched_go hb fuel _ _ (by simpa using hs) ?_
        rw [Array.toList_setIfInBounds, List.count_set (by simp; omega)]
        have hp : 0 < listed.toList.count false := List.count_pos_iff.2 (by rw [← hx]; simp)
        have hx' : listed.toList[i]'(by simp; omega) = false := by simpa using hx
        rw [hx']
        simp only [beq_self_eq_true, if_true, show (true == false) = false from rfl, Bool.false_eq_true, if_false]
        omega

theorem sched_any {ops : Array Oper} (hb : edgesBack ops = true) (t : Nat) : Sched ops (fun _ => false) (Region.linearise .any ops t) := by
  have := sched_go hb ops.size t (Array.replicate ops.size false) (by simp) (by simp)
  have e : (fun j => (Array.replicate ops.size false).getD j false) = fun _ => false := by
    funext j
    simp only [Array.getD_eq_getD_getElem?, Array.getElem?_replicate]
    split <;> rfl
  rw [e] at this
  exact this

end Go.Ab
