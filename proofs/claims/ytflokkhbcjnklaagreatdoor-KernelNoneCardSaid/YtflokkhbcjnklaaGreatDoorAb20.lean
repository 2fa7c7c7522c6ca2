/-
  Own library, part 20: regions that draw their order: whatever the order, the same comes of it.
-/
import Derived.Test.YtflokkhbcjnklaaGreatDoorAb19
namespace Go.Ab
open Go.Conc (G Goes)

theorem leaf_none (id : Nat) : (T.leaf : T AObj).get id = none := T.get_leaf id

theorem abirth_aloud {P : Program} {o : Oper} {ev : Operand → Option AV} {s : St} {v : AV} {x : AObj} (hb : isBirth o = true) (h : abirth P o ev s.next = some (v, x)) : aloud P o ev s = some (v, s.new x) := by
  unfold isBirth at hb
  unfold aloud
  split at hb <;> first | (rename_i heq; simp only [heq, h, Option.bind_some]; done) | (cases hb; done)

theorem go_length (md : Region.Mode) (ops : Array Oper) : ∀ (fuel t : Nat) (listed : Array Bool), (Region.linearise.go md ops fuel t listed []).length ≤ fuel
  | 0, t, listed => by simp [Region.linearise.go]
  | fuel + 1, t, listed => by
    simp only [Region.linearise.go]
    split
    · rw [linearise_go_acc, List.reverse_singleton, List.singleton_append, List.length_cons]
      have := go_length md ops fuel
      exact Nat.succ_le_succ (this _ _)
    · simp

section
variable {P : Program} {main : Bool} {R : World → World → Prop} {D : World → World → Array Event → Prop}

theorem OpSem.more {o : Oper} {evA : Operand → Option AV} {s s' : St} {v : AV} {N N' : Nat} (h : OpSem P main R D o evA s v s' N) (hn : N ≤ N') : OpSem P main R D o evA s v s' N' := by
  intro ρ w evC h1 h2 h3
  rcases h ρ w evC h1 h2 h3 with h | ⟨nx, a, b, c⟩
  · exact .inl h
  · exact .inr ⟨nx, a, b, fun kind caller cs Stop m hk hK => Goes.more' (c kind caller cs Stop m hk hK) (by omega)⟩

structure Inv (P : Program) (l : List TE) (sN : St) (b : List Nat) (nt : Nat) (t0 : T AV) (ρ₀ : Map) (s₀ : St) (H₀ : Array Obj) (done : Nat → Bool) (m : Nat) (ρ : Map) (K : St) (H : Array Obj) (tmps : Array Value) : Prop where
  step : Step P ρ₀ s₀ H₀ ρ K H
  next : K.next = sN.next
  pt : m = 0 ∨ ∃ (j : Nat) (e : TE), m = j + 1 ∧ l[j]? = some e ∧ e.kind = .loud
  louds : ∀ (j : Nat) (e : TE), l[j]? = some e → e.kind = .loud → (done j = true ↔ j < m)
  closed : ∀ i, done i = true → ∀ j, anc b i j = true → done j = true
  inside : ∀ i, done i = true → i < l.length
  sub : ∀ id o, (stA l sN m).get id = some o → K.get id = some o
  pend : ∀ (j : Nat) (e : TE) (x : AObj), m ≤ j → l[j]? = some e → e.kind = .birth x → done j = true → K.get e.s.next = some x
  clear : ∀ (j : Nat) (e : TE) (x : AObj), m ≤ j → l[j]? = some e → e.kind = .birth x → (stA l sN m).get e.s.next = none
  free : ∀ (j : Nat) (e : TE), l[j]? = some e → done j = false → Fresh ρ e.s.next e.s'.next
  size : tmps.size = nt
  tmp : ∀ t, (∃ (i : Nat) (e : TE), l[i]? = some e ∧ done i = true ∧ e.o.dst = some t ∧ (∀ (j : Nat) (e' : TE), l[j]? = some e' → done j = true → e'.o.dst = some t → j ≤ i) ∧ V ρ e.v (tmps.getD t undef)) ∨
    ((∀ (i : Nat) (e : TE), l[i]? = some e → done i = true → e.o.dst ≠ some t) ∧ V ρ ((t0.get t).getD undefA) (tmps.getD t undef))

section
variable {l : List TE} {sN s₀ : St} {b : List Nat} {nt : Nat} {t0 tN : T AV} {ρ₀ ρ : Map} {H₀ H : Array Obj} {done : Nat → Bool} {m : Nat} {K : St} {tmps : Array Value} {rec : Task → Option Res} {ops : Array Oper}

/-- A temporary whose writers that are done are just those ahead of a place. -/
theorem Inv.read (I : Inv P l sN b nt t0 ρ₀ s₀ H₀ done m ρ K H tmps) (T : TrOk P rec ops nt ops.toList l s₀ sN t0 tN) {q : Nat} (hq : q ≤ l.length) {t : Tmp} (h : ∀ (i : Nat) (e : TE), l[i]? = some e → e.o.dst = some t → (done i = true ↔ i < q)) :
    V ρ (((tsA l tN q).get t).getD undefA) (tmps.getD t undef) := by
  rcases T.ts_at t q hq with ⟨j, e, h1, h2, h3, h4, h5⟩ | ⟨h1, h2⟩
  · rcases I.tmp t with ⟨i, e', g1, g2, g3, g4, g5⟩ | ⟨g1, g2⟩
    · have a1 := g4 j e h2 ((h j e h2 h3).2 h1) h3
      have a2 := h4 i e' g1 ((h i e' g1 g3).1 g2) g3
      have : i = j := by omega
      subst this
      rw [h2] at g1; cases g1
      rw [h5]
      exact g5
    · exact absurd h3 (g1 j e h2 ((h j e h2 h3).2 h1))
  · rcases I.tmp t with ⟨i, e', g1, g2, g3, g4, g5⟩ | ⟨g1, g2⟩
    · exact absurd g3 (h1 i e' g1 ((h i e' g1 g3).1 g2))
    · rw [h2]; exact g2

/-- The writers of what an operation touches. -/
theorem Inv.touch (I : Inv P l sN (bef ops) nt t0 ρ₀ s₀ H₀ done m ρ K H tmps) (T : TrOk P rec ops nt ops.toList l s₀ sN t0 tN) (hok : drawOk ops (bef ops) = true) {q : Nat} {e : TE} (hq : l[q]? = some e) (hnd : done q = false) (hanc : ∀ j, anc (bef ops) q j = true → done j = true) {t : Tmp} (ht : t ∈ e.o.looksAt ops ∨ e.o.dst = some t) :
    ∀ (i : Nat) (e' : TE), l[i]? = some e' → e'.o.dst = some t → (done i = true ↔ i < q) := by
  intro i e' hi hd
  obtain ⟨hb, hp⟩ := drawOk_spec hok
  have oq : ops[q]? = some e.o := by simpa using T.op q e hq
  have oi : ops[i]? = some e'.o := by simpa using T.op i e' hi
  by_cases x : i = q
  · subst x; rw [hnd]; simp
  · rcases hp i q _ _ oi oq x with h | h | h
    · exact ⟨fun _ => anc_lt hb q i _ oq h, fun _ => hanc i h⟩
    · constructor
      · intro hdone
        have := I.closed i hdone q h
        rw [hnd] at this; cases this
      · intro hlt
        have := anc_lt hb i q _ oi h
        omega
    · obtain ⟨a1, a2, a3⟩ := Oper.apart_spec h
      rcases ht with ht | ht
      · exact absurd ht (a1 t hd)
      · exact absurd ht (a2 t hd)

/-- Up to the next loud one: births laid beside. -/
theorem Inv.merge (I : Inv P l sN b nt t0 ρ₀ s₀ H₀ done m ρ K H tmps) (T : TrOk P rec ops nt ops.toList l s₀ sN t0 tN) (C : Good P R D) (hrec : RecOk P main R D rec) : ∀ q, m ≤ q → q ≤ l.length → (∀ (j : Nat) (e : TE), l[j]? = some e → m ≤ j → j < q → e.kind ≠ .loud ∧ (∀ x, e.kind = .birth x → done j = true)) →
    (∀ id o, (stA l sN q).get id = some o → K.get id = some o) ∧ ∀ (j : Nat) (e : TE) (x : AObj), q ≤ j → l[j]? = some e → e.kind = .birth x → (stA l sN q).get e.s.next = none := by
  intro q hmq
  induction hmq with
  | refl => intro _ _; exact ⟨I.sub, I.clear⟩
  | step hmq ih =>
    rename_i q
    intro hq hall
    obtain ⟨ih1, ih2⟩ := ih (by omega) fun j e hj h1 h2 => hall j e hj h1 (by omega)
    have he : l[q]? = some (l[q]'(by omega)) := List.getElem?_eq_getElem (by omega)
    generalize l[q]'(by omega) = e at he
    obtain ⟨hnl, hbd⟩ := hall q e he hmq (by omega)
    rw [T.next q e he]
    rw [stA_of he] at ih1 ih2
    have hsame : e.s' = e.s → (∀ id o, e.s'.get id = some o → K.get id = some o) ∧ ∀ (j : Nat) (e1 : TE) (x : AObj), q + 1 ≤ j → l[j]? = some e1 → e1.kind = .birth x → e.s'.get e1.s.next = none := by
      intro hs
      rw [hs]
      exact ⟨ih1, fun j e1 x hj => ih2 j e1 x (by omega)⟩
    cases one_is (T.run1 q e he) with
    | skip _ _ _ hs => exact hsame hs
    | quiet _ _ _ hs => exact hsame hs
    | birth x hk _ _ _ hs =>
      refine ⟨fun id o h => ?_, fun j e1 x1 hj h1 hk1 => ?_⟩
      · rw [hs, St.get_new] at h
        by_cases e0 : id = e.s.next
        · rw [if_pos e0] at h; cases h
          rw [e0]
          exact I.pend q e x hmq he hk (hbd x hk)
        · rw [if_neg e0] at h; exact ih1 id o h
      · have hmono := T.mono C hrec (q + 1) j hj (by
          have := (List.getElem?_eq_some_iff.1 h1).1; omega)
        rw [T.next q e he, stA_of h1, hs] at hmono
        have hlt : e.s.next < e1.s.next := hmono
        rw [hs, St.get_new, if_neg (by omega)]
        exact ih2 j e1 x1 (by omega) h1 hk1
    | loud hk => exact absurd hk hnl

/-- The temporaries behind an operation. -/
theorem Inv.tmp_put (I : Inv P l sN (bef ops) nt t0 ρ₀ s₀ H₀ done m ρ K H tmps) (T : TrOk P rec ops nt ops.toList l s₀ sN t0 tN) (hok : drawOk ops (bef ops) = true) {q : Nat} {e : TE} (hq : l[q]? = some e) (hnd : done q = false) (hanc : ∀ j, anc (bef ops) q j = true → done j = true)
    {ρ' : Map} (hle : ρ.le ρ') {v' : Value} (hv : V ρ' e.v v') :
    ∀ t, (∃ (i : Nat) (e1 : TE), l[i]? = some e1 ∧ addD done q i = true ∧ e1.o.dst = some t ∧ (∀ (j : Nat) (e' : TE), l[j]? = some e' → addD done q j = true → e'.o.dst = some t → j ≤ i) ∧ V ρ' e1.v ((putC tmps e.o.dst v').getD t undef)) ∨
    ((∀ (i : Nat) (e1 : TE), l[i]? = some e1 → addD done q i = true → e1.o.dst ≠ some t) ∧ V ρ' ((t0.get t).getD undefA) ((putC tmps e.o.dst v').getD t undef)) := by
  intro t
  by_cases hd : e.o.dst = some t
  · have hw := I.touch T hok hq hnd hanc (.inr hd)
    have hlt := (T.put q e t hq hd).1
    refine .inl ⟨q, e, hq, by unfold addD; rw [if_pos rfl], hd, fun j e' hj hdj hdst => ?_, ?_⟩
    · unfold addD at hdj
      by_cases x : j = q
      · omega
      · rw [if_neg x] at hdj
        have := (hw j e' hj hdst).1 hdj
        omega
    · rw [hd]
      simp only [putC]
      rw [Array.getD_eq_getD_getElem?, Array.getElem?_setIfInBounds_self_of_lt (by rw [I.size]; exact hlt)]
      exact hv
  · have hsame : (putC tmps e.o.dst v').getD t undef = tmps.getD t undef := by
      cases hd' : e.o.dst with
      | none => rfl
      | some d =>
        simp only [putC]
        rw [Array.getD_eq_getD_getElem?, Array.getD_eq_getD_getElem?, Array.getElem?_setIfInBounds_ne]
        intro x
        subst x
        exact hd hd'
    rw [hsame]
    have hadd : ∀ j e', l[j]? = some e' → addD done q j = true → e'.o.dst = some t → done j = true := by
      intro j e' hj h1 h2
      unfold addD at h1
      by_cases x : j = q
      · subst x; rw [hq] at hj; cases hj; exact absurd h2 hd
      · rw [if_neg x] at h1; exact h1
    rcases I.tmp t with ⟨i, e', g1, g2, g3, g4, g5⟩ | ⟨g1, g2⟩
    · refine .inl ⟨i, e', g1, ?_, g3, fun j e1 h1 h2 h3 => g4 j e1 h1 (hadd j e1 h1 h2 h3) h3, g5.mono hle⟩
      unfold addD
      split
      · rfl
      · exact g2
    · exact .inr ⟨fun i e1 h1 h2 h3 => g1 i e1 h1 (hadd i e1 h1 h2 h3) h3, g2.mono hle⟩

theorem putC_size (tmps : Array Value) (dst : Option Tmp) (v : Value) : (putC tmps dst v).size = tmps.size := by
  cases dst <;> simp [putC]

/-- What an operation of some part of the heap makes of the whole. -/
theorem Inv.go (I : Inv P l sN (bef ops) nt t0 ρ₀ s₀ H₀ done m ρ K H tmps) (T : TrOk P rec ops nt ops.toList l s₀ sN t0 tN) (C : Good P R D) (hrec : RecOk P main R D rec) (hok : drawOk ops (bef ops) = true) {q : Nat} {e : TE} (hq : l[q]? = some e) (hnd : done q = false) (hanc : ∀ j, anc (bef ops) q j = true → done j = true)
    {s₁ s₂ : St} (hsub : ∀ id o, s₁.get id = some o → K.get id = some o) {ρ' : Map} {H' : Array Obj} (hT : Step P ρ s₁ H ρ' s₂ H') {v' : Value} (hv : V ρ' e.v v')
    (hn : s₁.next = s₂.next ∧ s₀.next ≤ s₁.next ∧ s₂.next ≤ sN.next ∨ s₁.next = e.s.next ∧ s₂.next = e.s'.next) {m' : Nat} (hm : m ≤ m')
    (hpt : m' = 0 ∨ ∃ (j : Nat) (e : TE), m' = j + 1 ∧ l[j]? = some e ∧ e.kind = .loud)
    (hlouds : ∀ (j : Nat) (e : TE), l[j]? = some e → e.kind = .loud → (addD done q j = true ↔ j < m'))
    (hsub' : ∀ K' : St, (∀ id o, s₂.get id = some o → K'.get id = some o) → (∀ id o, K.get id = some o → s₁.get id = none → K'.get id = some o ∧ s₂.get id = none) → ∀ id o, (stA l sN m').get id = some o → K'.get id = some o)
    (hpend : ∀ K' : St, (∀ id o, s₂.get id = some o → K'.get id = some o) → (∀ id o, K.get id = some o → s₁.get id = none → K'.get id = some o ∧ s₂.get id = none) → ∀ (j : Nat) (e : TE) (x : AObj), m' ≤ j → l[j]? = some e → e.kind = .birth x → addD done q j = true → K'.get e.s.next = some x)
    (hclear : (∀ id o, K.get id = some o → s₁.get id = none → s₂.get id = none) → ∀ (j : Nat) (e : TE) (x : AObj), m' ≤ j → l[j]? = some e → e.kind = .birth x → (stA l sN m').get e.s.next = none) :
    ∃ K', Inv P l sN (bef ops) nt t0 ρ₀ s₀ H₀ (addD done q) m' ρ' K' H' (putC tmps e.o.dst v') := by
  have hql : q < l.length := (List.getElem?_eq_some_iff.1 hq).1
  have m0 : s₀.next ≤ e.s.next := by
    have := T.mono C hrec 0 q (Nat.zero_le _) (by omega)
    rwa [T.first, stA_of hq] at this
  have mN : e.s'.next ≤ sN.next := by
    have := T.mono C hrec (q + 1) l.length (by omega) (Nat.le_refl _)
    rw [T.next q e hq] at this
    unfold stA at this
    simpa using this
  have h1 : s₀.next ≤ s₁.next := by rcases hn with ⟨_, h, _⟩ | ⟨h, _⟩ <;> omega
  have h2 : s₂.next ≤ K.next := by rw [I.next]; rcases hn with ⟨_, _, h⟩ | ⟨_, h⟩ <;> omega
  obtain ⟨K', e1, e2, e3, e4⟩ := I.step.ext hsub hT h1 h2
  refine ⟨K', e2, by rw [e1, I.next], hpt, hlouds, ?_, ?_, hsub' K' e3 e4, hpend K' e3 e4, hclear fun id o a b => (e4 id o a b).2, ?_, by rw [putC_size, I.size], I.tmp_put T hok hq hnd hanc hT.le hv⟩
  · intro i hi j hj
    unfold addD at hi ⊢
    by_cases x : j = q
    · rw [if_pos x]
    · rw [if_neg x]
      by_cases y : i = q
      · subst y; exact hanc j hj
      · rw [if_neg y] at hi; exact I.closed i hi j hj
  · intro i hi
    unfold addD at hi
    by_cases x : i = q
    · omega
    · rw [if_neg x] at hi; exact I.inside i hi
  · intro j ej hj hdj id ha hb
    unfold addD at hdj
    by_cases x : j = q
    · rw [if_pos x] at hdj; cases hdj
    · rw [if_neg x] at hdj
      have hf := I.free j ej hj hdj id ha hb
      rw [hT.old id ?_]
      · exact hf
      · rcases hn with ⟨h, _⟩ | ⟨ha1, hb1⟩
        · omega
        · have hjl : j < l.length := (List.getElem?_eq_some_iff.1 hj).1
          rcases Nat.lt_or_gt_of_ne x with x | x
          · have := T.mono C hrec (j + 1) q (by omega) (by omega)
            rw [T.next j ej hj, stA_of hq] at this
            omega
          · have := T.mono C hrec (q + 1) j (by omega) (by omega)
            rw [T.next q e hq, stA_of hj] at this
            omega

end

theorem sched_sound (C : Good P R D) {rec : Task → Option Res} (hrec : RecOk P main R D rec) {cx : Cx} {ops : Array Oper} (hok : drawOk ops (bef ops) = true) {l : List TE} {s₀ sN : St} {t0 tN : T AV} (T : TrOk P rec ops cx.nt ops.toList l s₀ sN t0 tN) (hall : traceOk P ops (bef ops) s₀ (enum 0 l) = true)
    {N : Nat} (hN : ∀ (i : Nat) (e : TE), l[i]? = some e → e.kind = .loud → OpSem P main R D e.o (evR P ops e.o e.ts) e.s e.v e.s' N)
    {ρ₀ : Map} {H₀ : Array Obj} {rd : Option Nat} {kind : CallKind} {defers : List Deferred} {k : List Item} {cs : List Frame} {Stop : Goroutine → World → Prop} {n : Nat}
    (hK : ∀ (ρ' : Map) (w' : World) (tmps' : Array Value), Step P ρ₀ s₀ H₀ ρ' sN w'.heap → TR ρ' tN cx.nt tmps' → Goes P main R D Stop n (G (mk cx.fn rd kind tmps' defers .run k) cs) w') :
    ∀ (order : List Nat) (done : Nat → Bool), Sched ops done order → ∀ (m : Nat) (ρ : Map) (K : St) (w : World) (tmps : Array Value), Inv P l sN (bef ops) cx.nt t0 ρ₀ s₀ H₀ done m ρ K w.heap tmps →
      Goes P main R D Stop (n + 1 + order.length * (N + 1)) (G (mk cx.fn rd kind tmps defers .run (.inRegion ops order :: k)) cs) w := by
  intro order
  induction order with
  | nil =>
    intro done hs m ρ K w tmps I
    cases hs
    rename_i hdone
    simp only [List.length_nil, Nat.zero_mul, Nat.add_zero]
    have hlen : l.length = ops.size := by simpa using T.len
    have hml : m ≤ l.length := by
      rcases I.pt with h | ⟨j, e, h1, h2, _⟩
      · omega
      · have := (List.getElem?_eq_some_iff.1 h2).1; omega
    obtain ⟨h1, _⟩ := I.merge T C hrec l.length hml (Nat.le_refl _) fun j e hj hm hl => by
      refine ⟨fun hk => ?_, fun _ _ => hdone j (by omega)⟩
      have := (I.louds j e hj hk).1 (hdone j (by omega))
      omega
    have hlast : stA l sN l.length = sN := by unfold stA; simp
    have hlastT : tsA l tN l.length = tN := by unfold tsA; simp
    rw [hlast] at h1
    have hStep := I.step.sub h1 I.next.symm
    refine C.idle rfl (fun w₁ => st_region_end) (hK ρ w tmps hStep ⟨I.size, fun t => ?_⟩)
    have := I.read T (Nat.le_refl _) (t := t) fun i e hi _ => by
      have := (List.getElem?_eq_some_iff.1 hi).1
      exact ⟨fun _ => this, fun _ => hdone i (by omega)⟩
    rwa [hlastT] at this
  | cons q order ih =>
    intro done hs m ρ K w tmps I
    cases hs with | cons hnd ho he hs => ?_
    rename_i o
    obtain ⟨hb, _⟩ := drawOk_spec hok
    have hlen : l.length = ops.size := by simpa using T.len
    have hql : q < l.length := by rw [hlen]; exact (Array.getElem?_eq_some_iff.1 ho).1
    have hq : l[q]? = some (l[q]'hql) := List.getElem?_eq_getElem hql
    generalize l[q]'hql = e at hq
    have heo : ops[q]? = some e.o := by simpa using T.op q e hq
    rw [ho] at heo
    cases heo
    have hanc : ∀ j, anc (bef ops) q j = true → done j = true := by
      intro j hj
      obtain ⟨ed, h1, h2, h3⟩ := bef_spec hb ho hj
      rcases h3 with h3 | h3
      · rw [← h3]; exact he ed h1 h2
      · exact I.closed _ (he ed h1 h2) j h3
    have hlook : ∀ d, d ∈ e.o.looksAt ops → V ρ ((e.ts.get d).getD undefA) (tmps.getD d undef) := by
      intro d hd
      have := I.read T (q := q) (by omega) (t := d) (I.touch T hok hq hnd hanc (.inl hd))
      rwa [tsA_of hq] at this
    have hwant := wanted_at hlook
    have ecount : n + 1 + (q :: order).length * (N + 1) = (n + 1 + order.length * (N + 1)) + N + 1 := by
      rw [List.length_cons, Nat.succ_mul]; omega
    rw [ecount]
    have hmq : ∀ (j : Nat) (e' : TE), l[j]? = some e' → e'.kind = .loud → e.kind ≠ .loud → (addD done q j = true ↔ j < m) := by
      intro j e' hj hk hne
      unfold addD
      have : j ≠ q := by intro x; subst x; rw [hq] at hj; cases hj; exact hne hk
      rw [if_neg this]
      exact I.louds j e' hj hk
    cases one_is (T.run1 q e hq) with
    | skip hk hw hv hsame =>
      refine Goes.more' (n := n + 1 + order.length * (N + 1) + 1) ?_ (by omega)
      refine region_skip C ho (by rw [hwant]; exact hw) ?_
      obtain ⟨K', I'⟩ := I.go T C hrec hok hq hnd hanc (s₁ := { heap := .leaf, next := e.s.next }) (s₂ := { heap := .leaf, next := e.s'.next }) (fun id o h => by cases (leaf_none id).symm.trans h) (ρ' := ρ) (H' := w.heap) (v' := undef) (m' := m)
        (by rw [hsame]; exact Step.refl (I.step.rel.sub fun id o h => by cases (leaf_none id).symm.trans h)) (by rw [hv]; exact .tuple .nil) (.inr ⟨rfl, rfl⟩) (Nat.le_refl _) I.pt (fun j e' hj hk' => hmq j e' hj hk' (by rw [hk]; intro x; cases x))
        (fun K' h1 h2 id o h => (h2 id o (I.sub id o h) (leaf_none id)).1)
        (fun K' h1 h2 j e' x hj hl hk' hd => (h2 _ _ (I.pend j e' x hj hl hk' (by
          unfold addD at hd
          have : j ≠ q := by intro y; subst y; rw [hq] at hl; cases hl; rw [hk] at hk'; cases hk'
          rwa [if_neg this] at hd)) (leaf_none _)).1)
        (fun _ => I.clear)
      exact ih _ hs m ρ K' w _ I'
    | quiet hk hw hqq hsame =>
      have hqv := traceOk_quiet hall T.first T.next hq hk I.pt fun j e' hj hk' => by
        constructor
        · intro hmj
          cases hx : anc (bef ops) q j with
          | false => rfl
          | true =>
            have := (I.louds j e' hj hk').1 (hanc j hx)
            omega
        · intro hjm
          cases hx : anc (bef ops) j q with
          | false => rfl
          | true =>
            have := I.closed j ((I.louds j e' hj hk').2 hjm) q hx
            rw [hnd] at this; cases this
      have hml : m ≤ l.length := by
        rcases I.pt with h | ⟨j, e, h1, h2, _⟩
        · omega
        · have := (List.getElem?_eq_some_iff.1 h2).1; omega
      have hRm : Rel P ρ (stA l sN m) w.heap := I.step.rel.sub I.sub
      have hop : OpSem P main R D e.o (evR P ops e.o e.ts) (stA l sN m) e.v (stA l sN m) 0 := by
        intro ρ1 w1 evC hR1 _ hev
        obtain ⟨v', h1, h2⟩ := quiet_sound hR1 hev hqv
        exact .inl ⟨ρ1, _, w1, h1, ⟨v', .inl rfl, h2⟩, Step.refl hR1, Aside.refl w1⟩
      have hnodef : ∀ c, e.o.op ≠ .defer c := by
        intro c hc
        unfold isQuiet at hqq
        rw [hc] at hqq
        cases hqq
      have hstep := region_op C (hop.more (Nat.zero_le N)) (rest := order) (k := k) (cs := cs) (Stop := Stop) (m := n + 1 + order.length * (N + 1)) (rd := rd) (kind := kind) (cx := cx) ho hnodef hRm (fun id h1 h2 => by omega) (evR_at hRm hlook defers) (by rw [hwant]; exact hw)
      refine hstep fun ρ' w' v' hS hv => ?_
      obtain ⟨K', I'⟩ := I.go T C hrec hok hq hnd hanc I.sub hS hv (.inl ⟨rfl, by
          have := T.mono C hrec 0 m (Nat.zero_le _) hml
          rwa [T.first] at this, by
          have := T.mono C hrec m l.length hml (Nat.le_refl _)
          have hlast : stA l sN l.length = sN := by unfold stA; simp
          rwa [hlast] at this⟩) (Nat.le_refl m) I.pt (fun j e' hj hk' => hmq j e' hj hk' (by rw [hk]; intro x; cases x))
        (fun K' h1 _ => h1)
        (fun K' h1 h2 j e' x hj hl hk' hd => (h2 _ _ (I.pend j e' x hj hl hk' (by
          unfold addD at hd
          have : j ≠ q := by intro y; subst y; rw [hq] at hl; cases hl; rw [hk] at hk'; cases hk'
          rwa [if_neg this] at hd)) (I.clear j e' x hj hl hk')).1)
        (fun _ => I.clear)
      exact ih _ hs m ρ' K' w' _ I'
    | birth x hk hw hbb hx hnew =>
      have hRe : Rel P ρ { heap := .leaf, next := e.s.next } w.heap := I.step.rel.sub fun id o h => by cases (leaf_none id).symm.trans h
      have hfr := I.free q e hq hnd
      have hop : OpSem P main R D e.o (evR P ops e.o e.ts) { heap := .leaf, next := e.s.next } e.v (St.new { heap := .leaf, next := e.s.next } x) 0 := by
        intro ρ1 w1 evC hR1 hF hev
        exact .inl (loud_sound hR1 hev (abirth_aloud hbb hx) hF)
      have hnodef : ∀ c, e.o.op ≠ .defer c := by
        intro c hc
        unfold isBirth at hbb
        rw [hc] at hbb
        cases hbb
      have hnext : (St.new { heap := .leaf, next := e.s.next } x).next = e.s'.next := by rw [hnew]; rfl
      have hstep := region_op C (hop.more (Nat.zero_le N)) (rest := order) (k := k) (cs := cs) (Stop := Stop) (m := n + 1 + order.length * (N + 1)) (rd := rd) (kind := kind) (cx := cx) ho hnodef hRe (by rw [hnext]; exact hfr) (evR_at hRe hlook defers) (by rw [hwant]; exact hw)
      refine hstep fun ρ' w' v' hS hv => ?_
      obtain ⟨K', I'⟩ := I.go T C hrec hok hq hnd hanc (fun id o h => by cases (leaf_none id).symm.trans h) hS hv (.inr ⟨rfl, hnext⟩) (Nat.le_refl m) I.pt (fun j e' hj hk' => hmq j e' hj hk' (by rw [hk]; intro x; cases x))
        (fun K' h1 h2 id o h => (h2 id o (I.sub id o h) (leaf_none id)).1)
        (fun K' h1 h2 j e' x' hj hl hk' hd => by
          by_cases y : j = q
          · subst y
            rw [hq] at hl; cases hl
            rw [hk] at hk'; cases hk'
            refine h1 _ _ ?_
            rw [St.get_new, if_pos rfl]
          · unfold addD at hd
            rw [if_neg y] at hd
            exact (h2 _ _ (I.pend j e' x' hj hl hk' hd) (leaf_none _)).1)
        (fun _ => I.clear)
      exact ih _ hs m ρ' K' w' _ I'
    | loud hk hw hx =>
      have hmle : m ≤ q := by
        by_cases h : m ≤ q
        · exact h
        · have := (I.louds q e hq hk).2 (by omega)
          rw [hnd] at this; cases this
      have hprev : ∀ (j : Nat) (e' : TE), l[j]? = some e' → j < q → (e'.kind.isLoud = true ∨ e'.kind.isBirth = true) → done j = true := fun j e' hj hlt hkk => hanc j (traceOk_loud hall hq hk hj hlt hkk)
      obtain ⟨hsubq, hclearq⟩ := I.merge T C hrec q hmle (by omega) fun j e' hj h1 h2 => by
        refine ⟨fun hkl => ?_, fun x hkb => hprev j e' hj h2 (.inr (by rw [hkb]; rfl))⟩
        have := (I.louds j e' hj hkl).1 (hprev j e' hj h2 (.inl (by rw [hkl]; rfl)))
        omega
      rw [stA_of hq] at hsubq hclearq
      have hRq : Rel P ρ e.s w.heap := I.step.rel.sub hsubq
      have hfr := I.free q e hq hnd
      have hnodef : ∀ c, e.o.op ≠ .defer c := by
        intro c hc
        unfold stepOp isQuiet aloud at hx
        rw [hc] at hx
        cases hx
      refine region_op C (hN q e hq hk) (rest := order) ho hnodef hRq hfr (evR_at hRq hlook defers) (by rw [hwant]; exact hw) fun ρ' w' v' hS hv => ?_
      have hpq : ∀ (j : Nat) (e' : TE), l[j]? = some e' → e'.kind = .loud → (addD done q j = true ↔ j < q + 1) := by
        intro j e' hj hkl
        unfold addD
        by_cases y : j = q
        · subst y; rw [if_pos rfl]; simp
        · rw [if_neg y]
          constructor
          · intro hd
            have := (I.louds j e' hj hkl).1 hd
            omega
          · intro hlt
            exact hprev j e' hj (by omega) (.inl (by rw [hkl]; rfl))
      have hst : stA l sN (q + 1) = e.s' := T.next q e hq
      have hdq : ∀ (j : Nat), q + 1 ≤ j → addD done q j = true → done j = true := by
        intro j hj hd
        unfold addD at hd
        rwa [if_neg (by omega)] at hd
      obtain ⟨K', I'⟩ := I.go T C hrec hok hq hnd hanc hsubq hS hv (.inr ⟨rfl, rfl⟩) (m' := q + 1) (by omega) (.inr ⟨q, e, rfl, hq, hk⟩) hpq
        (fun K' h1 _ => by rw [hst]; exact h1)
        (fun K' h1 h2 j e' x hj hl hk' hd => (h2 _ _ (I.pend j e' x (by omega) hl hk' (hdq j hj hd)) (hclearq j e' x (by omega) hl hk')).1)
        (fun h2 j e' x hj hl hk' => by
          rw [hst]
          cases hd : done j with
          | true => exact h2 _ _ (I.pend j e' x (by omega) hl hk' hd) (hclearq j e' x (by omega) hl hk')
          | false =>
            have hjl : j < l.length := (List.getElem?_eq_some_iff.1 hl).1
            have hge := T.mono C hrec (q + 1) j hj (by omega)
            rw [hst, stA_of hl] at hge
            have hlt : e'.s.next < e'.s'.next := by
              cases one_is (T.run1 j e' hl) with
              | birth x' _ _ _ _ hs' => rw [hs']; exact Nat.lt_succ_self _
              | skip hk2 => rw [hk2] at hk'; cases hk'
              | quiet hk2 => rw [hk2] at hk'; cases hk'
              | loud hk2 => rw [hk2] at hk'; cases hk'
            have hnone := I.free j e' hl hd e'.s.next (Nat.le_refl _) hlt
            cases hg : e.s'.get e'.s.next with
            | none => rfl
            | some o =>
              obtain ⟨p, hp, _⟩ := hS.rel.obj _ _ hg
              rw [hS.old _ (.inr hge), hnone] at hp
              cases hp)
      exact ih _ hs (q + 1) ρ' K' w' _ I'

end
end Go.Ab
