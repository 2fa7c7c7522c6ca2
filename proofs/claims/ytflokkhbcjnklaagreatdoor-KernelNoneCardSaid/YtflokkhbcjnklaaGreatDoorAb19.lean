/-
  Own library, part 19: what a trace says.
-/
import Derived.Test.YtflokkhbcjnklaaGreatDoorAb18
namespace Go.Ab
open Go.Conc (G Goes)

def stA (l : List TE) (sN : St) (i : Nat) : St := match l[i]? with | some e => e.s | none => sN
def tsA (l : List TE) (tN : T AV) (i : Nat) : T AV := match l[i]? with | some e => e.ts | none => tN

theorem stA_of {l : List TE} {sN : St} {i : Nat} {e : TE} (h : l[i]? = some e) : stA l sN i = e.s := by unfold stA; rw [h]
theorem tsA_of {l : List TE} {tN : T AV} {i : Nat} {e : TE} (h : l[i]? = some e) : tsA l tN i = e.ts := by unfold tsA; rw [h]

section
variable {P : Program} {main : Bool} {R : World → World → Prop} {D : World → World → Array Event → Prop}

structure TrOk (P : Program) (rec : Task → Option Res) (ops : Array Oper) (nt : Nat) (rest : List Oper) (l : List TE) (s sN : St) (t0 tN : T AV) : Prop where
  len : l.length = rest.length
  first : stA l sN 0 = s
  firstT : tsA l tN 0 = t0
  op : ∀ (i : Nat) (e : TE), l[i]? = some e → rest[i]? = some e.o
  run1 : ∀ (i : Nat) (e : TE), l[i]? = some e → one P rec ops e.o e.ts e.s = some e
  next : ∀ (i : Nat) (e : TE), l[i]? = some e → stA l sN (i + 1) = e.s'
  skip : ∀ (i : Nat) (e : TE), l[i]? = some e → e.o.dst = none → tsA l tN (i + 1) = e.ts
  put : ∀ (i : Nat) (e : TE) (d : Tmp), l[i]? = some e → e.o.dst = some d → d < nt ∧ tsA l tN (i + 1) = e.ts.put d (some e.v)

theorem trace_ok {rec : Task → Option Res} {cx : Cx} {ops : Array Oper} : ∀ (rest : List Oper) (fr : Fr) (s : St) (l : List TE) (fr' : Fr) (s' : St), trace P rec cx ops rest fr s = some (l, fr', s') →
    fr'.ds = fr.ds ∧ TrOk P rec ops cx.nt rest l s s' fr.ts fr'.ts
  | [], fr, s, l, fr', s', h => by
    cases h
    refine ⟨rfl, rfl, rfl, rfl, ?_, ?_, ?_, ?_, ?_⟩
    · intro i e h; cases h
    · intro i e h; cases h
    · intro i e h; cases h
    · intro i e h; cases h
    · intro i e d h; cases h
  | o :: rest, fr, s, l, fr', s', h => by
    unfold trace at h
    obtain ⟨e, he, h1⟩ := bind_some h
    obtain ⟨fr1, hp, h2⟩ := bind_some h1
    obtain ⟨r, hr, h3⟩ := bind_some h2
    obtain ⟨l', fr2, s2⟩ := r
    cases h3
    obtain ⟨hds, ih⟩ := trace_ok rest fr1 e.s' l' _ _ hr
    have hfield : e.o = o ∧ e.ts = fr.ts ∧ e.s = s := by
      unfold Go.Ab.one at he
      cases hw : wantedA ops fr.ts o with
      | false => rw [hw] at he; cases he; exact ⟨rfl, rfl, rfl⟩
      | true =>
        rw [hw] at he
        simp only [cond_true] at he
        cases hq : isQuiet o with
        | true => rw [hq] at he; obtain ⟨_, _, h1⟩ := bind_some he; cases h1; exact ⟨rfl, rfl, rfl⟩
        | false =>
          rw [hq] at he
          simp only [cond_false] at he
          cases hb : isBirth o with
          | true => rw [hb] at he; obtain ⟨_, _, h1⟩ := bind_some he; cases h1; exact ⟨rfl, rfl, rfl⟩
          | false => rw [hb] at he; obtain ⟨_, _, h1⟩ := bind_some he; cases h1; exact ⟨rfl, rfl, rfl⟩
    obtain ⟨ho, ht, hs⟩ := hfield
    have hput : fr1.ds = fr.ds ∧ (o.dst = none → fr1.ts = fr.ts) ∧ (∀ d, o.dst = some d → d < cx.nt ∧ fr1.ts = fr.ts.put d (some e.v)) := by
      unfold Fr.put at hp
      cases hd : o.dst with
      | none => rw [hd] at hp; cases hp; exact ⟨rfl, fun _ => rfl, fun d h => by cases h⟩
      | some d =>
        rw [hd] at hp
        obtain ⟨h1, h2⟩ := bif_some hp
        cases h2
        exact ⟨rfl, (fun h => by cases h), fun d' h => by cases h; exact ⟨by rw [Nat.blt_eq] at h1; exact h1, rfl⟩⟩
    have hst : stA (e :: l') s' 1 = e.s' := by
      have := ih.first
      unfold stA at this ⊢
      simpa using this
    have hts : tsA (e :: l') fr'.ts 1 = fr1.ts := by
      have := ih.firstT
      unfold tsA at this ⊢
      simpa using this
    refine ⟨by rw [hds, hput.1], by simp [ih.len], hs, ht, ?_, ?_, ?_, ?_, ?_⟩
    · intro i e' h
      cases i with
      | zero => cases h; rw [ho]; rfl
      | succ i => exact ih.op i e' (by simpa using h)
    · intro i e' h
      cases i with
      | zero => cases h; rw [ho, ht, hs]; exact he
      | succ i => exact ih.run1 i e' (by simpa using h)
    · intro i e' h
      cases i with
      | zero => cases h; exact hst
      | succ i => have := ih.next i e' (by simpa using h); unfold stA at this ⊢; simpa using this
    · intro i e' h hd
      cases i with
      | zero => cases h; rw [hts, ht]; exact hput.2.1 (by rw [← ho]; exact hd)
      | succ i => have := ih.skip i e' (by simpa using h) hd; unfold tsA at this ⊢; simpa using this
    · intro i e' d h hd
      cases i with
      | zero => cases h; rw [hts, ht]; exact hput.2.2 d (by rw [← ho]; exact hd)
      | succ i => have := ih.put i e' d (by simpa using h) hd; unfold tsA at this ⊢; simpa using this

/-- What one entry says. -/
inductive OneIs (P : Program) (rec : Task → Option Res) (ops : Array Oper) (e : TE) : Prop
  | skip (hk : e.kind = .skip) (hw : wantedA ops e.ts e.o = false) (hv : e.v = undefA) (hs : e.s' = e.s)
  | quiet (hk : e.kind = .quiet) (hw : wantedA ops e.ts e.o = true) (hq : isQuiet e.o = true) (hs : e.s' = e.s)
  | birth (x : AObj) (hk : e.kind = .birth x) (hw : wantedA ops e.ts e.o = true) (hb : isBirth e.o = true) (hx : abirth P e.o (evR P ops e.o e.ts) e.s.next = some (e.v, x)) (hs : e.s' = e.s.new x)
  | loud (hk : e.kind = .loud) (hw : wantedA ops e.ts e.o = true) (hx : stepOp P rec e.o (evR P ops e.o e.ts) e.s = some (e.v, e.s'))

theorem one_is {rec : Task → Option Res} {ops : Array Oper} {e : TE} (h : one P rec ops e.o e.ts e.s = some e) : OneIs P rec ops e := by
  unfold one at h
  cases hw : wantedA ops e.ts e.o with
  | false =>
    rw [hw] at h
    simp only [cond_false, Option.some.injEq] at h
    exact .skip (by rw [← h]) hw (by rw [← h]) (by rw [← h])
  | true =>
    rw [hw] at h
    simp only [cond_true] at h
    cases hq : isQuiet e.o with
    | true =>
      rw [hq] at h
      obtain ⟨v, _, h1⟩ := bind_some h
      simp only [Option.some.injEq] at h1
      exact .quiet (by rw [← h1]) hw hq (by rw [← h1])
    | false =>
      rw [hq] at h
      simp only [cond_false] at h
      cases hb : isBirth e.o with
      | true =>
        rw [hb] at h
        obtain ⟨r, hr, h1⟩ := bind_some h
        simp only [Option.some.injEq] at h1
        have e1 : e.v = r.1 := by rw [← h1]
        exact .birth r.2 (by rw [← h1]) hw hb (by rw [hr, e1]) (by rw [← h1])
      | false =>
        rw [hb] at h
        obtain ⟨r, hr, h1⟩ := bind_some h
        simp only [Option.some.injEq] at h1
        have e1 : e.v = r.1 := by rw [← h1]
        have e2 : e.s' = r.2 := by rw [← h1]
        exact .loud (by rw [← h1]) hw (by rw [hr, e1, e2])

theorem OneIs.le (C : Good P R D) {rec : Task → Option Res} (hrec : RecOk P main R D rec) {ops : Array Oper} {e : TE} (h : OneIs P rec ops e) : e.s.next ≤ e.s'.next := by
  cases h with
  | skip _ _ _ hs => rw [hs]; exact Nat.le_refl _
  | quiet _ _ _ hs => rw [hs]; exact Nat.le_refl _
  | birth x _ _ _ _ hs => rw [hs]; exact Nat.le_succ _
  | loud _ _ hx => exact (stepOp_sound C hrec hx).1

theorem TrOk.mono (C : Good P R D) {rec : Task → Option Res} (hrec : RecOk P main R D rec) {ops : Array Oper} {nt : Nat} {rest : List Oper} {l : List TE} {s sN : St} {t0 tN : T AV} (h : TrOk P rec ops nt rest l s sN t0 tN) :
    ∀ i j, i ≤ j → j ≤ l.length → (stA l sN i).next ≤ (stA l sN j).next := by
  intro i j hij
  induction hij with
  | refl => intro _; exact Nat.le_refl _
  | step hij ih =>
    rename_i j
    intro hj
    refine Nat.le_trans (ih (by omega)) ?_
    have he : l[j]? = some (l[j]'(by omega)) := List.getElem?_eq_getElem (by omega)
    rw [h.next j _ he, stA_of he]
    exact (one_is (h.run1 j _ he)).le C hrec

/-- The temporaries at a place: what the last one ahead of it put there. -/
theorem TrOk.ts_at {rec : Task → Option Res} {ops : Array Oper} {nt : Nat} {rest : List Oper} {l : List TE} {s sN : St} {t0 tN : T AV} (h : TrOk P rec ops nt rest l s sN t0 tN) (t : Nat) :
    ∀ i, i ≤ l.length → (∃ j e, j < i ∧ l[j]? = some e ∧ e.o.dst = some t ∧ (∀ j' e', l[j']? = some e' → j' < i → e'.o.dst = some t → j' ≤ j) ∧ (tsA l tN i).get t = some e.v) ∨
      ((∀ j e, l[j]? = some e → j < i → e.o.dst ≠ some t) ∧ (tsA l tN i).get t = t0.get t) := by
  intro i
  induction i with
  | zero => intro _; exact .inr ⟨fun j e _ h => by omega, by rw [h.firstT]⟩
  | succ i ih =>
    intro hi
    have he : l[i]? = some (l[i]'(by omega)) := List.getElem?_eq_getElem (by omega)
    generalize l[i]'(by omega) = e at he
    have ih := ih (by omega)
    rw [tsA_of he] at ih
    by_cases hd : e.o.dst = some t
    · refine .inl ⟨i, e, by omega, he, hd, fun j' e' _ h _ => by omega, ?_⟩
      rw [(h.put i e t he hd).2, T.get_put_same]
    · have hsame : (tsA l tN (i + 1)).get t = e.ts.get t := by
        cases hd' : e.o.dst with
        | none => rw [h.skip i e he hd']
        | some d =>
          rw [(h.put i e d he hd').2, T.get_put_ne]
          intro x
          subst x
          exact hd hd'
      rw [hsame]
      rcases ih with ⟨j, e1, h1, h2, h3, h4, h5⟩ | ⟨h1, h2⟩
      · refine .inl ⟨j, e1, by omega, h2, h3, fun j' e' hj' hlt hdst => ?_, h5⟩
        by_cases x : j' = i
        · subst x; rw [he] at hj'; cases hj'; exact absurd hdst hd
        · exact h4 j' e' hj' (by omega) hdst
      · refine .inr ⟨fun j' e' hj' hlt hdst => ?_, h2⟩
        by_cases x : j' = i
        · subst x; rw [he] at hj'; cases hj'; exact hd hdst
        · exact h1 j' e' hj' (by omega) hdst

/-! ### What was looked at -/

theorem drawOk_spec {ops : Array Oper} {b : List Nat} (h : drawOk ops b = true) : edgesBack ops = true ∧ ∀ (i j : Nat) (x y : Oper), ops[i]? = some x → ops[j]? = some y → i ≠ j → anc b j i = true ∨ anc b i j = true ∨ x.apart ops y = true := by
  unfold drawOk at h
  simp only [Bool.and_eq_true] at h
  refine ⟨h.1, fun i j x y hi hj hne => ?_⟩
  have h1 := List.all_eq_true.1 h.2 (i, x) (by simpa using enum_get ops.toList 0 i x (by simpa using hi))
  have h2 := List.all_eq_true.1 h1 (j, y) (by simpa using enum_get ops.toList 0 j y (by simpa using hj))
  unfold pairOk at h2
  simp only [beqF hne, Bool.false_or, Bool.or_eq_true] at h2
  rcases h2 with (h2 | h2) | h2
  · exact .inl h2
  · exact .inr (.inl h2)
  · exact .inr (.inr h2)

theorem anc_lt {ops : Array Oper} (hb : edgesBack ops = true) : ∀ (i j : Nat) (o : Oper), ops[i]? = some o → anc (bef ops) i j = true → j < i := by
  intro i
  induction i using Nat.strongRecOn with
  | _ i ih =>
    intro j o ho h
    obtain ⟨e, he, hbe, h1⟩ := bef_spec hb ho h
    have hlt := edgesBack_spec hb ho e he hbe
    rcases h1 with h1 | h1
    · omega
    · have hsz : i < ops.size := by
        have := Array.getElem?_eq_some_iff.1 ho
        exact this.1
      have := ih e.on hlt j _ (Array.getElem?_eq_getElem (by omega)) h1
      omega

theorem traceOk_loud {ops : Array Oper} {b : List Nat} {s₀ : St} {l : List TE} (h : traceOk P ops b s₀ (enum 0 l) = true) {i j : Nat} {e e' : TE} (hi : l[i]? = some e) (hk : e.kind = .loud) (hj : l[j]? = some e') (hlt : j < i) (hk' : e'.kind.isLoud = true ∨ e'.kind.isBirth = true) : anc b i j = true := by
  unfold traceOk at h
  have h1 := List.all_eq_true.1 h (i, e) (by simpa using enum_get l 0 i e hi)
  simp only [hk] at h1
  have h2 := List.all_eq_true.1 h1 (j, e') (by simpa using enum_get l 0 j e' hj)
  simp only [Bool.or_eq_true, Nat.ble_eq] at h2
  rcases h2 with (h2 | h2) | h2
  · omega
  · rcases hk' with hk' | hk' <;> simp [hk'] at h2
  · exact h2

theorem traceOk_quiet {ops : Array Oper} {b : List Nat} {s₀ sN : St} {l : List TE} (h : traceOk P ops b s₀ (enum 0 l) = true) (hfirst : stA l sN 0 = s₀) (hnext : ∀ i e, l[i]? = some e → stA l sN (i + 1) = e.s') {i : Nat} {e : TE} (hi : l[i]? = some e) (hk : e.kind = .quiet) {m : Nat}
    (hm : m = 0 ∨ ∃ j e', m = j + 1 ∧ l[j]? = some e' ∧ e'.kind = .loud) (hno : ∀ j e', l[j]? = some e' → e'.kind = .loud → (m ≤ j → anc b i j = false) ∧ (j < m → anc b j i = false)) : aquiet P e.o (evR P ops e.o e.ts) (stA l sN m) = some e.v := by
  unfold traceOk at h
  have h1 := List.all_eq_true.1 h (i, e) (by simpa using enum_get l 0 i e hi)
  simp only [hk] at h1
  have hpt : (m, stA l sN m) ∈ ((0, s₀) :: ((enum 0 l).filter fun p => p.2.kind.isLoud).map fun p => (p.1 + 1, p.2.s')) := by
    rcases hm with rfl | ⟨j, e', rfl, hj, hk'⟩
    · rw [hfirst]; simp
    · rw [hnext j e' hj]
      refine List.mem_cons_of_mem _ (List.mem_map.2 ⟨(j, e'), List.mem_filter.2 ⟨by simpa using enum_get l 0 j e' hj, by rw [hk']; rfl⟩, rfl⟩)
  have h2 := List.all_eq_true.1 h1 _ hpt
  rw [Bool.or_eq_true] at h2
  rcases h2 with h2 | h2
  · exfalso
    obtain ⟨p, hp, h3⟩ := List.any_eq_true.1 h2
    obtain ⟨hp1, hp2⟩ := List.mem_filter.1 hp
    obtain ⟨j, hj1, hj2⟩ := enum_mem l 0 p hp1
    have hkl : p.2.kind = .loud := by
      cases hkk : p.2.kind <;> rw [hkk] at hp2 <;> first | rfl | cases hp2
    have := hno j p.2 hj2 hkl
    have hpj : p.1 = j := by omega
    rw [hpj] at h3
    simp only [Bool.or_eq_true, Bool.and_eq_true, Nat.ble_eq, Nat.blt_eq] at h3
    rcases h3 with ⟨h3, h4⟩ | ⟨h3, h4⟩
    · rw [this.1 h3] at h4; cases h4
    · rw [this.2 h3] at h4; cases h4
  · split at h2
    · rename_i v hv
      rw [hv, AV.same_eq _ _ h2]
    · cases h2

theorem yielded_at {ρ : Map} {ts : T AV} {tmps : Array Value} {ops : Array Oper} {j : Nat} (h : ∀ d, (ops[j]?).bind (·.dst) = some d → V ρ ((ts.get d).getD undefA) (tmps.getD d undef)) : yielded ops tmps j = yieldedA ops ts j := by
  unfold yielded yieldedA
  cases hd : (ops[j]?).bind (·.dst) with
  | none => simp
  | some d =>
    simp only [Option.bind_some]
    have hv := h d hd
    rw [Array.getD_eq_getD_getElem?] at hv
    cases ht : ts.get d with
    | none =>
      rw [ht] at hv
      simp only [Option.getD_none] at hv
      cases he : tmps[d]? with
      | none => rfl
      | some y =>
        rw [he] at hv
        simp only [Option.getD_some] at hv
        cases hv
        rfl
    | some x =>
      rw [ht] at hv
      simp only [Option.getD_some] at hv
      cases he : tmps[d]? with
      | none =>
        rw [he] at hv
        simp only [Option.getD_none] at hv
        have hu : (undef : Value) = .tuple #[] := rfl
        rw [hu] at hv
        cases hv
        rfl
      | some y =>
        rw [he] at hv
        simp only [Option.getD_some] at hv
        cases hv <;> rfl

theorem wanted_at {ρ : Map} {ts : T AV} {tmps : Array Value} {ops : Array Oper} {o : Oper} (h : ∀ d, d ∈ o.looksAt ops → V ρ ((ts.get d).getD undefA) (tmps.getD d undef)) : Region.wanted o (yielded ops tmps) = wantedA ops ts o := by
  unfold Region.wanted wantedA
  cases hg : o.guard with
  | none => rfl
  | some p =>
    obtain ⟨j, want⟩ := p
    have : yielded ops tmps j = yieldedA ops ts j := yielded_at fun d hd => h d (by unfold Oper.looksAt; rw [hg]; simp [hd])
    simp only [this]
    cases yieldedA ops ts j with
    | none => cases want <;> rfl
    | some b => cases b <;> cases want <;> rfl

theorem evR_at {ρ : Map} {s : St} {H : Array Obj} (hR : Rel P ρ s H) {ts : T AV} {tmps : Array Value} {ops : Array Oper} {o : Oper} (h : ∀ d, d ∈ o.looksAt ops → V ρ ((ts.get d).getD undefA) (tmps.getD d undef)) (defers : List Deferred) :
    ∀ x v, evR P ops o ts x = some v → V ρ v (({ tmps, defers } : Act).eval x) := by
  intro x v hx
  cases x with
  | tmp t =>
    simp only [evR] at hx
    obtain ⟨h1, h2⟩ := bif_some hx
    simp only [evalA, Option.some.injEq] at h2
    subst h2
    obtain ⟨d, hd, he⟩ := List.any_eq_true.1 h1
    have := Nat.eq_of_beq_eq_true he
    subst this
    have := h t hd
    simp only [Act.eval]
    rw [Array.getD_eq_getD_getElem?] at this
    simpa using this
  | const c => exact ofValue_V ρ hx
  | global g =>
    simp only [evR, evalA] at hx
    obtain ⟨hg, hx⟩ := bif_some hx
    cases hx
    rw [Nat.blt_eq] at hg
    obtain ⟨l, hl, h1, h2⟩ := hR.glob g hg
    have := V.ptr (ρ := ρ) (off := 0) hl
    rw [h1, h2] at this
    exact this
  | func f => simp only [evR, evalA, Option.some.injEq] at hx; subst hx; exact .func (.func f) .nil .nil

end
end Go.Ab
