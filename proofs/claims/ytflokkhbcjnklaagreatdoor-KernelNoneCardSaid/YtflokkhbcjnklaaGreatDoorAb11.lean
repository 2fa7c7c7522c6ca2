/-
  Own library, part 11: append and copy.
-/
import Derived.Test.YtflokkhbcjnklaaGreatDoorAb10
namespace Go.Ab

section
variable {P : Program} {ρ : Map} {s s' : St} {w : World}

theorem src_len {x : AV} {x' : Value} (hx : V ρ x x') {m : Nat} (h : srcLen x = some m) : (Builtin.lenOf x').run P w = .ok m w := by
  cases hx <;> simp only [srcLen, reduceCtorEq, Option.some.injEq] at h <;> subst h <;> rfl

theorem src_cells (hR : Rel P ρ s w.heap) {x : AV} {x' : Value} (hx : V ρ x x') {size n : Nat} {l : List AV} (h : srcCells s size n x = some l) :
    ∃ ys : List Value, (∀ w' : World, w'.heap = w.heap → (Builtin.firstCells size n x').run P w' = .ok ys.toArray w') ∧ VL ρ l ys := by
  cases hx <;> simp only [srcCells, reduceCtorEq] at h
  · rename_i id off len cap c l hl hc
    obtain ⟨_, h_⟩ := bif_some h; clear h; have h := h_; clear h_
    obtain ⟨ys, h1, h2, h3⟩ := row_read hR h hl
    exact ⟨ys, h3, h2⟩
  · obtain ⟨_, h_⟩ := bif_some h; clear h; have h := h_; clear h_
    cases h
    exact ⟨[], fun _ _ => rfl, .nil⟩

theorem srcCells_length {size n : Nat} {x : AV} {l : List AV} (h : srcCells s size n x = some l) : l.length = n * size := by
  unfold srcCells at h
  split at h
  · obtain ⟨_, h_⟩ := bif_some h; clear h; have h := h_; clear h_
    unfold St.read at h
    obtain ⟨cs, _, h_⟩ := bind_some h
    exact (sub_spec _ _ _ _ h_).1
  · obtain ⟨hc, h_⟩ := bif_some h; clear h; have h := h_; clear h_
    cases h; simp [of_beqT hc]
  · cases h

/-- How much a row that grows may be made to hold at once. -/
theorem next_cap (need cap bytes : Nat) (h : need * bytes ≤ 1073741824) (hc : cap < need) : ¬ Builtin.nextslicecap need cap * bytes > 2 ^ 48 := by
  have hb : Builtin.nextslicecap need cap ≤ 3 * need + 4096 := by
    unfold Builtin.nextslicecap
    split
    · omega
    · split
      · omega
      · have step : ∀ (r c : Nat), Builtin.growBy need r c ≤ max c (need + need / 4 + 192) := by
          intro r
          induction r with
          | zero => intro c; simp only [Builtin.growBy]; omega
          | succ r ih =>
            intro c
            simp only [Builtin.growBy]
            split
            · omega
            · have := ih (c + (c + 768) / 4)
              omega
        have := step 4 cap
        omega
  rcases Nat.eq_zero_or_pos bytes with h0 | h0
  · subst h0; simp
  · have h1 : Builtin.nextslicecap need cap * bytes ≤ (3 * need + 4096) * bytes := Nat.mul_le_mul_right _ hb
    have h2 : (3 * need + 4096) * bytes = 3 * (need * bytes) + 4096 * bytes := by rw [Nat.add_mul, Nat.mul_assoc]
    have h3 : bytes ≤ need * bytes := Nat.le_mul_of_pos_left _ (by omega)
    have : (2 : Nat) ^ 48 = 281474976710656 := by decide
    omega

/-- The new row of an append that grows. -/
theorem grow_row (hR : Rel P ρ s w.heap) (hf : ρ s.next = none) {cs : List AV} {old new rest : Array Value} {et : TypeId} {a b : List AV} (ha : VL ρ a old.toList) (hb : VL ρ b new.toList) (hcs : cs = a ++ b) :
    ∃ w', (newRow et (old ++ new ++ rest)).run P w = .ok ⟨w.heap.size, 0, none⟩ w' ∧ Step P ρ s w.heap (ρ.add s.next ⟨w.heap.size, 0, (old ++ new ++ rest).size⟩) (s.new (.cells cs et)) w'.heap ∧ Aside w w' := by
  subst hcs
  have hab : VL ρ (a ++ b) (old ++ new).toList := by rw [Array.toList_append]; exact ha.append hb
  refine newRow_sound hR hf ?_ fun i x hx => ?_
  · have := VL_size hab
    simp at this ⊢
    omega
  · obtain ⟨y, hy, hv⟩ := VL_get hab i x hx
    refine ⟨y, ?_, hv⟩
    rw [Array.getElem?_append_left]
    · exact hy
    · rcases Nat.lt_or_ge i (old ++ new).size with h | h
      · exact h
      · rw [Array.getElem?_eq_none h] at hy; cases hy

section
variable {argTypes : Array TypeId} {ty : TypeId} {args : Array Value} {t t1 elem : TypeId} {tt tt1 et : ATy} {base : Option Addr} {sLen sCap m : Nat} {x' : Value} (h0 : argTypes[0]? = some t) (h1 : argTypes[1]? = some t1)
    (a0 : args[0]? = some (.slice base sLen sCap)) (a1 : args[1]? = some x') (T : TyOk P t tt) (hd : tt.desc = .slice elem) (T1 : TyOk P t1 tt1) (hn : ∀ k, tt1.desc ≠ .int k) (E : TyOk P elem et)
    (hlen : (Builtin.lenOf x').run P w = .ok m w)
include h0 h1 a0 a1 T hd T1 hn E hlen

/-- The run of an append that finds room. -/
theorem run_append_fits {new : Array Value} (hnew : (Builtin.firstCells et.size m x').run P w = .ok new w) (hle : sLen + m ≤ sCap) {w' : World}
    (hst : ∀ a, base = some a → (storeCells (a.add (sLen * et.size)) new.toList).run P w = .ok () w') (hno : base = none → w' = w) :
    (Builtin.append_ argTypes ty args).run P w = .ok (.slice base (sLen + m) sCap) w' := by
  unfold Builtin.append_
  rw [h0, a0, a1]
  simp only [Sem.run_bind, T.run_under, hd, Result.andThen_ok, E.run_size, h1, T1.run_under, Sem.run_pure]
  simp only [Bool.false_eq_true, if_false, Sem.run_bind, hlen, Result.andThen_ok]
  rw [if_pos hle]
  simp only [Bool.not_false, if_true, Sem.run_bind, hnew, Result.andThen_ok]
  cases base with
  | some a => simp only [Sem.run_bind, hst a rfl, Result.andThen_ok, Sem.run_pure]
  | none => rw [hno rfl]; rfl

/-- The run of an append that does not. -/
theorem run_append_grows {old new : Array Value} (hnew : ∀ w' : World, w'.heap = w.heap → (Builtin.firstCells et.size m x').run P w' = .ok new w') (hold : ∀ w' : World, w'.heap = w.heap → (Builtin.firstCells et.size sLen (.slice base sLen sCap)).run P w' = .ok old w')
    (hlt : sCap < sLen + m) (hb : (sLen + m) * et.bytes ≤ 1073741824) (hs : sLen + m ≤ 1073741824) {z : AV} (hz : et.zero = some z) :
    ∃ (w₁ : World) (newCap : Nat) (rest : Array Value), w₁.heap = w.heap ∧ sLen + m ≤ newCap ∧ rest.size = (newCap - (sLen + m)) * z.cells.length ∧
      (∀ a w', (newRow elem (old ++ new ++ rest)).run P w₁ = .ok a w' → (Builtin.append_ argTypes ty args).run P w = .ok (.slice (some a) (sLen + m) newCap) w') ∧ Aside w w₁ := by
  obtain ⟨i, hi, hib, _⟩ := E.run_bytes w
  have hq : (Question.appendCap (sLen + m) sCap elem).forced = false := rfl
  have hcut : sLen + m ≤ (Question.appendCap (sLen + m) sCap elem).cut (w.tape w.drawn (.appendCap (sLen + m) sCap elem)) := Nat.le_add_right _ _
  generalize hnc : (Question.appendCap (sLen + m) sCap elem).cut (w.tape w.drawn (.appendCap (sLen + m) sCap elem)) = newCap at hcut
  let w₁ : World := { w with drawn := w.drawn + 1 }
  obtain ⟨i1, hi1, _, _⟩ := E.run_bytes w₁
  obtain ⟨z', hz1, hz2⟩ := E.run_zero w₁ hz
  have hzl : z.cells.length = z'.cells.size := by simpa using (ofValue_V (fun _ => none) hz2).cells.length
  refine ⟨w₁, newCap, Builtin.zeroCells z'.cells (newCap - (sLen + m)), rfl, hcut, by simp [Builtin.zeroCells, hzl], fun a w' hrow => ?_, Aside.of_heap rfl rfl rfl⟩
  unfold Builtin.append_
  rw [h0, a0, a1]
  simp only [Sem.run_bind, T.run_under, hd, Result.andThen_ok, E.run_size, h1, T1.run_under, Sem.run_pure]
  simp only [Bool.false_eq_true, if_false, Sem.run_bind, hlen, Result.andThen_ok]
  rw [if_neg (by omega)]
  simp only [Sem.run_bind, hi, Result.andThen_ok]
  rw [if_neg (by
    rintro ⟨hx, _⟩
    have : IntKind.i64.max = 9223372036854775807 := by decide
    omega)]
  simp only [Sem.run_bind, hi, Result.andThen_ok]
  rw [if_neg (by rw [hib]; exact next_cap _ _ _ hb hlt)]
  simp only [Sem.run_bind, run_choose, hq, Bool.false_eq_true, if_false, Result.andThen_ok, hnc]
  show ((typeInfo elem).run P w₁).andThen _ = _
  rw [hi1]
  simp only [Result.andThen_ok, run_askRoom, hold w₁ rfl, Bool.not_false, if_true, hnew w₁ rfl, hz1, hrow, Sem.run_pure]

end

theorem mul_split {m n : Nat} (k : Nat) (h : m ≤ n) : n * k = m * k + (n - m) * k := by rw [← Nat.add_mul, Nat.add_sub_cancel' h]

theorem cap_le {l : Pl} {off : Nat} {c : Cap} {n : Nat} (h : VCap l off c n) : capOf c ≤ n := by
  cases c with
  | exact c => exact Nat.le_of_eq (Eq.symm h)
  | loose c sz => exact h.1

theorem Rel.kill (hR : Rel P ρ s w.heap) (id : Nat) : Rel P ρ (s.kill id) w.heap := by
  refine ⟨fun j o h => ?_, fun i j l m hi hj => ?_, hR.glob, hR.low⟩
  · rw [St.get_kill] at h
    by_cases e : j = id
    · rw [if_pos e] at h; cases h
    · rw [if_neg e] at h; exact hR.obj j o h
  · have hget : ∀ k, ((s.kill id).get k).isSome → (s.get k).isSome := by
      intro k hk
      rw [St.get_kill] at hk
      by_cases e : k = id
      · rw [if_pos e] at hk; cases hk
      · rw [if_neg e] at hk; exact hk
    exact hR.inj i j l m (hget i hi) (hget j hj)

theorem kill_live {id j : Nat} (h : ((s.kill id).get j).isSome) : (s.get j).isSome := by
  rw [St.get_kill] at h
  by_cases e : j = id
  · rw [if_pos e] at h; cases h
  · rw [if_neg e] at h; exact h

theorem Step.of_kill {ρ' : Map} {H H' : Array Obj} {id : Nat} (h : Step P ρ (s.kill id) H ρ' s' H') : Step P ρ s H ρ' s' H' :=
  ⟨h.rel, h.le, h.next, h.old, fun j l a b => by
    rcases h.live j l a b with c | ⟨k, m, c, d⟩
    · exact .inl c
    · exact .inr ⟨k, m, kill_live c, d⟩, h.size, fun B hB hn => h.frame B hB fun j l a b => hn j l (kill_live a) b⟩

/-- A thing that goes on under a new name, in its old place. -/
theorem Step.moved {H H' : Array Obj} (hR : Rel P ρ s H) {id : Nat} {l : Pl} {o o' : AObj} (hg : s.get id = some o) (hl : ρ id = some l) (hf : ρ s.next = none) (hsz : H'.size = H.size) (hoth : ∀ B, B ≠ l.b → H'[B]? = H[B]?) (ho : OAt (ρ.add s.next l) l H' o') :
    Step P ρ s H (ρ.add s.next l) ((s.kill id).new o') H' := by
  have hle : ρ.le (ρ.add s.next l) := Map.le_add hf
  have hlow : ∀ j m, ρ.add s.next l j = some m → j = s.next ∧ m = l ∨ j ≠ s.next ∧ ρ j = some m := by
    intro j m h
    unfold Map.add at h
    by_cases e : j = s.next
    · rw [if_pos e] at h; cases h; exact .inl ⟨e, rfl⟩
    · rw [if_neg e] at h; exact .inr ⟨e, h⟩
  have hget : ∀ k u, ((s.kill id).new o').get k = some u → k = s.next ∧ u = o' ∨ k ≠ s.next ∧ k ≠ id ∧ s.get k = some u := by
    intro k u hk
    rw [St.get_new] at hk
    by_cases e : k = s.next
    · have : k = (s.kill id).next := e
      rw [if_pos this] at hk; cases hk; exact .inl ⟨e, rfl⟩
    · have : ¬ k = (s.kill id).next := e
      rw [if_neg this, St.get_kill] at hk
      by_cases e' : k = id
      · rw [if_pos e'] at hk; cases hk
      · rw [if_neg e'] at hk; exact .inr ⟨e, e', hk⟩
  have hne : ∀ j m, j ≠ id → (s.get j).isSome → ρ j = some m → m.b ≠ l.b := fun j m hj hs hm e => hj (hR.inj j id m l hs (by rw [hg]; rfl) hm hl e)
  refine ⟨⟨?_, ?_, ?_, ?_⟩, hle, Nat.le_succ _, ?_, ?_, by omega, ?_⟩
  · intro j u h
    rcases hget j u h with ⟨e1, e2⟩ | ⟨e1, e2, e3⟩
    · subst e1; subst e2; exact ⟨l, add_self _ _ _, ho⟩
    · obtain ⟨m, hm, hat⟩ := hR.obj j u e3
      exact ⟨m, hle _ _ hm, (hat.block (hoth _ (hne j m e2 (by rw [e3]; rfl) hm))).mono hle⟩
  · intro i j m n hi hj hm hn e
    obtain ⟨u, hu⟩ := Option.isSome_iff_exists.1 hi
    obtain ⟨v, hv⟩ := Option.isSome_iff_exists.1 hj
    rcases hget i u hu with ⟨a1, _⟩ | ⟨a1, a2, a3⟩ <;> rcases hget j v hv with ⟨b1, _⟩ | ⟨b1, b2, b3⟩
    · rw [a1, b1]
    · rcases hlow i m hm with ⟨_, x⟩ | ⟨x, _⟩
      · rcases hlow j n hn with ⟨y, _⟩ | ⟨_, y⟩
        · exact absurd y b1
        · subst x; exact absurd e.symm (hne j n b2 (by rw [b3]; rfl) y)
      · exact absurd a1 x
    · rcases hlow j n hn with ⟨_, x⟩ | ⟨x, _⟩
      · rcases hlow i m hm with ⟨y, _⟩ | ⟨_, y⟩
        · exact absurd y a1
        · subst x; exact absurd e (hne i m a2 (by rw [a3]; rfl) y)
      · exact absurd b1 x
    · rcases hlow i m hm with ⟨x, _⟩ | ⟨_, x⟩
      · exact absurd x a1
      · rcases hlow j n hn with ⟨y, _⟩ | ⟨_, y⟩
        · exact absurd y b1
        · exact hR.inj i j m n (by rw [a3]; rfl) (by rw [b3]; rfl) x y e
  · intro g hg
    obtain ⟨m, hm, h1, h2⟩ := hR.glob g hg
    exact ⟨m, hle _ _ hm, h1, h2⟩
  · intro j m h
    rcases hlow j m h with ⟨_, e⟩ | ⟨_, e⟩
    · subst e; have := hR.low _ _ hl; omega
    · have := hR.low _ _ e; omega
  · intro j h
    unfold Map.add
    rw [if_neg]
    have : ((s.kill id).new o').next = s.next + 1 := rfl
    omega
  · intro j m hs h
    rcases hlow j m h with ⟨_, e⟩ | ⟨e0, e⟩
    · subst e; exact .inr ⟨id, _, by rw [hg]; rfl, hl, rfl⟩
    · obtain ⟨u, hu⟩ := Option.isSome_iff_exists.1 hs
      rcases hget j u hu with ⟨e1, _⟩ | ⟨_, _, e3⟩
      · exact absurd e1 e0
      · exact .inr ⟨j, m, by rw [e3]; rfl, e, rfl⟩
  · intro B _ hn
    exact hoth B fun e => hn id l (by rw [hg]; rfl) hl e.symm

theorem aappend_sound (hR : Rel P ρ s w.heap) (hf : Fresh ρ s.next s'.next) {argTypes : Array TypeId} {ty : TypeId} {args : Array Value} {t t1 elem : TypeId} {tt tt1 et : ATy} {x y v z : AV} {x' y' : Value} (h0 : argTypes[0]? = some t) (h1 : argTypes[1]? = some t1)
    (a0 : args[0]? = some x') (a1 : args[1]? = some y') (T : TyOk P t tt) (hd : tt.desc = .slice elem) (T1 : TyOk P t1 tt1) (hn : ∀ k, tt1.desc ≠ .int k) (E : TyOk P elem et) (hz : et.zero = some z) (hzl : z.cells.length = et.size)
    (hx : V ρ x x') (hy : V ρ y y') (h : aappend et elem s x y = some (v, s')) :
    Loud P ρ s w (do pure (.value (← Builtin.append_ argTypes ty args))) v s' := by
  unfold aappend at h
  obtain ⟨m, hm, h_⟩ := bind_some h; clear h; have h := h_; clear h_
  obtain ⟨new, hnew, h_⟩ := bind_some h; clear h; have h := h_; clear h_
  obtain ⟨hsz, h_⟩ := bif_none h; clear h; have h := h_; clear h_
  simp only [Bool.or_eq_false_iff, Bool.not_eq_false'] at hsz
  obtain ⟨hsz, hcell⟩ := hsz
  have hsz := of_beqF hsz
  have hlen := src_len (P := P) (w := w) hy hm
  obtain ⟨ns, hns, hnv⟩ := src_cells hR hy hnew
  have hns' := hns
  have hns := hns w rfl
  have hnl := srcCells_length hnew
  have hnl' := hnv.length
  split at h
  · -- onto nil
    cases hx
    cases hm0 : m.beq 0 with
    | true =>
      rw [hm0] at h
      cases h
      have hm0 := of_beqT hm0
      subst hm0
      have := run_append_fits (ty := ty) h0 h1 a0 a1 T hd T1 hn E hlen hns (by simp) (w' := w) (by simp) (fun _ => rfl)
      exact loud_val this .nils (Step.refl hR) (Aside.refl w)
    | false =>
      rw [hm0] at h
      have hm0 := of_beqF hm0
      obtain ⟨hb, h_⟩ := bif_some h; clear h; have h := h_; clear h_
      simp only [Bool.and_eq_true, Nat.ble_eq] at hb
      cases h
      have hfr : ρ s.next = none := hf _ (Nat.le_refl _) (Nat.lt_succ_self _)
      obtain ⟨w₁, newCap, rest, e1, e2, e3, e4, ea⟩ := run_append_grows (ty := ty) h0 h1 a0 a1 T hd T1 hn E hlen (old := #[]) hns' (fun w' _ => rfl) (by omega) (by simpa using hb.1) (by simpa using hb.2) hz
      have hR1 : Rel P ρ s w₁.heap := by rw [e1]; exact hR
      obtain ⟨w', h2, h3, h6⟩ := grow_row (et := elem) (rest := rest) hR1 hfr (a := []) (old := #[]) .nil (by simpa using hnv) (by simp : new = [] ++ new)
      have h4 := e4 _ _ h2
      rw [e1] at h3 h4
      simp only [Nat.zero_add] at h4 e2
      refine loud_val h4 ?_ h3 (ea.trans h6)
      have := V.slice (ρ := ρ.add s.next ⟨w.heap.size, 0, (#[] ++ ns.toArray ++ rest).size⟩) (id := s.next) (off := 0) (len := m) (cap := newCap) (c := .loose m et.size) (add_self _ _ _) ⟨e2, by
        simp only [Nat.zero_add, Array.size_append, List.size_toArray] at e3 ⊢
        rw [e3, hzl, ← hnl', hnl, mul_split et.size e2]
        simp⟩
      simpa using this
  · -- onto a slice
    rename_i id off len cap
    cases hx; rename_i cap' l hl hc
    simp only at h
    cases hfit : Nat.ble (len + m) (capOf cap) with
    | true =>
      rw [hfit] at h
      simp only [cond_true] at h
      rw [Nat.ble_eq] at hfit
      obtain ⟨_, h_⟩ := bif_some h; clear h; have h := h_; clear h_
      obtain ⟨s1, hs1, h_⟩ := bind_some h; clear h; have h := h_; clear h_
      cases h
      obtain ⟨w', h2, h3, h6⟩ := write_sound hR hl hnv hs1
      have := run_append_fits (ty := ty) h0 h1 a0 a1 T hd T1 hn E hlen hns (Nat.le_trans hfit (cap_le hc)) (w' := w') (fun a ha => by
        cases ha
        rw [add_none, Nat.add_assoc]
        exact h2) (fun e => by cases e)
      exact loud_val this (.slice hl hc) h3 h6
    | false =>
      rw [hfit] at h
      simp only [cond_false] at h
      obtain ⟨hb, h_⟩ := bif_some h; clear h; have h := h_; clear h_
      simp only [Bool.and_eq_true, Nat.ble_eq] at hb
      have hfit : capOf cap < len + m := by
        rcases Nat.lt_or_ge (capOf cap) (len + m) with h | h
        · exact h
        · rw [Nat.ble_eq_true_of_le h] at hfit; cases hfit
      cases cap with
      | exact c =>
        -- its capacity is known: it grows
        have hfit : c < len + m := hfit
        obtain ⟨old, hold, h_⟩ := bind_some h; clear h; have h := h_; clear h_
        obtain ⟨_, h_⟩ := bif_some h; clear h; have h := h_; clear h_
        cases h
        have hcc : cap' = c := hc
        have hfr : ρ s.next = none := hf _ (Nat.le_refl _) (Nat.lt_succ_self _)
        obtain ⟨os, ho1, ho2, ho3⟩ := row_read (P := P) hR hold hl
        obtain ⟨w₁, newCap, rest, e1, e2, e3, e4, ea⟩ := run_append_grows (ty := ty) h0 h1 a0 a1 T hd T1 hn E hlen (old := os.toArray) hns' ho3 (by rw [hcc]; exact hfit) hb.1 hb.2 hz
        have hR1 : Rel P ρ s w₁.heap := by rw [e1]; exact hR
        obtain ⟨w', h2, h3, h6⟩ := grow_row (et := elem) (rest := rest) hR1 hfr (a := old) (old := os.toArray) (by simpa using ho2) (by simpa using hnv) (rfl : old ++ new = old ++ new)
        have h4 := e4 _ _ h2
        rw [e1] at h3 h4
        refine loud_val h4 ?_ h3 (ea.trans h6)
        have := V.slice (ρ := ρ.add s.next ⟨w.heap.size, 0, (os.toArray ++ ns.toArray ++ rest).size⟩) (id := s.next) (off := 0) (len := len + m) (cap := newCap) (c := .loose (len + m) et.size) (add_self _ _ _) ⟨e2, by
          simp only [Nat.zero_add, Array.size_append, List.size_toArray] at e3 ⊢
          rw [e3, hzl, ← hnl', hnl, ho1, mul_split et.size e2, Nat.add_mul]
          omega⟩
        simpa using this
      | loose c sz =>
        have hfit : c < len + m := hfit
        obtain ⟨hsz2, h_⟩ := bif_some h; clear h; have h := h_; clear h_
        have hsz2 := of_beqT hsz2
        split at h
        · rename_i cs e hg
          obtain ⟨hq, h_⟩ := bif_some h; clear h; have h := h_; clear h_
          obtain ⟨old, hold, h_⟩ := bind_some h; clear h; have h := h_; clear h_
          obtain ⟨_, h_⟩ := bif_some h; clear h; have h := h_; clear h_
          cases h
          simp only [Bool.and_eq_true] at hq
          have hoff := of_beqT hq.1.1
          have hend := of_beqT hq.1.2
          have hee := of_beqT hq.2
          subst hoff; subst hee; subst hsz2
          have hfr : ρ s.next = none := hf _ (Nat.le_refl _) (Nat.lt_succ_self _)
          have hread : s.read id 0 (len * et.size) = some old := by
            unfold St.read St.row
            rw [hg]
            exact hold
          obtain ⟨os, ho1, ho2, ho3⟩ := row_read (P := P) hR hread hl
          rcases Nat.lt_or_ge cap' (len + m) with hlt | hge
          · obtain ⟨w₁, newCap, rest, e1, e2, e3, e4, ea⟩ := run_append_grows (ty := ty) h0 h1 a0 a1 T hd T1 hn E hlen (old := os.toArray) hns' ho3 hlt hb.1 hb.2 hz
            have hR1 : Rel P ρ (s.kill id) w₁.heap := by rw [e1]; exact hR.kill id
            obtain ⟨w', h2, h3, h6⟩ := grow_row (et := e) (rest := rest) hR1 hfr (a := old) (old := os.toArray) (by simpa using ho2) (by simpa using hnv) (rfl : old ++ new = old ++ new)
            have h4 := e4 _ _ h2
            rw [e1] at h3 h4
            have h5 : Step P ρ s w.heap (ρ.add s.next ⟨w.heap.size, 0, (os.toArray ++ ns.toArray ++ rest).size⟩) ((s.kill id).new (.cells (old ++ new) e)) w'.heap := h3.of_kill
            refine loud_val h4 ?_ h5 (ea.trans h6)
            have := V.slice (ρ := ρ.add s.next ⟨w.heap.size, 0, (os.toArray ++ ns.toArray ++ rest).size⟩) (id := s.next) (off := 0) (len := len + m) (cap := newCap) (c := .loose (len + m) et.size) (add_self _ _ _) ⟨e2, by
              simp only [Nat.zero_add, Array.size_append, List.size_toArray] at e3 ⊢
              rw [e3, hzl, ← hnl', hnl, ho1, mul_split et.size e2, Nat.add_mul]
              omega⟩
            simpa using this
          · obtain ⟨l', hl', cc, hcc, hs1, hs2, hs3⟩ := hR.obj _ _ hg
            rw [hl] at hl'; cases hl'
            obtain ⟨hc1, hc2⟩ : c ≤ cap' ∧ 0 + cap' * et.size ≤ l.c := hc
            have hcap : (len + m) * et.size ≤ cap' * et.size := Nat.mul_le_mul_right _ hge
            rw [Nat.add_mul] at hcap
            have ho := (hR.low _ _ hl).2
            obtain ⟨w', c', e1, e2, e3, e4, e5, e6, ea⟩ := run_storeCells P l.b (l.o + 0 + len * et.size) e ns 0 w cc hcc (by omega) (cells_one hnv hcell)
            have hrun := run_append_fits (ty := ty) h0 h1 a0 a1 T hd T1 hn E hlen hns hge (w' := w') (fun a ha => by
              cases ha
              rw [add_none]
              exact e1) (fun e => by cases e)
            have hold' : old.length = len * et.size := (sub_spec _ _ _ _ hold).1
            have hrow : OAt (ρ.add s.next l) l w'.heap (.cells (old ++ new) e) := by
              refine ⟨c', e4, by omega, by rw [List.length_append]; omega, fun i x hx => ?_⟩
              rw [e6 (l.o + i)]
              rcases Nat.lt_or_ge i old.length with hi | hi
              · rw [List.getElem?_append_left hi] at hx
                rw [if_neg (by omega)]
                have hx2 : cs[i]? = some x := by
                  rw [← hx, (sub_spec _ _ _ _ hold).2.2 i (by omega)]
                  simp
                obtain ⟨y, hy, hxy⟩ := hs3 i x hx2
                exact ⟨y, hy, hxy.mono (Map.le_add hfr)⟩
              · rw [List.getElem?_append_right hi] at hx
                obtain ⟨y, hy, hxy⟩ := hnv.get _ _ hx
                have hlt : i - old.length < ns.length := (List.getElem?_eq_some_iff.1 hy).1
                rw [if_pos (by omega)]
                exact ⟨y, by rw [← hy]; congr 1; omega, hxy.mono (Map.le_add hfr)⟩
            refine loud_val hrun ?_ (Step.moved hR hg hl hfr e2 e3 hrow) ea
            have := V.slice (ρ := ρ.add s.next l) (id := s.next) (off := 0) (len := len + m) (cap := cap') (c := .loose (len + m) et.size) (add_self _ _ _) ⟨hge, hc2⟩
            exact this
        · cases h
  · cases h

end
end Go.Ab
