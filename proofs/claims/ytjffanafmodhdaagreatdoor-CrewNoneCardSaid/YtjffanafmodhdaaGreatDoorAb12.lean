/- Own text of this claim: part Ab12. -/
import Derived.Test.YtjffanafmodhdaaGreatDoorAb9
set_option linter.unusedVariables false
set_option linter.unusedSimpArgs false
set_option linter.unusedSectionVars false
set_option linter.unnecessarySimpa false
/-
  Own library, part 12: the loud operations, all of them.
-/
namespace Go.Ab

variable {A : Nat → Prop}

section
variable {P : Program} {ρ : Map} {s s' : St} {w : World}

theorem range0 {α : Type} (f : Nat → α) : (Array.range 0).map f = #[] := by apply Array.ext'; simp

theorem setObj_run {b : Nat} {o o' : Obj} (h : w.heap[b]? = some o) (hA : A b) (hp : o.plain = true) (hc : o'.isChan = false) : (setObj b o').runL A P w = .ok () { w with heap := w.heap.setIfInBounds b o' } := runL_setObj w h hA hp hc

/-- A map's entries, changed. -/
theorem map_set (hR : Rel A P ρ s w.heap) {id clock clock' : Nat} {l : Pl} {es es₂ : List (AV × AV × Nat)} {es' es₂' : Array MapEntry} (hg : s.get id = some (.map es clock)) (hl : ρ id = some l) (hm : w.heap[l.b]? = some (.map es' clock)) (h2 : EsRel ρ es₂ es₂'.toList) :
    ∃ w', (setObj l.b (.map es₂' clock')).runL A P w = .ok () w' ∧ Step A P ρ s w.heap ρ (s.set id (.map es₂ clock')) w'.heap ∧ Aside w w' := by
  have hlt : l.b < w.heap.size := by
    rcases Nat.lt_or_ge l.b w.heap.size with h | h
    · exact h
    · rw [Array.getElem?_eq_none h] at hm; cases hm
  refine ⟨_, setObj_run hm (hR.own _ _ (by rw [hg]; rfl) hl) rfl rfl, Step.set hR hg hl (by simp) (fun B hB => ?_) ⟨es₂', ?_, h2⟩, Aside.set hm (fun _ _ _ h => by cases h)⟩
  · exact Array.getElem?_setIfInBounds_ne (fun e => hB e.symm)
  · exact Array.getElem?_setIfInBounds_self_of_lt hlt

theorem set_same {id : Nat} {o : AObj} (hg : s.get id = some o) (j : Nat) : (s.set id o).get j = s.get j := by
  rw [St.get_set]
  by_cases e : j = id
  · subst e; rw [if_pos rfl, hg]
  · rw [if_neg e]

theorem Step.of_same {ρ' : Map} {H H' : Array Obj} {id : Nat} {o : AObj} (h : Step A P ρ s H ρ' (s.set id o) H') (hg : s.get id = some o) : Step A P ρ s H ρ' s H' :=
  ⟨⟨fun j u hj => h.rel.obj j u (by rw [set_same hg]; exact hj), fun i j a b hi hj => h.rel.inj i j a b (by rw [set_same hg]; exact hi) (by rw [set_same hg]; exact hj), h.rel.glob, h.rel.low, fun j l a => h.rel.own j l (by rw [set_same hg]; exact a), h.rel.fresh⟩, h.le, Nat.le_refl _, h.old, fun j l a b => h.live j l (by rw [set_same hg]; exact a) b, h.size, h.frame⟩

theorem copy_sound (hR : Rel A P ρ s w.heap) {argTypes : Array TypeId} {ty : TypeId} {args : Array Value} {t elem : TypeId} {tt et : ATy} {x y v : AV} {x' y' : Value} (h0 : argTypes[0]? = some t)
    (a0 : args[0]? = some x') (a1 : args[1]? = some y') (T : TyOk P t tt) (hd : tt.desc = .slice elem) (E : TyOk P elem et) (hx : V ρ x x') (hy : V ρ y y') (h : acopy et s x y = some (v, s')) :
    Loud A P ρ s w (do pure (.value (← Builtin.copy_ argTypes ty args))) v s' := by
  unfold acopy at h
  obtain ⟨m, hm, h_⟩ := bind_some h; clear h; have h := h_; clear h_
  have hlen := src_len (A := A) (P := P) (w := w) hy hm
  have e0 : ∀ (base : Option Addr) (dLen dCap : Nat), x' = .slice base dLen dCap → ∀ (cells : Array Value) (w' : World), (Builtin.firstCells et.size (Nat.min m dLen) y').runL A P w = .ok cells w →
      (∀ a, base = some a → (storeCells a cells.toList).runL A P w = .ok () w') → (base = none → w' = w) → (Builtin.copy_ argTypes ty args).runL A P w = .ok (goInt (Nat.min m dLen)) w' := by
    intro base dLen dCap e cells w' hc hst hno
    unfold Builtin.copy_
    rw [h0, a0, a1, e]
    simp only [runL_bind, T.run_under, hd, Result.andThen_ok, hlen, E.run_size, hc]
    cases base with
    | some a => simp only [runL_bind, hst a rfl, Result.andThen_ok, runL_pure]
    | none => rw [hno rfl]; rfl
  split at h
  · -- to nil
    cases h; cases hx
    have hf : (Builtin.firstCells et.size (Nat.min m 0) y').runL A P w = .ok #[] w := by
      have e : Nat.min m 0 = 0 := Nat.min_zero m
      rw [e]
      cases hy <;> simp only [srcLen, reduceCtorEq] at hm
      · simp [Builtin.firstCells, loadCells, loadCellsFrom]
      · rfl
    have := e0 none 0 0 rfl #[] w hf (fun a e => by cases e) (fun _ => rfl)
    refine loud_val this ?_ (Step.refl hR) (Aside.refl w)
    have e : Nat.min m 0 = 0 := Nat.min_zero m
    rw [e]; exact .int _ _
  · rename_i id off len cap
    cases hx; rename_i cap' l hl hc
    simp only at h
    split at h
    · rename_i sid soff slen scap
      cases hy; rename_i scap' l2 hl2 hc2
      obtain ⟨cells, hcells, h_⟩ := bind_some h; clear h; have h := h_; clear h_
      obtain ⟨s1, hs1, h_⟩ := bind_some h; clear h; have h := h_; clear h_
      cases h
      obtain ⟨ys, e1, e2, e3⟩ := row_read (P := P) hR hcells hl2
      obtain ⟨w', h2, h3, h6⟩ := write_sound hR hl e2 hs1
      have := e0 _ _ _ rfl ys.toArray w' (e3 w rfl) (fun a e => by cases e; exact h2) (fun e => by cases e)
      exact loud_val this (.int _ _) h3 h6
    · cases h; cases hy
      simp only [srcLen, Option.some.injEq] at hm
      subst hm
      have hz : Nat.min 0 len = 0 := Nat.zero_min len
      have := e0 _ _ _ rfl #[] w rfl (fun a e => rfl) (fun e => by cases e)
      refine loud_val this ?_ (Step.refl hR) (Aside.refl w)
      rw [hz]; exact .int _ _
    · cases h
  · cases h

theorem update_sound (hR : Rel A P ρ s w.heap) {evA : Operand → Option AV} {evC : Operand → Value} (hev : ∀ x v, evA x = some v → V ρ v (evC x)) {t : TypeId} {om ok ox : Operand} {v : AV}
    (h : ((tyOf P t).bind fun ty => (evA om).bind fun m => (evA ok).bind fun k => (evA ox).bind fun x =>
      match ty.desc, m with
      | .map kt _, .map id =>
        match s.get id with
        | some (.map es clock) => bif akey P 8 kt k then (afind P kt k es 0).bind fun r =>
            match r with
            | some (i, _) => (es[i]?).bind fun e => bif plainSame e.1 k then some (undefA, s.set id (.map (setVal es i k x) clock)) else none
            | none => some (undefA, s.set id (.map (es ++ [(k, x, clock)]) (clock + 1))) else none
        | _ => none
      | _, _ => none) = some (v, s')) :
    Loud A P ρ s w (do Instr.mapUpdate t (evC om) (evC ok) (evC ox); pure .skip) v s' := by
  obtain ⟨ty, hty, h_⟩ := bind_some h; clear h; have h := h_; clear h_
  obtain ⟨m, hm, h_⟩ := bind_some h; clear h; have h := h_; clear h_
  obtain ⟨k, hk, h_⟩ := bind_some h; clear h; have h := h_; clear h_
  obtain ⟨x, hx, h_⟩ := bind_some h; clear h; have h := h_; clear h_
  have vm := hev _ _ hm
  have vk := hev _ _ hk
  have vx := hev _ _ hx
  generalize evC om = m' at vm
  generalize evC ok = k' at vk
  generalize evC ox = x' at vx
  split at h
  · rename_i kt et id hd
    split at h
    · rename_i es clock hg
      obtain ⟨hak, h_⟩ := bif_some h; clear h; have h := h_; clear h_
      obtain ⟨r, hr, h_⟩ := bind_some h; clear h; have h := h_; clear h_
      cases vm; rename_i l hl
      obtain ⟨l', hl', es', e1, e2⟩ := hR.obj _ _ hg
      rw [hl] at hl'; cases hl'
      obtain ⟨r', f1, f2⟩ := find_sound (A := A) w vk hak e2 hr
      have hget : (getObj l.b).runL A P w = .ok (.map es' clock) w := runL_getObj w e1 (hR.own _ _ (by rw [hg]; rfl) hl) rfl
      cases r with
      | some y =>
        cases r' with
        | none => exact f2.elim
        | some y' =>
          obtain ⟨i, u⟩ := y
          obtain ⟨i', u'⟩ := y'
          obtain ⟨rfl, _⟩ := f2
          obtain ⟨e, he, h_⟩ := bind_some h; clear h; have h := h_; clear h_
          obtain ⟨hps, h_⟩ := bif_some h; clear h; have h := h_; clear h_
          cases h
          obtain ⟨e', he', hee⟩ := es_get i e e2 he
          have hsb := plain_same hee.1 vk hps
          have e3 : EsRel ρ (setVal es i k x) (es'.modify i fun e => { e with key := k', val := x' }).toList := by
            have := es_set i e2 vk vx
            simpa using this
          obtain ⟨w', g1, g2, g3⟩ := map_set hR hg hl e1 e3 (clock' := clock)
          refine loud_unit ?_ g2 g3
          unfold Instr.mapUpdate
          simp only [runL_bind, (tyOf_ok hty).run_under, hd, Result.andThen_ok, hget, akey_sound w false 8 10000 kt k k' (by decide) vk hak, f1]
          simp only [Array.getElem?_toList] at he'
          rw [he']
          unfold Instr.keyThatStays
          simp only [Option.map_some, Option.getD_some, hsb, if_true, runL_pure, Result.andThen_ok]
          exact g1
      | none =>
        cases r' with
        | some y' => exact f2.elim
        | none =>
          cases h
          have e3 : EsRel ρ (es ++ [(k, x, clock)]) (es'.push { key := k', val := x', born := clock }).toList := by
            rw [Array.toList_push]
            exact es_append e2 ⟨vk, vx, rfl⟩
          obtain ⟨w', g1, g2, g3⟩ := map_set hR hg hl e1 e3 (clock' := clock + 1)
          refine loud_unit ?_ g2 g3
          unfold Instr.mapUpdate
          simp only [runL_bind, (tyOf_ok hty).run_under, hd, Result.andThen_ok, hget, akey_sound w false 8 10000 kt k k' (by decide) vk hak, f1]
          exact g1
    · cases h
  · cases h

theorem loud_sound (hR : Rel A P ρ s w.heap) {o : Oper} {evA : Operand → Option AV} {evC : Operand → Value} (hev : ∀ x v, evA x = some v → V ρ v (evC x)) {v : AV} (h : aloud P o evA s = some (v, s')) (hf : Fresh ρ s.next s'.next) :
    Loud A P ρ s w (execOp evC o) v s' := by
  unfold aloud at h
  unfold execOp
  split at h <;> rename_i heq <;> simp only [heq]
  · -- alloc
    rename_i t
    obtain ⟨⟨v0, obj⟩, hb1, hb2⟩ := bind_some h; clear h
    cases hb2
    have h := hb1; clear hb1
    unfold abirth at h; rw [heq] at h; simp only at h
    obtain ⟨ty, hty, h_⟩ := bind_some h; clear h; have h := h_; clear h_
    obtain ⟨z, hz, h_⟩ := bind_some h; clear h; have h := h_; clear h_
    obtain ⟨_, h_⟩ := bif_some h; clear h; have h := h_; clear h_
    cases h
    have hfr : ρ s.next = none := hf _ (Nat.le_refl _) (Nat.lt_succ_self _)
    obtain ⟨z', hz1, hz2⟩ := (tyOf_ok hty).run_zero (A := A) w hz
    have hc := (ofValue_V ρ hz2).cells
    obtain ⟨w', h2, h3, h6⟩ := newRow_sound (e := t) hR hfr (Nat.le_of_eq (VL_size hc)) (VL_get hc)
    have : (Instr.alloc t true (.tuple #[])).runL A P w = .ok (.pointer (some ⟨w.heap.size, 0, none⟩)) w' := by
      unfold Instr.alloc newVar
      simp only [runL_bind, hz1, Result.andThen_ok, h2, runL_pure]
    refine loud_val this ?_ h3 h6
    have := V.ptr (ρ := ρ.add s.next ⟨w.heap.size, 0, z'.cells.size⟩) (off := 0) (add_self _ _ _)
    simpa using this
  · -- box
    rename_i t ox
    obtain ⟨⟨v0, obj⟩, hb1, hb2⟩ := bind_some h; clear h
    cases hb2
    have h := hb1; clear hb1
    unfold abirth at h; rw [heq] at h; simp only at h
    obtain ⟨x, hx, h_⟩ := bind_some h; clear h; have h := h_; clear h_
    obtain ⟨_, h_⟩ := bif_some h; clear h; have h := h_; clear h_
    cases h
    have hfr : ρ s.next = none := hf _ (Nat.le_refl _) (Nat.lt_succ_self _)
    have hc := (hev _ _ hx).cells
    obtain ⟨w', h2, h3, h6⟩ := newRow_sound (e := t) hR hfr (Nat.le_of_eq (VL_size hc)) (VL_get hc)
    have : (Instr.box t (evC ox)).runL A P w = .ok (.pointer (some ⟨w.heap.size, 0, none⟩)) w' := by
      unfold Instr.box newVar
      simp only [runL_bind, h2, Result.andThen_ok, runL_pure]
    refine loud_val this ?_ h3 h6
    have := V.ptr (ρ := ρ.add s.next ⟨w.heap.size, 0, (evC ox).cells.size⟩) (off := 0) (add_self _ _ _)
    simpa using this
  · -- buildSlice
    rename_i t len parts
    obtain ⟨⟨v0, obj⟩, hb1, hb2⟩ := bind_some h; clear h
    cases hb2
    have h := hb1; clear hb1
    unfold abirth at h; rw [heq] at h; simp only at h
    obtain ⟨ty, hty, h_⟩ := bind_some h; clear h; have h := h_; clear h_
    obtain ⟨vs, hvs, h_⟩ := bind_some h; clear h; have h := h_; clear h_
    split at h
    · rename_i elem hd
      obtain ⟨et, het, h_⟩ := bind_some h; clear h; have h := h_; clear h_
      obtain ⟨z, hz, h_⟩ := bind_some h; clear h; have h := h_; clear h_
      obtain ⟨hq, h_⟩ := bif_none h; clear h; have h := h_; clear h_
      obtain ⟨cs, hcs, h_⟩ := bind_some h; clear h; have h := h_; clear h_
      obtain ⟨_, h_⟩ := bif_some h; clear h; have h := h_; clear h_
      cases h
      simp only [Bool.or_eq_false_iff, Bool.not_eq_false'] at hq
      obtain ⟨⟨q1, q2⟩, q3⟩ := hq
      have q1 := of_beqF q1
      have q3 := of_beqT q3
      have q2 : ¬ len * et.size > 2 ^ 24 := by
        intro hx
        have : Nat.blt 16777216 (len * et.size) = true := by rw [Nat.blt_eq]; have : (2 : Nat) ^ 24 = 16777216 := by decide
                                                             omega
        rw [this] at q2; cases q2
      have hfr : ρ s.next = none := hf _ (Nat.le_refl _) (Nat.lt_succ_self _)
      have E := tyOf_ok het
      obtain ⟨z', hz1, hz2⟩ := E.run_zero (A := A) w hz
      have hzv := zeros_VL (ofValue_V ρ hz2) len et.size q3 q1
      obtain ⟨r', h1, h2⟩ := fill_sound (ρ := ρ) (pl' := fun i => some (i * et.size, et.size)) (fun i p hi => hi) vs _ (reps len z.cells) _ cs (parts_PRel hev _ _ hvs) hzv hcs
      obtain ⟨w', h3, h4, h6⟩ := newRow_sound (e := elem) hR hfr (Nat.le_of_eq (VL_size h2)) (VL_get h2)
      have hp' : (parts.map fun (i, x) => (i, evC x)).toList = parts.toList.map fun (i, x) => (i, evC x) := by simp
      have : (Instr.buildSlice t len (parts.map fun (i, x) => (i, evC x))).runL A P w = .ok (.slice (some ⟨w.heap.size, 0, none⟩) len len) w' := by
        unfold Instr.buildSlice
        simp only [runL_bind, (tyOf_ok hty).run_under, hd, Result.andThen_ok, E.run_size]
        rw [if_neg q2]
        simp only [runL_bind, hz1, Result.andThen_ok, runL_pure, runL_ite]
        by_cases hl0 : len * et.size = 0
        · have hlen0 : len = 0 := by
            rcases Nat.eq_zero_or_pos len with h | h
            · exact h
            · exact absurd hl0 (by have := Nat.mul_pos h (Nat.pos_of_ne_zero q1); omega)
          subst hlen0
          simp only [Nat.zero_mul, range0] at h1
          simp only [Nat.zero_mul, if_true, Result.andThen_ok, range0, hp', h1, runL_bind, h3, runL_pure]
        · simp only [hl0, if_false, Result.andThen_ok, hp', h1, runL_bind, h3, runL_pure]
      refine loud_val this ?_ h4 h6
      have := V.slice (ρ := ρ.add s.next ⟨w.heap.size, 0, r'.size⟩) (off := 0) (len := len) (cap := len) (c := .exact len) (add_self _ _ _) rfl
      simpa using this
    · cases h
  · -- makeMap
    rename_i t
    obtain ⟨⟨v0, obj⟩, hb1, hb2⟩ := bind_some h; clear h
    cases hb2
    have h := hb1; clear hb1
    unfold abirth at h; rw [heq] at h; simp only at h
    cases h
    have hfr : ρ s.next = none := hf _ (Nat.le_refl _) (Nat.lt_succ_self _)
    have hs := Step.new (x := .map #[] 0) (c := 0) hR hfr (o := .map [] 0) ⟨#[], by simp, trivial⟩
    have : (Instr.makeMap t (Option.map evC none)).runL A P w = .ok (.map (some w.heap.size)) { w with heap := w.heap.push (.map #[] 0) } := by
      unfold Instr.makeMap
      simp
    exact loud_val this (.map (add_self _ _ _)) hs (Aside.push w _)
  · -- makeChan
    rename_i t ox
    obtain ⟨⟨v0, obj⟩, hb1, hb2⟩ := bind_some h; clear h
    cases hb2
    have h := hb1; clear hb1
    unfold abirth at h; rw [heq] at h; simp only at h
    obtain ⟨ty, hty, h_⟩ := bind_some h; clear h; have h := h_; clear h_
    obtain ⟨a, ha, h_⟩ := bind_some h; clear h; have h := h_; clear h_
    obtain ⟨n, hn, h_⟩ := bind_some h; clear h; have h := h_; clear h_
    split at h
    · rename_i dir elem hd
      obtain ⟨hq, h_⟩ := bif_some h; clear h; have h := h_; clear h_
      cases h
      simp only [Bool.and_eq_true] at hq
      obtain ⟨et, het⟩ := Option.isSome_iff_exists.1 hq.2
      have hn0 : n = 0 := of_beqT hq.1
      subst hn0
      obtain ⟨k, ek⟩ := asNat_V hn (hev _ _ ha)
      have hfr : ρ s.next = none := hf _ (Nat.le_refl _) (Nat.lt_succ_self _)
      have hs := Step.new (x := .chan 0 #[] false 0 0 false) (c := 0) hR hfr (o := .chan) (by
        show (w.heap.push _)[w.heap.size]? = _
        simp)
      obtain ⟨i, hi, hib, _⟩ := (tyOf_ok het).run_bytes (A := A) w
      have hmax : IntKind.i64.max = 9223372036854775807 := by decide
      have wl : IntKind.i64.wrap (0 : Int) = 0 := by decide
      have : (Instr.makeChan t (evC ox)).runL A P w = .ok (.chan (some w.heap.size)) { w with heap := w.heap.push (.chan 0 #[] false 0 0 false) } := by
        rw [ek]
        unfold Instr.makeChan
        simp only [runL_bind, asInt, run_asIntOf, Result.andThen_ok, runL_pure, (tyOf_ok hty).run_under, hd, hi, Int.natCast_zero, wl]
        rw [if_neg (by
          simp only [hmax]
          omega)]
        simp only [runL_bind, runL_pure, runL_newObj, Result.andThen_ok]
        rfl
      exact loud_val this (.chan (add_self _ _ _)) hs (Aside.push w _)
    · cases h
  · -- makeSlice
    rename_i t ol oc
    obtain ⟨⟨v0, obj⟩, hb1, hb2⟩ := bind_some h; clear h
    cases hb2
    have h := hb1; clear hb1
    unfold abirth at h; rw [heq] at h; simp only at h
    obtain ⟨ty, hty, h_⟩ := bind_some h; clear h; have h := h_; clear h_
    obtain ⟨a, ha, h_⟩ := bind_some h; clear h; have h := h_; clear h_
    obtain ⟨l, hl, h_⟩ := bind_some h; clear h; have h := h_; clear h_
    obtain ⟨b, hb, h_⟩ := bind_some h; clear h; have h := h_; clear h_
    obtain ⟨c, hc, h_⟩ := bind_some h; clear h; have h := h_; clear h_
    split at h
    · rename_i elem hd
      obtain ⟨et, het, h_⟩ := bind_some h; clear h; have h := h_; clear h_
      obtain ⟨z, hz, h_⟩ := bind_some h; clear h; have h := h_; clear h_
      obtain ⟨hq, h_⟩ := bif_none h; clear h; have h := h_; clear h_
      cases h
      simp only [Bool.or_eq_false_iff, Bool.not_eq_false', Nat.ble_eq] at hq
      obtain ⟨⟨⟨⟨⟨q1, q2⟩, q3⟩, q4⟩, q5⟩, q6⟩ := hq
      have q1 := of_beqF q1
      have q2 := of_beqT q2
      have q5 : c * et.bytes ≤ 1073741824 := by
        rcases Nat.lt_or_ge 1073741824 (c * et.bytes) with h | h
        · have : Nat.blt 1073741824 (c * et.bytes) = true := by rw [Nat.blt_eq]; exact h
          rw [this] at q5; cases q5
        · exact h
      have q6 : c ≤ 1073741824 := by
        rcases Nat.lt_or_ge 1073741824 c with h | h
        · have : Nat.blt 1073741824 c = true := by rw [Nat.blt_eq]; exact h
          rw [this] at q6; cases q6
        · exact h
      obtain ⟨kl, el⟩ := asNat_V hl (hev _ _ ha)
      obtain ⟨kc, ec⟩ := asNat_V hc (hev _ _ hb)
      have hfr : ρ s.next = none := hf _ (Nat.le_refl _) (Nat.lt_succ_self _)
      have E := tyOf_ok het
      obtain ⟨z', hz1, hz2⟩ := E.run_zero (A := A) w hz
      have hzv := zeros_VL (ofValue_V ρ hz2) c et.size q2 q1
      obtain ⟨i, hi, hib, _⟩ := E.run_bytes (A := A) w
      obtain ⟨w', h3, h4, h6⟩ := newRow_sound (e := elem) hR hfr (Nat.le_of_eq (VL_size hzv)) (VL_get hzv)
      have hmax : IntKind.i64.max = 9223372036854775807 := by decide
      have hmin : IntKind.i64.min = -9223372036854775808 := by decide
      have wl : IntKind.i64.wrap (l : Int) = l := wrap_in (by omega) (by omega)
      have wc : IntKind.i64.wrap (c : Int) = c := wrap_in (by omega) (by omega)
      have big : ((2 : Int) ^ 48) = 281474976710656 := by decide
      have hby : ((et.bytes : Int) * (c : Int)) ≤ 1073741824 := by
        have : ((c * et.bytes : Nat) : Int) ≤ 1073741824 := by omega
        rw [Int.natCast_mul, Int.mul_comm] at this
        exact this
      have : (Instr.makeSlice t (evC ol) (evC oc)).runL A P w = .ok (.slice (some ⟨w.heap.size, 0, none⟩) l c) w' := by
        rw [el, ec]
        unfold Instr.makeSlice
        simp only [runL_bind, (tyOf_ok hty).run_under, hd, Result.andThen_ok, asInt, run_asIntOf, runL_pure, hi, wl, wc]
        rw [if_neg (by
          simp only [hib, big, Bool.or_eq_true, decide_eq_true_eq]
          omega)]
        simp only [runL_bind, runL_askRoom, Result.andThen_ok, E.run_size, Int.toNat_natCast, runL_ite, hz1, runL_pure]
        by_cases hc0 : c * et.size = 0
        · have hlen0 : c = 0 := by
            rcases Nat.eq_zero_or_pos c with h | h
            · exact h
            · exact absurd hc0 (by have := Nat.mul_pos h (Nat.pos_of_ne_zero q1); omega)
          subst hlen0
          simp only [Nat.zero_mul, range0] at h3
          simp only [Nat.zero_mul, if_true, Result.andThen_ok, range0, h3]
        · simp only [hc0, if_false, Result.andThen_ok, h3]
      refine loud_val this ?_ h4 h6
      have := V.slice (ρ := ρ.add s.next ⟨w.heap.size, 0, ((Array.range (c * et.size)).map (z'.cells[· % z'.cells.size]!)).size⟩) (off := 0) (len := l) (cap := c) (c := .exact c) (add_self _ _ _) rfl
      simpa using this
    · cases h
  · -- store
    rename_i t oa ox
    obtain ⟨ty, hty, h_⟩ := bind_some h; clear h; have h := h_; clear h_
    obtain ⟨a, ha, h_⟩ := bind_some h; clear h; have h := h_; clear h_
    obtain ⟨x, hx, h_⟩ := bind_some h; clear h; have h := h_; clear h_
    obtain ⟨hsz, h_⟩ := bif_some h; clear h; have h := h_; clear h_
    have hsz := of_beqT hsz
    have va := hev _ _ ha
    have vc := (hev _ _ hx).cells
    have hsz' : (evC ox).cells.size = ty.size := by rw [← VL_size vc]; exact hsz
    generalize evC oa = a' at va
    have T := tyOf_ok hty
    have e0 : ∀ (ad : Addr) (w' : World), a' = .pointer (some ad) → (storeCells ad (evC ox).cells.toList).runL A P w = .ok () w' → (Instr.storeAt t a' (evC ox)).runL A P w = .ok () w' := by
      intro ad w' e h
      subst e
      unfold Instr.storeAt storeVar
      simp only [Instr.sureAddr, runL_bind, runL_pure, Result.andThen_ok, T.run_size]
      rw [if_neg (by simp [hsz'])]
      exact h
    have hnil : ty.size = 0 → (evC ox).cells.toList = [] := fun e => by
      have : (evC ox).cells = #[] := Array.size_eq_zero_iff.1 (by rw [hsz', e])
      rw [this]
    split at h
    · cases va; rename_i l hl
      cases hz : ty.size.beq 0 with
      | true =>
        rw [hz] at h; cases h
        exact loud_unit (e0 _ w rfl (by rw [hnil (of_beqT hz)]; rfl)) (Step.refl hR) (Aside.refl w)
      | false =>
        rw [hz] at h
        obtain ⟨s1, hs1, h_⟩ := bind_some h; clear h; have h := h_; clear h_
        cases h
        obtain ⟨w', h2, h3, h6⟩ := write_sound hR hl vc hs1
        exact loud_unit (e0 _ w' rfl h2) h3 h6
    · obtain ⟨hz, h_⟩ := bif_some h; clear h; have h := h_; clear h_
      cases h
      cases va
      exact loud_unit (e0 _ w rfl (by rw [hnil (of_beqT hz)]; rfl)) (Step.refl hR) (Aside.refl w)
    · cases h
  · -- mapUpdate
    exact update_sound hR hev h
  · -- insert
    exact update_sound hR hev h
  · -- append
    rename_i args argTypes
    obtain ⟨t, ht, h_⟩ := bind_some h; clear h; have h := h_; clear h_
    obtain ⟨ox, hox, h_⟩ := bind_some h; clear h; have h := h_; clear h_
    obtain ⟨oy, hoy, h_⟩ := bind_some h; clear h; have h := h_; clear h_
    obtain ⟨t1, ht1, h_⟩ := bind_some h; clear h; have h := h_; clear h_
    obtain ⟨x, hx, h_⟩ := bind_some h; clear h; have h := h_; clear h_
    obtain ⟨y, hy, h_⟩ := bind_some h; clear h; have h := h_; clear h_
    obtain ⟨ty, hty, h_⟩ := bind_some h; clear h; have h := h_; clear h_
    obtain ⟨ty1, hty1, h_⟩ := bind_some h; clear h; have h := h_; clear h_
    split at h
    · cases h
    · rename_i elem hd hn
      obtain ⟨et, het, h_⟩ := bind_some h; clear h; have h := h_; clear h_
      obtain ⟨z, hz, h_⟩ := bind_some h; clear h; have h := h_; clear h_
      obtain ⟨hzl, h_⟩ := bif_some h; clear h; have h := h_; clear h_
      refine loud_builtin (x := Builtin.append_ argTypes o.type (args.map evC)) (fun _ => rfl) ?_
      exact aappend_sound hR hf ht ht1 (getElem?_map' hox) (getElem?_map' hoy) (tyOf_ok hty) hd (tyOf_ok hty1) (fun k e => hn k e) (tyOf_ok het) hz (of_beqT hzl) (hev _ _ hx) (hev _ _ hy) h
    · cases h
  · -- copy
    rename_i args argTypes
    obtain ⟨t, ht, h_⟩ := bind_some h; clear h; have h := h_; clear h_
    obtain ⟨ox, hox, h_⟩ := bind_some h; clear h; have h := h_; clear h_
    obtain ⟨oy, hoy, h_⟩ := bind_some h; clear h; have h := h_; clear h_
    obtain ⟨x, hx, h_⟩ := bind_some h; clear h; have h := h_; clear h_
    obtain ⟨y, hy, h_⟩ := bind_some h; clear h; have h := h_; clear h_
    obtain ⟨ty, hty, h_⟩ := bind_some h; clear h; have h := h_; clear h_
    split at h
    · rename_i elem hd
      obtain ⟨et, het, h_⟩ := bind_some h; clear h; have h := h_; clear h_
      refine loud_builtin (x := Builtin.copy_ argTypes o.type (args.map evC)) (fun _ => rfl) ?_
      exact copy_sound hR ht (getElem?_map' hox) (getElem?_map' hoy) (tyOf_ok hty) hd (tyOf_ok het) (hev _ _ hx) (hev _ _ hy) h
    · cases h
  · -- clear
    rename_i args argTypes
    obtain ⟨t, ht, h_⟩ := bind_some h; clear h; have h := h_; clear h_
    obtain ⟨ox, hox, h_⟩ := bind_some h; clear h; have h := h_; clear h_
    obtain ⟨x, hx, h_⟩ := bind_some h; clear h; have h := h_; clear h_
    obtain ⟨ty, hty, h_⟩ := bind_some h; clear h; have h := h_; clear h_
    refine loud_builtin (x := Builtin.clear_ argTypes o.type (args.map evC)) (fun _ => rfl) ?_
    have vx := hev _ _ hx
    have e0 : ∀ {w' : World}, (match ty.desc, evC ox with
        | _, .map none | _, .slice none _ _ | _, .slice _ 0 _ => pure (.tuple #[])
        | _, .map (some r) => do
          let .map _ clock ← getObj r | stuck "clear: map expected"
          setObj r (.map #[] clock)
          pure (.tuple #[])
        | .slice elem, .slice (some a) n _ => do
          storeCells a (Builtin.zeroCells (← zeroValue elem).cells n).toList
          pure (.tuple #[])
        | _, _ => do
          stuck "clear: map or slice expected"
          pure (.tuple #[]) : Sem Value).runL A P w = .ok (.tuple #[]) w' → (Builtin.clear_ argTypes o.type (args.map evC)).runL A P w = .ok (.tuple #[]) w' := by
      intro w' e
      unfold Builtin.clear_
      rw [ht, getElem?_map' hox]
      simp only [runL_bind, (tyOf_ok hty).run_under, Result.andThen_ok]
      exact e
    generalize evC ox = x' at vx e0
    split at h
    · cases h; cases vx
      exact loud_val (e0 (w' := w) (by cases ty.desc <;> rfl)) (.tuple .nil) (Step.refl hR) (Aside.refl w)
    · rename_i elem id off n cap hd
      obtain ⟨et, het, h_⟩ := bind_some h; clear h; have h := h_; clear h_
      obtain ⟨z, hz, h_⟩ := bind_some h; clear h; have h := h_; clear h_
      cases vx; rename_i cap' l hl hc
      cases n with
      | zero =>
        cases h
        exact loud_val (e0 (w' := w) (by rw [hd]; rfl)) (.tuple .nil) (Step.refl hR) (Aside.refl w)
      | succ n =>
        obtain ⟨hzl, h_⟩ := bif_some h; clear h; have h := h_; clear h_
        obtain ⟨s1, hs1, h_⟩ := bind_some h; clear h; have h := h_; clear h_
        cases h
        simp only [Bool.and_eq_true, Bool.not_eq_true'] at hzl
        have q1 := of_beqT hzl.1
        have q2 := of_beqF hzl.2
        obtain ⟨z', hz1, hz2⟩ := (tyOf_ok het).run_zero (A := A) w hz
        have hzv := zeros_VL (ofValue_V ρ hz2) (n + 1) et.size q1 q2
        have hzs : z'.cells.size = et.size := by rw [← VL_size (ofValue_V ρ hz2).cells]; exact q1
        have hzc : Builtin.zeroCells z'.cells (n + 1) = (Array.range ((n + 1) * et.size)).map (z'.cells[· % z'.cells.size]!) := by
          unfold Builtin.zeroCells
          rw [hzs]
        obtain ⟨w', h2, h3, h6⟩ := write_sound hR hl hzv hs1
        refine loud_val (e0 (w' := w') ?_) (.tuple .nil) h3 h6
        rw [hd]
        simp only [runL_bind, hz1, Result.andThen_ok, hzc, h2, runL_pure]
    · cases h
  · -- delete
    rename_i args argTypes
    obtain ⟨t, ht, h_⟩ := bind_some h; clear h; have h := h_; clear h_
    obtain ⟨ox, hox, h_⟩ := bind_some h; clear h; have h := h_; clear h_
    obtain ⟨ok, hok, h_⟩ := bind_some h; clear h; have h := h_; clear h_
    obtain ⟨m, hm, h_⟩ := bind_some h; clear h; have h := h_; clear h_
    obtain ⟨k, hk, h_⟩ := bind_some h; clear h; have h := h_; clear h_
    obtain ⟨ty, hty, h_⟩ := bind_some h; clear h; have h := h_; clear h_
    refine loud_builtin (x := Builtin.delete_ argTypes o.type (args.map evC)) (fun _ => rfl) ?_
    have vm := hev _ _ hm
    have vk := hev _ _ hk
    split at h
    · rename_i kt et id hd
      split at h
      · rename_i es clock hg
        obtain ⟨hak, h_⟩ := bif_some h; clear h; have h := h_; clear h_
        obtain ⟨r, hr, h_⟩ := bind_some h; clear h; have h := h_; clear h_
        generalize hvm : evC ox = m' at vm
        cases vm; rename_i l hl
        obtain ⟨l', hl', es', e1, e2⟩ := hR.obj _ _ hg
        rw [hl] at hl'; cases hl'
        obtain ⟨r', f1, f2⟩ := find_sound (A := A) w vk hak e2 hr
        have hget : (getObj l.b).runL A P w = .ok (.map es' clock) w := runL_getObj w e1 (hR.own _ _ (by rw [hg]; rfl) hl) rfl
        have run0 : ∀ {w' : World}, (match r' with
            | some (i, _) => setObj l.b (.map (es'.eraseIdxIfInBounds i) clock)
            | none => setObj l.b (.map es' clock) : Sem Unit).runL A P w = .ok () w' → (Builtin.delete_ argTypes o.type (args.map evC)).runL A P w = .ok (.tuple #[]) w' := by
          intro w' e
          unfold Builtin.delete_
          rw [ht, getElem?_map' hox, getElem?_map' hok, hvm]
          simp only [runL_bind, (tyOf_ok hty).run_under, hd, Result.andThen_ok, hget, akey_sound w es'.isEmpty 8 10000 kt k (evC ok) (by decide) vk hak, f1]
          cases r' with
          | none => simp only [runL_bind, e, Result.andThen_ok, runL_pure]
          | some x => simp only [runL_bind, e, Result.andThen_ok, runL_pure]
        cases r with
        | some x =>
          cases r' with
          | none => exact f2.elim
          | some x' =>
            obtain ⟨i, u⟩ := x
            obtain ⟨i', u'⟩ := x'
            obtain ⟨rfl, _⟩ := f2
            cases h
            have e3 : EsRel ρ (es.eraseIdx i) (es'.eraseIdxIfInBounds i).toList := by
              have := es_erase i e2
              rw [show (es'.eraseIdxIfInBounds i).toList = es'.toList.eraseIdx i by
                unfold Array.eraseIdxIfInBounds
                split
                · simp
                · rename_i hge
                  rw [List.eraseIdx_of_length_le (by simpa using hge)]]
              exact this
            obtain ⟨w', g1, g2, g3⟩ := map_set hR hg hl e1 e3 (clock' := clock)
            exact loud_val (run0 g1) (.tuple .nil) g2 g3
        | none =>
          cases r' with
          | some x' => exact f2.elim
          | none =>
            cases h
            obtain ⟨w', g1, g2, g3⟩ := map_set hR hg hl e1 e2 (clock' := clock)
            exact loud_val (run0 g1) (.tuple .nil) (g2.of_same hg) g3
      · cases h
    · cases h
  · cases h

end
end Go.Ab

