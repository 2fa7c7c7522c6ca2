/- Own text of this claim: part Ab8. -/
import Derived.Test.YtjffanafmodhdaaGreatDoorAb7
set_option linter.unusedVariables false
set_option linter.unusedSimpArgs false
set_option linter.unusedSectionVars false
set_option linter.unnecessarySimpa false
/-
  Own library, part 8: the quiet operations, all of them.
-/
namespace Go.Ab

variable {A : Nat → Prop}

section
variable {P : Program} {ρ : Map} {s : St} {w : World}

theorem nth_VL {cs : List AV} {cs' : Array Value} {i : Nat} {v : AV} (h : VL ρ cs cs'.toList) (hn : nth cs i = some v) : ∃ y, cs'[i]? = some y ∧ V ρ v y := by
  rw [nth_eq] at hn
  obtain ⟨y, hy, hv⟩ := h.get _ _ hn
  exact ⟨y, by simpa using hy, hv⟩

/-- A variable is read. -/
theorem var_sound (hR : Rel A P ρ s w.heap) {t : TypeId} {ty : ATy} (T : TyOk P t ty) {id off : Nat} {v : AV} {l : Pl} (hl : ρ id = some l)
    (h : (bif ty.agg then (s.read id off ty.size).bind fun l => some (.agg l) else (s.row id).bind fun cs => nth cs off) = some v) :
    ∃ v', (loadVar t ⟨l.b, l.o + off, none⟩).runL A P w = .ok v' w ∧ V ρ v v' := by
  unfold loadVar
  rw [runL_bind, T.run_agg]
  simp only [Result.andThen_ok]
  cases ha : ty.agg with
  | true =>
    rw [ha] at h
    obtain ⟨r, hr, e⟩ := bind_some h
    cases e
    obtain ⟨ys, h1, h2, h3⟩ := row_read hR hr hl
    simp only [if_true, runL_bind, T.run_size, Result.andThen_ok, h3 w rfl, runL_pure]
    exact ⟨_, rfl, .agg (by simpa using h2)⟩
  | false =>
    rw [ha] at h
    obtain ⟨cs, hcs, hn⟩ := bind_some h
    rw [nth_eq] at hn
    obtain ⟨y, hy, hv⟩ := row_cell hR hcs hn hl
    simp only [Bool.false_eq_true, if_false, run_load_cell P hy (row_own hR hcs hl)]
    exact ⟨y, rfl, hv⟩

theorem getElem?_map' {α β : Type} {a : Array α} {f : α → β} {i : Nat} {x : α} (h : a[i]? = some x) : (a.map f)[i]? = some (f x) := by simp [h]

theorem quiet_sound (hR : Rel A P ρ s w.heap) {o : Oper} {evA : Operand → Option AV} {evC : Operand → Value} (hev : ∀ x v, evA x = some v → V ρ v (evC x)) {v : AV} (h : aquiet P o evA s = some v) :
    ∃ v', (execOp evC o).runL A P w = .ok (.value v') w ∧ V ρ v v' := by
  unfold aquiet at h
  unfold execOp
  split at h <;> rename_i heq <;> simp only [heq]
  · -- move
    exact ⟨_, rfl, hev _ _ h⟩
  · exact ⟨_, rfl, hev _ _ h⟩
  · -- pick
    rename_i oc oa ob
    obtain ⟨c, hc, h_⟩ := bind_some h; clear h; have h := h_; clear h_
    obtain ⟨b, hb, h_⟩ := bind_some h; clear h; have h := h_; clear h_
    obtain ⟨x, hx, h_⟩ := bind_some h; clear h; have h := h_; clear h_
    obtain ⟨y, hy, h_⟩ := bind_some h; clear h; have h := h_; clear h_
    have vc := hev _ _ hc
    obtain ⟨b0, rfl⟩ : ∃ b0, c = .bool b0 := by cases c <;> simp [asBoolA] at hb ⊢
    simp only [asBoolA, Option.some.injEq] at hb
    subst hb
    cases h
    generalize hcc : evC oc = cc at vc
    cases vc
    refine ⟨if b0 then evC oa else evC ob, by simp only [asBool, runL_bind, runL_pure, Result.andThen_ok], ?_⟩
    cases b0
    · exact hev _ _ hy
    · exact hev _ _ hx
  · -- build
    obtain ⟨ty, hty, h_⟩ := bind_some h; clear h; have h := h_; clear h_
    obtain ⟨z, hz, h_⟩ := bind_some h; clear h; have h := h_; clear h_
    obtain ⟨vs, hvs, h_⟩ := bind_some h; clear h; have h := h_; clear h_
    have T := tyOf_ok hty
    obtain ⟨z', hz1, hz2⟩ := T.run_zero (A := A) w hz
    have vz := (ofValue_V ρ hz2).cells
    have hp := parts_PRel hev _ _ hvs
    have hp' : ∀ (parts : Array (Nat × Operand)), (parts.map fun (i, x) => (i, evC x)).toList = parts.toList.map fun (i, x) => (i, evC x) := fun parts => by simp
    split at h
    · rename_i fields hd
      obtain ⟨hall, h_⟩ := bif_some h; clear h; have h := h_; clear h_
      obtain ⟨cs, hcs, e⟩ := bind_some h
      cases e
      have sz : ∀ f ∈ fields, ∃ ft, tyOf P f.type = some ft := fun f hf => by
        have := List.all_eq_true.1 hall f (by simpa using hf)
        exact Option.isSome_iff_exists.1 this
      have hm : (fields.mapM fun f => do pure (f.offset, ← sizeOf f.type) : Sem (Array (Nat × Nat))).runL A P w = .ok (fields.map fun f => (f.offset, ((tyOf P f.type).map (·.size)).getD 0)) w := by
        refine run_arrayMapM P w fields fun f hf => ?_
        obtain ⟨ft, hft⟩ := sz f hf
        simp only [runL_bind, (tyOf_ok hft).run_size, Result.andThen_ok, runL_pure, hft, Option.map_some, Option.getD_some]
      obtain ⟨r', h1, h2⟩ := fill_sound (ρ := ρ) (pl' := (fun i => (fields.map fun f => (f.offset, ((tyOf P f.type).map (·.size)).getD 0))[i]?)) (fun i p hi => by
        obtain ⟨f, hf, hi⟩ := bind_some hi
        obtain ⟨ft, hft, hi⟩ := bind_some hi
        cases hi
        unfold fieldOf at hf
        rw [getElem?_map' hf, hft]
        rfl) vs _ z.cells z'.cells cs hp vz hcs
      refine ⟨.agg r', run_val ?_, .agg h2⟩
      unfold Instr.build
      simp only [runL_bind, hz1, Result.andThen_ok, T.run_under, hd, hm, hp', h1, runL_pure]
    · rename_i n elem hd
      obtain ⟨et, het, h_⟩ := bind_some h; clear h; have h := h_; clear h_
      obtain ⟨cs, hcs, e⟩ := bind_some h
      cases e
      have E := tyOf_ok het
      obtain ⟨r', h1, h2⟩ := fill_sound (ρ := ρ) (pl' := fun i => some (i * et.size, et.size)) (fun i p hi => hi) vs _ z.cells z'.cells cs hp vz hcs
      refine ⟨.agg r', run_val ?_, .agg h2⟩
      unfold Instr.build
      simp only [runL_bind, hz1, Result.andThen_ok, T.run_under, hd, E.run_size, hp', h1, runL_pure]
    · cases h
  · -- load
    obtain ⟨ty, hty, h_⟩ := bind_some h; clear h; have h := h_; clear h_
    obtain ⟨a, ha, h_⟩ := bind_some h; clear h; have h := h_; clear h_
    have T := tyOf_ok hty
    have va := hev _ _ ha
    generalize evC _ = a' at va
    split at h
    · cases va; rename_i l hl
      obtain ⟨v', h1, h2⟩ := var_sound hR T hl h
      exact ⟨v', run_val (by simp only [Instr.loadAt, Instr.sureAddr, runL_bind, runL_pure, Result.andThen_ok, h1]), h2⟩
    · cases va
      obtain ⟨hc, e⟩ := bif_some h
      cases e
      simp only [Bool.and_eq_true] at hc
      refine ⟨.agg #[], run_val ?_, .agg .nil⟩
      simp only [Instr.loadAt, Instr.sureAddr, runL_bind, runL_pure, Result.andThen_ok, loadVar, T.run_agg, hc.1, if_true, T.run_size, of_beqT hc.2]
      rfl
    · cases h
  · -- nilCheck
    obtain ⟨a, ha, h_⟩ := bind_some h; clear h; have h := h_; clear h_
    have va := hev _ _ ha
    generalize evC _ = a' at va
    split at h <;> first | (cases h; done) | skip
    all_goals cases h; cases va
    · exact ⟨_, rfl, .ptr ‹_›⟩
    · exact ⟨_, rfl, .ptrz _⟩
    · exact ⟨_, rfl, .iface ‹_›⟩
    · rename_i hf ha hc; cases hf; exact ⟨_, rfl, .func (.func _) ha hc⟩
  · -- binOp
    obtain ⟨a, ha, h_⟩ := bind_some h; clear h; have h := h_; clear h_
    obtain ⟨b, hb, h_⟩ := bind_some h; clear h; have h := h_; clear h_
    obtain ⟨v', h1, h2⟩ := abin_sound (hev _ _ ha) (hev _ _ hb) h w
    exact ⟨v', run_val h1, h2⟩
  · -- unOp
    obtain ⟨a, ha, h_⟩ := bind_some h; clear h; have h := h_; clear h_
    have va := hev _ _ ha
    generalize evC _ = a' at va
    split at h
    · cases h; cases va; exact ⟨_, rfl, .bool _⟩
    · cases h; cases va; exact ⟨_, rfl, by rw [wrapQ_eq]; exact .int _ _⟩
    · cases h
  · -- convert
    rename_i src dst ox
    obtain ⟨a, ha, h_⟩ := bind_some h; clear h; have h := h_; clear h_
    obtain ⟨sy, hsy, h_⟩ := bind_some h; clear h; have h := h_; clear h_
    obtain ⟨ty, hty, h_⟩ := bind_some h; clear h; have h := h_; clear h_
    have va := hev _ _ ha
    generalize evC ox = a' at va
    split at h
    · rename_i k k0 n hd
      cases h; cases va
      refine ⟨_, run_val ?_, .int _ _⟩
      unfold convert
      simp only [runL_bind, (tyOf_ok hsy).run_under, (tyOf_ok hty).run_under, hd, Result.andThen_ok, Conv.intToInt, runL_pure, wrapQ_eq]
    · cases h
  · -- makeInterface
    rename_i t ox
    obtain ⟨a, ha, h_⟩ := bind_some h; clear h; have h := h_; clear h_
    obtain ⟨ty, hty, h_⟩ := bind_some h; clear h; have h := h_; clear h_
    have va := hev _ _ ha
    split at h
    · cases h
    · rename_i hd
      cases h
      refine ⟨_, run_val ?_, .iface va⟩
      unfold Instr.makeInterface
      simp only [runL_bind, (tyOf_ok hty).run_under, Result.andThen_ok]
      rfl
  · -- makeFunc
    rename_i fn first captured
    obtain ⟨a, ha, h_⟩ := bind_some h; clear h; have h := h_; clear h_
    obtain ⟨b, hb, h_⟩ := bind_some h; clear h; have h := h_; clear h_
    split at h
    · cases h
      exact ⟨_, rfl, .func (.func _) (by simpa using mapO_VL hev ha) (by simpa using mapO_VL hev hb)⟩
    · cases h
  · -- fieldAddr
    rename_i st ox i
    obtain ⟨a, ha, h_⟩ := bind_some h; clear h; have h := h_; clear h_
    obtain ⟨ty, hty, h_⟩ := bind_some h; clear h; have h := h_; clear h_
    have va := hev _ _ ha
    generalize evC ox = a' at va
    split at h
    · rename_i fields hd
      obtain ⟨f, hf, h_⟩ := bind_some h; clear h; have h := h_; clear h_
      obtain ⟨ft, hft, h_⟩ := bind_some h; clear h; have h := h_; clear h_
      unfold fieldOf at hf
      split at h
      · rename_i id off
        cases va; rename_i l hl
        have e0 : (Instr.fieldAt st (.pointer (some ⟨l.b, l.o + off, none⟩)) i).runL A P w = ((fieldPlace ⟨l.b, l.o + off, none⟩ f).runL A P w).andThen fun a w => .ok (.pointer (some a)) w := by
          unfold Instr.fieldAt
          simp only [runL_bind, (tyOf_ok hty).run_under, hd, Result.andThen_ok, hf, Instr.sureAddr, runL_pure]
        cases hz : ft.size.beq 0 with
        | false =>
          rw [hz] at h
          cases h
          have hne := of_beqF hz
          refine ⟨_, run_val ?_, .ptr hl⟩
          rw [e0]
          unfold fieldPlace
          simp only [runL_bind, (tyOf_ok hft).run_size, Result.andThen_ok, if_neg hne, add_none, runL_pure]
          rw [Nat.add_assoc]
        | true =>
          rw [hz] at h
          have hz := of_beqT hz
          simp only [cond_true] at h
          split at h
          · rename_i cs e he
            obtain ⟨et, het, h_⟩ := bind_some h; clear h; have h := h_; clear h_
            obtain ⟨h1, h_⟩ := bif_some h; clear h; have h := h_; clear h_
            split at h
            · rename_i b1 b2 eb1 eb2
              cases h
              obtain ⟨l', hl', c, hc, _, _, _⟩ := hR.obj _ _ he
              rw [hl] at hl'; cases hl'
              have ho := (hR.low _ _ hl).2
              have hcz : P.cellsOf e = et.size := by
                obtain ⟨i, hi, hs, _⟩ := (tyOf_ok het).info
                simp [Program.cellsOf, hi, hs]
              have hne : et.size ≠ 0 := by
                have := h1
                simp only [Bool.not_eq_true'] at this
                exact of_beqF this
              have hshape : w.shape? l.b = some (e, c.size) := by simp [World.shape?, hc]
              have hby : ∀ (o : Nat) (b : Nat), byteOfCell P P.depth e (o % et.size) = some b → ∃ n, (byteOf ⟨l.b, l.o + o, none⟩).runL A P w = .ok n w := by
                intro o b hb
                unfold byteOf noView viewAt
                rw [ho, Nat.zero_add]
                simp only [runL_bind, runL_program, Result.andThen_ok, runL_shape, hshape, Option.isSome_some, if_true, runL_pure, Option.isSome_none, Bool.false_eq_true, if_false, hcz, if_neg hne, hb]
                exact ⟨_, rfl⟩
              obtain ⟨n1, e1⟩ := hby off b1 eb1
              obtain ⟨n2, e2⟩ := hby (off + f.offset) b2 eb2
              rw [← Nat.add_assoc] at e2
              have hp : ∃ a, (fieldPlace ⟨l.b, l.o + off, none⟩ f).runL A P w = .ok a w := by
                unfold fieldPlace partAt
                simp only [runL_bind, (tyOf_ok hft).run_size, Result.andThen_ok, hz, if_true, e1, e2, runL_pure]
                exact ⟨_, rfl⟩
              obtain ⟨a, hp⟩ := hp
              exact ⟨_, run_val (by rw [e0, hp]; rfl), .ptrz a⟩
            · cases h
          · cases h
      · cases h
    · cases h
  · -- field
    rename_i t ox i
    obtain ⟨a, ha, h_⟩ := bind_some h; clear h; have h := h_; clear h_
    obtain ⟨ty, hty, h_⟩ := bind_some h; clear h; have h := h_; clear h_
    have va := hev _ _ ha
    generalize evC ox = a' at va
    split at h
    · rename_i fields cs hd
      obtain ⟨f, hf, h_⟩ := bind_some h; clear h; have h := h_; clear h_
      unfold fieldOf at hf
      cases va; rename_i cs' hcs
      obtain ⟨v', h1, h2⟩ := apart_sound (A := A) hcs h w
      refine ⟨v', run_val ?_, h2⟩
      unfold Instr.field
      simp only [runL_bind, (tyOf_ok hty).run_under, hd, Result.andThen_ok, hf, asAgg, runL_pure, h1]
    · cases h
  · -- indexAddr
    rename_i t ox oi
    obtain ⟨a, ha, h_⟩ := bind_some h; clear h; have h := h_; clear h_
    obtain ⟨b, hb, h_⟩ := bind_some h; clear h; have h := h_; clear h_
    obtain ⟨i, hi, h_⟩ := bind_some h; clear h; have h := h_; clear h_
    obtain ⟨ty, hty, h_⟩ := bind_some h; clear h; have h := h_; clear h_
    have va := hev _ _ ha
    generalize evC ox = a' at va
    obtain ⟨k, hk⟩ := asNat_V hi (hev _ _ hb)
    rw [hk]
    split at h
    · rename_i len elem id off hd
      obtain ⟨hlt, h_⟩ := bif_some h; clear h; have h := h_; clear h_
      obtain ⟨et, het, h_⟩ := bind_some h; clear h; have h := h_; clear h_
      cases h; cases va; rename_i l hl
      rw [Nat.blt_eq] at hlt
      refine ⟨_, run_val ?_, .ptr hl⟩
      unfold Instr.indexAt
      simp only [runL_bind, run_asIntOf, (tyOf_ok hty).run_under, hd, Result.andThen_ok, Instr.sureAddr, runL_pure]
      rw [if_pos ⟨by omega, by omega⟩]
      simp only [runL_bind, (tyOf_ok het).run_size, Result.andThen_ok, runL_pure, add_none, Int.toNat_natCast]
      rw [Nat.add_assoc]
    · rename_i elem id off len cap hd
      obtain ⟨hlt, h_⟩ := bif_some h; clear h; have h := h_; clear h_
      obtain ⟨et, het, h_⟩ := bind_some h; clear h; have h := h_; clear h_
      cases h; cases va; rename_i cap' l hl hc
      rw [Nat.blt_eq] at hlt
      refine ⟨_, run_val ?_, .ptr hl⟩
      unfold Instr.indexAt
      simp only [runL_bind, run_asIntOf, (tyOf_ok hty).run_under, hd, Result.andThen_ok, runL_pure]
      rw [if_pos ⟨by omega, by omega⟩]
      simp only [runL_bind, (tyOf_ok het).run_size, Result.andThen_ok, runL_pure, add_none, Int.toNat_natCast]
      rw [Nat.add_assoc]
    · cases h
  · -- index
    rename_i t ox oi
    obtain ⟨a, ha, h_⟩ := bind_some h; clear h; have h := h_; clear h_
    obtain ⟨b, hb, h_⟩ := bind_some h; clear h; have h := h_; clear h_
    obtain ⟨i, hi, h_⟩ := bind_some h; clear h; have h := h_; clear h_
    obtain ⟨ty, hty, h_⟩ := bind_some h; clear h; have h := h_; clear h_
    have va := hev _ _ ha
    generalize evC ox = a' at va
    obtain ⟨k, hk⟩ := asNat_V hi (hev _ _ hb)
    rw [hk]
    split at h
    · rename_i len elem cs hd
      obtain ⟨hlt, h_⟩ := bif_some h; clear h; have h := h_; clear h_
      obtain ⟨et, het, h_⟩ := bind_some h; clear h; have h := h_; clear h_
      cases va; rename_i cs' hcs
      rw [Nat.blt_eq] at hlt
      obtain ⟨v', h1, h2⟩ := apart_sound (A := A) hcs h w
      refine ⟨v', run_val ?_, h2⟩
      unfold Instr.index
      simp only [runL_bind, run_asIntOf, (tyOf_ok hty).run_under, hd, Result.andThen_ok]
      rw [if_pos ⟨by omega, by omega⟩]
      simp only [runL_bind, (tyOf_ok het).run_size, Result.andThen_ok, Int.toNat_natCast, h1]
    · rename_i bs hd
      split at h
      · rename_i x hx
        cases h; cases va
        refine ⟨_, run_val ?_, .int _ _⟩
        unfold Instr.index
        simp only [runL_bind, run_asIntOf, (tyOf_ok hty).run_under, hd, Result.andThen_ok]
        rw [if_pos (by omega), Int.toNat_natCast, hx]
        rfl
      · cases h
    · cases h
  · -- slice
    rename_i t ox lo hi mx
    obtain ⟨a, ha, h_⟩ := bind_some h; clear h; have h := h_; clear h_
    obtain ⟨lo', hlo, h_⟩ := bind_some h; clear h; have h := h_; clear h_
    obtain ⟨hi', hhi, h_⟩ := bind_some h; clear h; have h := h_; clear h_
    obtain ⟨mx', hmx, h_⟩ := bind_some h; clear h; have h := h_; clear h_
    obtain ⟨l, hl, h_⟩ := bind_some h; clear h; have h := h_; clear h_
    obtain ⟨ty, hty, h_⟩ := bind_some h; clear h; have h := h_; clear h_
    have va := hev _ _ ha
    have vlo := optA_sound hev hlo
    have vhi := optA_sound hev hhi
    have vmx := optA_sound hev hmx
    generalize evC ox = a' at va
    generalize lo.map evC = lo'' at vlo
    generalize hi.map evC = hi'' at vhi
    generalize mx.map evC = mx'' at vmx
    have T := tyOf_ok hty
    split at h
    · -- string
      rename_i bs hd
      cases mx'' with
      | some m => exact vmx.elim
      | none =>
        obtain ⟨hh, ehh, h_⟩ := bind_some h; clear h; have h := h_; clear h_
        obtain ⟨hc, h_⟩ := bif_some h; clear h; have h := h_; clear h_
        cases h; cases va
        simp only [Bool.and_eq_true, Nat.ble_eq] at hc
        refine ⟨_, run_val ?_, .str _⟩
        unfold Instr.sliceAt Instr.slice
        simp only [runL_bind, T.run_under, hd, Result.andThen_ok, Option.isSome_none, Bool.false_eq_true, if_false]
        rw [bounds_sound vlo vhi hl ehh hc.1 hc.2]
        rfl
    · -- array
      rename_i n elem id off hd
      cases mx'' with
      | some m => exact vmx.elim
      | none =>
        obtain ⟨hh, ehh, h_⟩ := bind_some h; clear h; have h := h_; clear h_
        obtain ⟨et, het, h_⟩ := bind_some h; clear h; have h := h_; clear h_
        obtain ⟨hc, h_⟩ := bif_some h; clear h; have h := h_; clear h_
        cases h; cases va; rename_i p hp
        simp only [Bool.and_eq_true, Nat.ble_eq] at hc
        have e0 : (Instr.sliceAt t (.pointer (some ⟨p.b, p.o + off, none⟩)) lo'' hi'' none).runL A P w = .ok (.slice (some ⟨p.b, p.o + (bif n.beq l then off else off + l * et.size), none⟩) (hh - l) (n - l)) w := by
          unfold Instr.sliceAt
          simp only [runL_bind, T.run_under, hd, Result.andThen_ok, Instr.sureAddr, runL_pure]
          rw [bounds_sound vlo vhi hl ehh hc.1 hc.2]
          simp only [Result.andThen_ok, (tyOf_ok het).run_size, add_none]
          cases hb : n.beq l with
          | true => rw [if_pos (of_beqT hb)]; rfl
          | false => rw [if_neg (of_beqF hb)]; simp only [cond_false, Nat.add_assoc]
        exact ⟨_, run_val e0, .slice hp rfl⟩
    · -- a nil slice
      rename_i elem hd
      cases mx'' with
      | some m => exact vmx.elim
      | none =>
        obtain ⟨et, het, h_⟩ := bind_some h; clear h; have h := h_; clear h_
        obtain ⟨hh, ehh, h_⟩ := bind_some h; clear h; have h := h_; clear h_
        obtain ⟨hc, h_⟩ := bif_some h; clear h; have h := h_; clear h_
        cases h; cases va
        simp only [Bool.and_eq_true] at hc
        have h1 := of_beqT hc.1
        have h2 := of_beqT hc.2
        refine ⟨_, run_val (v := .slice none 0 0) ?_, .nils⟩
        unfold Instr.sliceAt Instr.slice
        simp only [runL_bind, T.run_under, hd, Result.andThen_ok]
        rw [bounds_sound vlo vhi hl ehh (by omega) (by omega)]
        simp only [Result.andThen_ok, (tyOf_ok het).run_size, runL_pure, h1, h2]
        rfl
    · -- a nil slice, its capacity named
      rename_i elem m hd
      obtain ⟨et, het, h_⟩ := bind_some h; clear h; have h := h_; clear h_
      obtain ⟨mm, hmm, h_⟩ := bind_some h; clear h; have h := h_; clear h_
      obtain ⟨hh, ehh, h_⟩ := bind_some h; clear h; have h := h_; clear h_
      obtain ⟨hc, h_⟩ := bif_some h; clear h; have h := h_; clear h_
      cases h; cases va
      simp only [Bool.and_eq_true] at hc
      have h1 := of_beqT hc.1.1
      have h2 := of_beqT hc.1.2
      have h3 := of_beqT hc.2
      cases hi' with
      | none => cases ehh
      | some hv =>
        cases hi'' with
        | none => exact vhi.elim
        | some hv' =>
          cases mx'' with
          | none => exact vmx.elim
          | some m' =>
            refine ⟨_, run_val (v := .slice none 0 0) ?_, .nils⟩
            unfold Instr.sliceAt Instr.slice
            simp only [runL_bind, T.run_under, hd, Result.andThen_ok]
            rw [boundsT_sound vlo vhi vmx hl ehh hmm (by omega) (by omega) (by omega)]
            simp only [Result.andThen_ok, (tyOf_ok het).run_size, runL_pure, h1, h2, h3]
            rfl
    · -- a slice
      rename_i elem id off len cap hd
      cases mx'' with
      | some m => exact vmx.elim
      | none =>
        obtain ⟨hh, ehh, h_⟩ := bind_some h; clear h; have h := h_; clear h_
        obtain ⟨et, het, h_⟩ := bind_some h; clear h; have h := h_; clear h_
        obtain ⟨hc, h_⟩ := bif_some h; clear h; have h := h_; clear h_
        simp only [Bool.and_eq_true, Nat.ble_eq] at hc
        cases va; rename_i cap' p hp hcap
        have e0 : ∀ c', hh ≤ c' → cap' = c' → (Instr.sliceAt t (.slice (some ⟨p.b, p.o + off, none⟩) len cap') lo'' hi'' none).runL A P w = .ok (.slice (some (if c' = l then ⟨p.b, p.o + off, none⟩ else ⟨p.b, p.o + off + l * et.size, none⟩)) (hh - l) (c' - l)) w := by
          intro c' hle e
          subst e
          unfold Instr.sliceAt Instr.slice
          simp only [runL_bind, T.run_under, hd, Result.andThen_ok]
          rw [bounds_sound vlo vhi hl ehh hc.1 hle]
          simp only [Result.andThen_ok, (tyOf_ok het).run_size, runL_pure]
          split <;> simp [add_none]
        cases cap with
        | exact c =>
          cases h
          have hcap : cap' = c := hcap
          refine ⟨_, run_val (e0 c hc.2 hcap), ?_⟩
          cases hb : c.beq l with
          | true => rw [if_pos (of_beqT hb)]; exact .slice hp rfl
          | false => rw [if_neg (of_beqF hb), Nat.add_assoc]; exact .slice hp rfl
        | loose c sz =>
          obtain ⟨hq, h_⟩ := bif_some h; clear h; have h := h_; clear h_
          cases h
          simp only [Bool.and_eq_true, Bool.or_eq_true, Nat.blt_eq] at hq
          obtain ⟨hsz, hlc⟩ := hq
          have hsz := of_beqT hsz
          obtain ⟨hc1, hc2⟩ : c ≤ cap' ∧ off + cap' * sz ≤ p.c := hcap
          refine ⟨_, run_val (e0 cap' (Nat.le_trans hc.2 hc1) rfl), ?_⟩
          have hlh : l ≤ cap' := Nat.le_trans hc.1 (Nat.le_trans hc.2 hc1)
          have hcl : VCap p (off + l * et.size) (.loose (c - l) sz) (cap' - l) := by
            refine ⟨by omega, ?_⟩
            rw [← hsz, Nat.add_assoc, ← Nat.add_mul, Nat.add_sub_cancel' hlh]
            exact hc2
          by_cases e : cap' = l
          · rw [if_pos e]
            rcases hlc with h0 | h0
            · have h0 := of_beqT h0
              subst h0
              have := V.slice (len := hh - 0) hp hcl
              simpa using this
            · omega
          · rw [if_neg e, Nat.add_assoc]
            exact .slice hp hcl
    · -- a slice with its capacity named
      rename_i elem id off len cap m hd
      obtain ⟨mm, hmm, h_⟩ := bind_some h; clear h; have h := h_; clear h_
      obtain ⟨hh, ehh, h_⟩ := bind_some h; clear h; have h := h_; clear h_
      obtain ⟨et, het, h_⟩ := bind_some h; clear h; have h := h_; clear h_
      obtain ⟨hc, h_⟩ := bif_some h; clear h; have h := h_; clear h_
      simp only [Bool.and_eq_true, Nat.ble_eq] at hc
      cases h
      cases va; rename_i cap' p hp hcap
      cases hi' with
      | none => cases ehh
      | some hv =>
        cases hi'' with
        | none => exact vhi.elim
        | some hv' =>
          cases mx'' with
          | none => exact vmx.elim
          | some m' =>
            have hle : capOf cap ≤ cap' := by
              cases cap with
              | exact c => exact Nat.le_of_eq (Eq.symm hcap)
              | loose c sz => exact hcap.1
            refine ⟨.slice (some (if mm = l then ⟨p.b, p.o + off, none⟩ else ⟨p.b, p.o + off + l * et.size, none⟩)) (hh - l) (mm - l), run_val ?_, ?_⟩
            · unfold Instr.sliceAt Instr.slice
              simp only [runL_bind, T.run_under, hd, Result.andThen_ok]
              rw [boundsT_sound vlo vhi vmx hl ehh hmm hc.1.1 hc.1.2 (Nat.le_trans hc.2 hle)]
              simp only [Result.andThen_ok, (tyOf_ok het).run_size, runL_pure]
              split <;> simp [add_none]
            · cases hb : mm.beq l with
              | true => rw [if_pos (of_beqT hb)]; exact .slice hp rfl
              | false => rw [if_neg (of_beqF hb), Nat.add_assoc]; exact .slice hp rfl
    · cases h
  · -- lookup
    rename_i t ox ok oc
    obtain ⟨a, ha, h_⟩ := bind_some h; clear h; have h := h_; clear h_
    obtain ⟨k, hk, h_⟩ := bind_some h; clear h; have h := h_; clear h_
    obtain ⟨ty, hty, h_⟩ := bind_some h; clear h; have h := h_; clear h_
    have va := hev _ _ ha
    have vk := hev _ _ hk
    generalize evC ox = a' at va
    generalize evC ok = k' at vk
    split at h
    · rename_i kt et hd
      obtain ⟨hak, h_⟩ := bif_some h; clear h; have h := h_; clear h_
      obtain ⟨r, hr, h_⟩ := bind_some h; clear h; have h := h_; clear h_
      obtain ⟨r2, hr2, h_⟩ := bind_some h; clear h; have h := h_; clear h_
      cases h
      have tail : ∀ (es' : Array MapEntry) (r' : Option (Nat × Value)), (Instr.findKey kt k' es'.toList).runL A P w = .ok r' w → FRel ρ r r' → ∃ v', (do
          Instr.checkKey es'.isEmpty 10000 kt k'
          let l ← Instr.findKey kt k' es'.toList
          match l with
            | some (_, v) => do
              let x ← pure (v, true)
              pure (if oc = true then Value.tuple #[x.fst, Value.bool x.snd] else x.fst)
            | none => do
              let l ← zeroValue et
              let x ← pure (l, false)
              pure (if oc = true then Value.tuple #[x.fst, Value.bool x.snd] else x.fst) : Sem Value).runL A P w = .ok v' w ∧ V ρ (bif oc then .tuple [r2.1, .bool r2.2] else r2.1) v' := by
        intro es' r' e2 e3
        simp only [runL_bind, akey_sound w es'.isEmpty 8 10000 kt k k' (by decide) vk hak, Result.andThen_ok, e2]
        cases r with
        | some x =>
          cases r' with
          | none => exact e3.elim
          | some x' =>
            obtain ⟨j, u⟩ := x
            obtain ⟨j', u'⟩ := x'
            cases hr2
            refine ⟨_, rfl, ?_⟩
            cases oc
            · exact e3.2
            · exact .tuple (.cons e3.2 (.cons (.bool _) .nil))
        | none =>
          cases r' with
          | some x' => exact e3.elim
          | none =>
            obtain ⟨ety, hety, hr3⟩ := bind_some hr2
            obtain ⟨z, hz, hr4⟩ := bind_some hr3
            cases hr4
            obtain ⟨z', hz1, hz2⟩ := (tyOf_ok hety).run_zero (A := A) w hz
            simp only [runL_bind, hz1, Result.andThen_ok, runL_pure]
            refine ⟨_, rfl, ?_⟩
            cases oc
            · exact ofValue_V ρ hz2
            · exact .tuple (.cons (ofValue_V ρ hz2) (.cons (.bool _) .nil))
      cases a <;> simp only [reduceCtorEq, Option.some.injEq] at hr
      · rename_i id
        cases va; rename_i l hl
        split at hr
        · rename_i es clock hg
          obtain ⟨l', hl', es', e1, e2⟩ := hR.obj _ _ hg
          rw [hl] at hl'; cases hl'
          obtain ⟨r', e3, e4⟩ := find_sound (A := A) w vk hak e2 hr
          obtain ⟨v', h1, h2⟩ := tail es' r' e3 e4
          refine ⟨v', run_val ?_, h2⟩
          unfold Instr.lookup
          rw [runL_bind, (tyOf_ok hty).run_under]
          simp only [Result.andThen_ok, hd]
          rw [runL_bind]
          have : (getObj l.b).runL A P w = .ok (.map es' clock) w := runL_getObj w e1 (hR.own _ _ (by rw [hg]; rfl) hl) rfl
          rw [this]
          exact h1
        · cases hr
      · subst hr
        cases va
        obtain ⟨kty, hkty⟩ := afind_ty hak
        obtain ⟨v', h1, h2⟩ := tail #[] none (by unfold Instr.findKey; rw [runL_bind, (tyOf_ok hkty).run_under]; rfl) trivial
        refine ⟨v', run_val ?_, h2⟩
        unfold Instr.lookup
        rw [runL_bind, (tyOf_ok hty).run_under]
        simp only [Result.andThen_ok, hd]
        exact h1
    · cases h
  · -- extract
    rename_i ot i
    obtain ⟨a, ha, h_⟩ := bind_some h; clear h; have h := h_; clear h_
    have va := hev _ _ ha
    generalize evC ot = a' at va
    split at h
    · cases va; rename_i vs vs' hvs
      obtain ⟨y, hy, hv⟩ := nth_VL hvs h
      exact ⟨y, run_val (by simp [Instr.extract, hy]), hv⟩
    · cases h
  · -- len
    rename_i args argTypes
    obtain ⟨t, ht, h_⟩ := bind_some h; clear h; have h := h_; clear h_
    obtain ⟨x, hx, h_⟩ := bind_some h; clear h; have h := h_; clear h_
    obtain ⟨a, ha, h_⟩ := bind_some h; clear h; have h := h_; clear h_
    obtain ⟨ty, hty, h_⟩ := bind_some h; clear h; have h := h_; clear h_
    have va := hev _ _ ha
    have key : ∀ v', (Builtin.len_ argTypes o.type (args.map evC)).runL A P w = .ok v' w → (do
        let d ← resolve evC { callee := .builtin .len, args, argTypes } o.type
        invoke d.target d.args).runL A P w = .ok (.value v') w := by
      intro v' e
      simp only [resolve, runL_bind, runL_pure, Result.andThen_ok, invoke, builtin, e]
    have e0 : ∀ v', (match ty.desc, evC x with
        | .string, .string s => pure (goInt s.size)
        | .array n _, _ => pure (goInt n)
        | .pointer arr, _ => do
          let .array n _ ← underlying arr | stuck "len: pointer to array expected"
          pure (goInt n)
        | .slice _, .slice _ n _ => pure (goInt n)
        | .map _ _, .map none | .chan _ _, .chan none => pure (goInt 0)
        | .map _ _, .map (some r) => do
          let .map entries _ ← getObj r | stuck "len: map expected"
          pure (goInt entries.size)
        | .chan _ _, .chan (some r) => do
          let .chan _ buf _ _ _ timer ← getObj r | stuck "len: channel expected"
          pure (goInt (if timer then 0 else buf.size))
        | _, _ => stuck "len: string, array, pointer to array, slice, map or channel expected" : Sem Value).runL A P w = .ok v' w → (Builtin.len_ argTypes o.type (args.map evC)).runL A P w = .ok v' w := by
      intro v' e
      unfold Builtin.len_
      rw [ht, getElem?_map' hx]
      simp only [runL_bind, (tyOf_ok hty).run_under, Result.andThen_ok]
      exact e
    generalize evC x = a' at va e0
    generalize ty.desc = dd at h e0
    split at h
    · cases h; cases va; exact ⟨_, key _ (e0 _ rfl), .int _ _⟩
    · cases h; cases va; exact ⟨_, key _ (e0 _ rfl), .int _ _⟩
    · cases h; cases va; exact ⟨_, key _ (e0 _ rfl), .int _ _⟩
    · cases h; exact ⟨_, key _ (e0 _ rfl), .int _ _⟩
    · cases h; cases va; exact ⟨_, key _ (e0 _ rfl), .int _ _⟩
    · split at h
      · rename_i es clock hg
        cases h; cases va; rename_i l hl
        obtain ⟨l', hl', es', e1, e2⟩ := hR.obj _ _ hg
        rw [hl] at hl'; cases hl'
        have hlen : ∀ {es : List (AV × AV × Nat)} {es' : List MapEntry}, EsRel ρ es es' → es.length = es'.length := by
          intro es
          induction es with
          | nil => intro es' h; cases es' with
            | nil => rfl
            | cons _ _ => exact h.elim
          | cons e es ih => intro es' h; cases es' with
            | nil => exact h.elim
            | cons e' es' => simp [ih h.2]
        have hl2 := hlen e2
        refine ⟨goInt es'.size, key _ (e0 _ ?_), ?_⟩
        · simp only [runL_bind, runL_getObj w e1 (hR.own _ _ (by rw [hg]; rfl) hl) rfl, Result.andThen_ok, runL_pure]
        · rw [hl2]; simp only [Array.length_toList]; exact .int _ _
      · cases h
    · cases h
  · -- min
    rename_i args argTypes
    split at h
    · rename_i x y hxy
      obtain ⟨a, ha, h_⟩ := bind_some h; clear h; have h := h_; clear h_
      obtain ⟨b, hb, h_⟩ := bind_some h; clear h; have h := h_; clear h_
      have va := hev _ _ ha
      have vb := hev _ _ hb
      have hargs : (args.map evC).toList = [evC x, evC y] := by simp [hxy]
      generalize evC x = a' at va hargs
      generalize evC y = b' at vb hargs
      split at h
      · cases h; cases va; cases vb
        rename_i k n _ m
        refine ⟨.int k (if m < n then m else n), ?_, ?_⟩
        · simp only [resolve, runL_bind, runL_pure, Result.andThen_ok, invoke, builtin, Builtin.min_, hargs, List.foldlM_cons, List.foldlM_nil, Builtin.min2]
        · rw [ilt_eq]
          by_cases e : m < n
          · simp only [e, decide_true, cond_true, if_true]; exact .int _ _
          · simp only [e, decide_false, cond_false, if_false]; exact .int _ _
      · cases h
    · cases h
  · -- max
    rename_i args argTypes
    split at h
    · rename_i x y hxy
      obtain ⟨a, ha, h_⟩ := bind_some h; clear h; have h := h_; clear h_
      obtain ⟨b, hb, h_⟩ := bind_some h; clear h; have h := h_; clear h_
      have va := hev _ _ ha
      have vb := hev _ _ hb
      have hargs : (args.map evC).toList = [evC x, evC y] := by simp [hxy]
      generalize evC x = a' at va hargs
      generalize evC y = b' at vb hargs
      split at h
      · cases h; cases va; cases vb
        rename_i k n _ m
        refine ⟨.int k (if m > n then m else n), ?_, ?_⟩
        · simp only [resolve, runL_bind, runL_pure, Result.andThen_ok, invoke, builtin, Builtin.max_, hargs, List.foldlM_cons, List.foldlM_nil, Builtin.max2]
        · rw [ilt_eq]
          by_cases e : n < m
          · simp only [e, decide_true, cond_true, if_true]; exact .int _ _
          · simp only [e, decide_false, cond_false, if_false]; exact .int _ _
      · cases h
    · cases h
  · cases h

end
end Go.Ab

