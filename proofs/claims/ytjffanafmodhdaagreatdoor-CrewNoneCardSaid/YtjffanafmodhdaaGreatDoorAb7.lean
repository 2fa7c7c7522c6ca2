/- Own text of this claim: part Ab7. -/
import Derived.Test.YtjffanafmodhdaaGreatDoorAb6
set_option linter.unusedVariables false
set_option linter.unusedSimpArgs false
set_option linter.unusedSectionVars false
set_option linter.unnecessarySimpa false
/-
  Own library, part 7: the quiet operations.
-/
namespace Go.Ab

variable {A : Nat → Prop}

theorem run_val {P : Program} {s : Sem Value} {w w' : World} {v : Value} (h : s.runL A P w = .ok v w') : (do pure (Next.value (← s)) : Sem Next).runL A P w = .ok (.value v) w' := by
  simp [h]

theorem asNat_V {ρ : Map} {v : AV} {v' : Value} {n : Nat} (h : asNat v = some n) (hv : V ρ v v') : ∃ k, v' = .int k (n : Int) := by
  unfold asNat at h
  split at h
  · cases h; cases hv; exact ⟨_, rfl⟩
  · cases h

theorem run_asIntOf (P : Program) (k : IntKind) (n : Int) (w : World) : (asIntOf (.int k n)).runL A P w = .ok (k, n) w := rfl

theorem guard_free {P : Program} {op : BinOp} {t : TypeId} {x y : Operand} {a b : AV} {a' b' : Value} {ρ : Map} (ha : V ρ a a') (hb : V ρ b b') (h : eqFree P t a b = true) (w : World) : (eqGuard op t x y a' b').runL A P w = .ok () w := by
  unfold eqGuard
  cases ha <;> cases hb <;> simp only [eqFree, Bool.false_eq_true, Bool.not_eq_true'] at h <;> (try (cases op <;> rfl))
  cases op <;> simp [h] <;> rfl

theorem abin_sound {P : Program} {ρ : Map} {op : BinOp} {t : TypeId} {ox oy : Operand} {x y v : AV} {x' y' : Value} (hx : V ρ x x') (hy : V ρ y y') (h : abin P op t x y = some v) (w : World) :
    ∃ v', (do eqGuard op t ox oy x' y'; binOp op t x' y' : Sem Value).runL A P w = .ok v' w ∧ V ρ v v' := by
  unfold abin at h
  split at h
  · rename_i k a k' b
    cases hx; cases hy
    have hg : (eqGuard op t ox oy (.int k a) (.int k' b)).runL A P w = .ok () w := by cases op <;> rfl
    rw [runL_bind, hg]
    simp only [Result.andThen_ok]
    cases op
    case shl =>
      obtain ⟨h1, h⟩ := bif_none h
      cases h
      rw [ilt_eq, decide_eq_false_iff_not] at h1
      refine ⟨_, ?_, .int _ _⟩
      simp [binOp, Op.shift, h1, wrapQ_eq]
    case shr =>
      obtain ⟨h1, h⟩ := bif_none h
      cases h
      rw [ilt_eq, decide_eq_false_iff_not] at h1
      refine ⟨_, ?_, .int _ _⟩
      simp [binOp, Op.shift, h1]
    all_goals
      obtain ⟨h1, hq⟩ := bif_some h
      clear h
      have h1 := ieqk_eq h1
      subst h1
      simp only [binOp, ne_eq, not_true_eq_false, if_false]
    case add => cases hq; exact ⟨_, by simp [Op.intArith, wrapQ_eq], .int _ _⟩
    case sub => cases hq; exact ⟨_, by simp [Op.intArith, wrapQ_eq], .int _ _⟩
    case mul => cases hq; exact ⟨_, by simp [Op.intArith, wrapQ_eq], .int _ _⟩
    case quo =>
      obtain ⟨h1, h⟩ := bif_none hq
      cases h
      rw [ieq_eq] at h1
      exact ⟨_, by simp [Op.intDiv, wrapQ_eq, (by simpa using h1 : ¬ b = 0)], .int _ _⟩
    case rem =>
      obtain ⟨h1, h⟩ := bif_none hq
      cases h
      rw [ieq_eq] at h1
      exact ⟨_, by simp [Op.intDiv, (by simpa using h1 : ¬ b = 0)], .int _ _⟩
    case and => cases hq; exact ⟨_, by simp [Op.intBits], .int _ _⟩
    case or => cases hq; exact ⟨_, by simp [Op.intBits], .int _ _⟩
    case xor => cases hq; exact ⟨_, by simp [Op.intBits], .int _ _⟩
    case andNot => cases hq; exact ⟨_, by simp [Op.intBits], .int _ _⟩
    case eql => cases hq; exact ⟨_, by simp [Op.intCmp, ieq_eq], .bool _⟩
    case neq => cases hq; exact ⟨_, by simp only [Op.intCmp, ieq_eq]; rfl, .bool _⟩
    case lss => cases hq; exact ⟨_, by simp [Op.intCmp, ilt_eq], .bool _⟩
    case leq => cases hq; exact ⟨.bool (decide (a ≤ b)), rfl, by rw [ilt_eq, show (!decide (b < a)) = decide (a ≤ b) by rw [Bool.eq_iff_iff]; simp]; exact .bool _⟩
    case gtr => cases hq; exact ⟨_, by simp [Op.intCmp, ilt_eq], .bool _⟩
    case geq => cases hq; exact ⟨.bool (decide (a ≥ b)), rfl, by rw [ilt_eq, show (!decide (a < b)) = decide (a ≥ b) by rw [Bool.eq_iff_iff]; simp]; exact .bool _⟩
    all_goals cases hq
  · rename_i a b
    cases hx; cases hy
    have hg : (eqGuard op t ox oy (.string a) (.string b)).runL A P w = .ok () w := by cases op <;> rfl
    rw [runL_bind, hg]
    simp only [Result.andThen_ok]
    cases op <;> simp only [reduceCtorEq, Option.some.injEq] at h <;> subst h
    · exact ⟨_, rfl, .bool _⟩
    · exact ⟨_, rfl, .bool _⟩
  · rename_i n1 n2
    cases op <;> simp only [reduceCtorEq] at h
    case eql =>
      obtain ⟨h1, h⟩ := bif_some h
      obtain ⟨r, hr, h⟩ := bind_some h
      cases h
      rw [runL_bind, guard_free hx hy h1]
      simp only [Result.andThen_ok]
      refine ⟨.bool r, ?_, .bool _⟩
      have e := aeq_sound (A := A) w 8 Op.maxDepth t x y x' y' r (by decide) hx hy hr
      cases hx <;> cases hy <;> first
        | (exfalso; exact n1 _ _ _ _ rfl rfl)
        | (exfalso; exact n2 _ _ rfl rfl)
        | (simp only [binOp, Op.equal, runL_bind, e, Result.andThen_ok, runL_pure]; done)
    case neq =>
      obtain ⟨h1, h⟩ := bif_some h
      obtain ⟨r, hr, h⟩ := bind_some h
      cases h
      rw [runL_bind, guard_free hx hy h1]
      simp only [Result.andThen_ok]
      refine ⟨.bool (!r), ?_, .bool _⟩
      have e := aeq_sound (A := A) w 8 Op.maxDepth t x y x' y' r (by decide) hx hy hr
      cases hx <;> cases hy <;> first
        | (exfalso; exact n1 _ _ _ _ rfl rfl)
        | (exfalso; exact n2 _ _ rfl rfl)
        | (simp only [binOp, Op.equal, runL_bind, e, Result.andThen_ok, runL_pure]; done)

theorem bound_sound {P : Program} {ρ : Map} {v : AV} {v' : Value} {n y : Nat} {code : BoundsCode} (h : asNat v = some n) (hv : V ρ v v') (hn : n ≤ y) (w : World) : (Instr.sliceBound v' y code).runL A P w = .ok n w := by
  obtain ⟨k, rfl⟩ := asNat_V h hv
  unfold Instr.sliceBound
  rw [runL_bind, run_asIntOf]
  simp only [Result.andThen_ok]
  rw [if_pos ⟨by omega, by omega⟩]
  simp

/-- An optional bound. -/
def ORelV (ρ : Map) : Option AV → Option Value → Prop
  | none, none => True
  | some v, some v' => V ρ v v'
  | _, _ => False

theorem optA_sound {ρ : Map} {evA : Operand → Option AV} {evC : Operand → Value} (hev : ∀ x v, evA x = some v → V ρ v (evC x)) {o : Option Operand} {r : Option AV} (h : optA evA o = some r) : ORelV ρ r (o.map evC) := by
  cases o with
  | none => simp [optA] at h; subst h; trivial
  | some x =>
    simp only [optA] at h
    obtain ⟨v, hv, e⟩ := bind_some h
    cases e
    exact hev _ _ hv

theorem bounds_sound {P : Program} {ρ : Map} {isSlice : Bool} {len cap l h : Nat} {lo hi : Option AV} {lo' hi' : Option Value} (hlo : ORelV ρ lo lo') (hhi : ORelV ρ hi hi')
    (el : boundA 0 lo = some l) (eh : boundA len hi = some h) (h1 : l ≤ h) (h2 : h ≤ cap) (w : World) :
    (Instr.sliceBounds isSlice len cap lo' hi' none).runL A P w = .ok (l, h, cap) w := by
  unfold Instr.sliceBounds
  simp only [runL_bind, runL_pure, Result.andThen_ok, Option.isSome_none, Bool.false_eq_true, if_false]
  cases hi with
  | none =>
    cases hi' with
    | some v => exact hhi.elim
    | none =>
      cases eh
      cases lo with
      | none => cases lo' with
        | some v => exact hlo.elim
        | none => cases el; simp only [runL_bind, runL_pure, Result.andThen_ok]
      | some v => cases lo' with
        | none => exact hlo.elim
        | some v' => simp only [runL_bind, runL_pure, Result.andThen_ok, bound_sound (code := .sliceB) el hlo h1 w]
  | some u =>
    cases hi' with
    | none => exact hhi.elim
    | some u' =>
      simp only [runL_bind]
      rw [bound_sound eh hhi h2 w]
      cases lo with
      | none => cases lo' with
        | some v => exact hlo.elim
        | none => cases el; simp only [runL_bind, runL_pure, Result.andThen_ok]
      | some v => cases lo' with
        | none => exact hlo.elim
        | some v' => simp only [runL_bind, runL_pure, Result.andThen_ok, bound_sound (code := .sliceB) el hlo h1 w]

theorem boundsT_sound {P : Program} {ρ : Map} {len cap l h m : Nat} {lo : Option AV} {hi mx : AV} {lo' : Option Value} {hi' mx' : Value} (hlo : ORelV ρ lo lo') (hhi : V ρ hi hi') (hmx : V ρ mx mx')
    (el : boundA 0 lo = some l) (eh : asNat hi = some h) (em : asNat mx = some m) (h1 : l ≤ h) (h2 : h ≤ m) (h3 : m ≤ cap) (w : World) :
    (Instr.sliceBounds true len cap lo' (some hi') (some mx')).runL A P w = .ok (l, h, m) w := by
  unfold Instr.sliceBounds
  simp only [runL_bind, if_true, Option.isSome_some]
  rw [bound_sound em hmx h3]
  simp only [Result.andThen_ok]
  rw [bound_sound eh hhi h2]
  simp only [Result.andThen_ok]
  cases lo with
  | none => cases lo' with
    | some v => exact hlo.elim
    | none => cases el; simp only [runL_bind, runL_pure, Result.andThen_ok]
  | some v => cases lo' with
    | none => exact hlo.elim
    | some v' => simp only [runL_bind, runL_pure, Result.andThen_ok, bound_sound (code := .slice3C) el hlo h1 w]

theorem row_own {P : Program} {ρ : Map} {s : St} {H : Array Obj} (hR : Rel A P ρ s H) {id : Nat} {cs : List AV} {l : Pl} (hr : s.row id = some cs) (hl : ρ id = some l) : A l.b := by
  unfold St.row at hr
  split at hr
  · rename_i cs' e he
    exact hR.own _ _ (by rw [he]; rfl) hl
  · cases hr

/-- A cell of a row. -/
theorem row_cell {P : Program} {ρ : Map} {s : St} {w : World} (hR : Rel A P ρ s w.heap) {id off : Nat} {cs : List AV} {x : AV} {l : Pl} (hr : s.row id = some cs) (hx : cs[off]? = some x) (hl : ρ id = some l) :
    ∃ y, w.cell? ⟨l.b, l.o + off, none⟩ = some y ∧ V ρ x y := by
  unfold St.row at hr
  split at hr
  · rename_i cs' e he
    cases hr
    obtain ⟨l', hl', c, hc, _, _, hv⟩ := hR.obj _ _ he
    rw [hl] at hl'; cases hl'
    obtain ⟨y, hy, hxy⟩ := hv _ _ hx
    exact ⟨y, by rw [cell_of hc]; exact hy, hxy⟩
  · cases hr

theorem row_read {P : Program} {ρ : Map} {s : St} {w : World} (hR : Rel A P ρ s w.heap) {id off n : Nat} {r : List AV} {l : Pl} (hr : s.read id off n = some r) (hl : ρ id = some l) :
    ∃ ys : List Value, ys.length = n ∧ VL ρ r ys ∧ ∀ w' : World, w'.heap = w.heap → (loadCells ⟨l.b, l.o + off, none⟩ n).runL A P w' = .ok ys.toArray w' := by
  unfold St.read at hr
  obtain ⟨cs, hcs, hs⟩ := bind_some hr
  unfold St.row at hcs
  split at hcs
  · rename_i cs' e he
    cases hcs
    obtain ⟨l', hl', c, hc, _, _, hv⟩ := hR.obj _ _ he
    rw [hl] at hl'; cases hl'
    obtain ⟨ys, h1, h2, h3⟩ := read_VL hv hs
    exact ⟨ys, h1, h2, fun w' e => run_loadCells P w' l.b (l.o + off) n (hR.own _ _ (by rw [he]; rfl) hl) ys h1 fun j y hy => by rw [cell_of (e ▸ hc)]; exact h3 j y hy⟩
  · cases hcs

end Go.Ab

