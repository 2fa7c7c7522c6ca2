/- Own text of this claim: part Ab5. -/
import Derived.Test.YtjffanafmodhdaaGreatDoorAb4
set_option linter.unusedVariables false
set_option linter.unusedSimpArgs false
set_option linter.unusedSectionVars false
set_option linter.unnecessarySimpa false
/-
  Own library, part 5: equality, keys, maps' entries, literals: what the abstract answers is what the model's does.
-/
namespace Go.Ab

variable {A : Nat → Prop}

/-! ### Loops of the model's own -/

theorem forIn_yield {α β : Type} (P : Program) (w : World) {f : α → β → Sem (ForInStep β)} : ∀ (l : List α) (b : β), (∀ x ∈ l, (f x b).runL A P w = .ok (.yield b) w) → (forIn l b f).runL A P w = .ok b w
  | [], b, _ => by simp
  | x :: l, b, h => by
    rw [List.forIn_cons, runL_bind, h x (by simp)]
    simp only [Result.andThen_ok]
    exact forIn_yield P w l b fun y hy => h y (by simp [hy])

theorem run_listMapM {α β : Type} (P : Program) (w : World) {f : α → Sem β} {g : α → β} : ∀ (l : List α), (∀ x ∈ l, (f x).runL A P w = .ok (g x) w) → (l.mapM f).runL A P w = .ok (l.map g) w
  | [], _ => by simp
  | x :: l, h => by
    rw [List.mapM_cons, runL_bind, h x (by simp)]
    simp only [Result.andThen_ok, runL_bind]
    rw [run_listMapM P w l fun y hy => h y (by simp [hy])]
    simp

theorem run_arrayMapM {α β : Type} (P : Program) (w : World) {f : α → Sem β} {g : α → β} (a : Array α) (h : ∀ x ∈ a, (f x).runL A P w = .ok (g x) w) : (a.mapM f).runL A P w = .ok (a.map g) w := by
  rw [Array.mapM_eq_mapM_toList, runL_map, run_listMapM P w a.toList (fun x hx => h x (by simpa using hx))]
  simp only [Result.andThen_ok]
  congr 1
  apply Array.ext'; simp

/-! ### Parts -/

theorem sub_VL {ρ : Map} {cs : List AV} {cs' : Array Value} (h : VL ρ cs cs'.toList) {off n : Nat} {l : List AV} (hs : sub cs off n = some l) : VL ρ l (cs'.extract off (off + n)).toList := by
  obtain ⟨h1, h2, h3⟩ := sub_spec cs off n l hs
  have hlen := h.length
  simp only [Array.length_toList] at hlen
  refine VL.of_get (by simp [h1]; omega) fun i x hx => ?_
  have hi : i < n := by rw [← h1]; exact (List.getElem?_eq_some_iff.1 hx).1
  rw [h3 i hi] at hx
  obtain ⟨y, hy, hv⟩ := h.get _ _ hx
  refine ⟨y, ?_, hv⟩
  simp only [Array.getElem?_toList] at hy ⊢
  rw [Array.getElem?_extract, if_pos (by omega)]
  exact hy

theorem apart_sound {P : Program} {ρ : Map} {t : TypeId} {cs : List AV} {cs' : Array Value} {off : Nat} {v : AV} (h : VL ρ cs cs'.toList) (ha : apart P t cs off = some v) (w : World) :
    ∃ v', (part t cs' off).runL A P w = .ok v' w ∧ V ρ v v' := by
  unfold apart at ha
  obtain ⟨ty, hty, ha⟩ := bind_some ha
  have T := tyOf_ok hty
  unfold part
  rw [runL_bind, T.run_agg]
  simp only [Result.andThen_ok]
  cases hag : ty.agg with
  | true =>
    rw [hag] at ha
    obtain ⟨l, hl, e⟩ := bind_some ha
    cases e
    simp only [if_true, runL_bind, T.run_size, Result.andThen_ok, runL_pure]
    exact ⟨_, rfl, .agg (sub_VL h hl)⟩
  | false =>
    rw [hag] at ha
    have ha : nth cs off = some v := ha
    rw [nth_eq] at ha
    obtain ⟨y, hy, hv⟩ := h.get _ _ ha
    simp only [Array.getElem?_toList] at hy
    simp only [Bool.false_eq_true, if_false, hy]
    exact ⟨y, rfl, hv⟩

/-! ### Small equalities -/

theorem ieqk_eq {a b : IntKind} (h : ieqk a b = true) : a = b := by cases a <;> cases b <;> first | rfl | cases h

theorem ieq_eq (a b : Int) : ieq a b = (a == b) := by
  cases a with
  | ofNat m => cases b with
    | ofNat n => simp only [ieq]; rw [Bool.eq_iff_iff]; simp only [Nat.beq_eq, beq_iff_eq, Int.ofNat_eq_natCast]; omega
    | negSucc n => simp only [ieq]; rw [Bool.eq_iff_iff]; simp
  | negSucc m => cases b with
    | ofNat n => simp only [ieq]; rw [Bool.eq_iff_iff]; simp
    | negSucc n => simp only [ieq]; rw [Bool.eq_iff_iff]; simp

theorem ilt_eq (a b : Int) : ilt a b = decide (a < b) := by
  cases a <;> cases b <;> simp only [ilt] <;> rw [Bool.eq_iff_iff] <;> simp [Nat.blt_eq] <;> omega

theorem fits_bounds {k : IntKind} {n : Int} (h : fits k n = true) : k.min ≤ n ∧ n ≤ k.max := by
  have e8 : (2 : Int) ^ 8 = 256 := by decide
  have e31 : (2 : Int) ^ 31 = 2147483648 := by decide
  have e32 : (2 : Int) ^ 32 = 4294967296 := by decide
  have e63 : (2 : Int) ^ 63 = 9223372036854775808 := by decide
  have e64 : (2 : Int) ^ 64 = 18446744073709551616 := by decide
  cases k <;> cases n <;> simp only [fits, Nat.blt_eq, Bool.false_eq_true] at h <;>
    simp only [IntKind.min, IntKind.max, IntKind.bits, IntKind.signed, if_true, if_false, Bool.false_eq_true, Nat.reduceSub, e8, e31, e32, e63, e64, Int.ofNat_eq_natCast] <;> omega

theorem wrap_in {k : IntKind} {n : Int} (h0 : k.min ≤ n) (h1 : n ≤ k.max) : k.wrap n = n := by
  have e7 : (2 : Int) ^ 7 = 128 := by decide
  have e8 : (2 : Int) ^ 8 = 256 := by decide
  have e15 : (2 : Int) ^ 15 = 32768 := by decide
  have e16 : (2 : Int) ^ 16 = 65536 := by decide
  have e31 : (2 : Int) ^ 31 = 2147483648 := by decide
  have e32 : (2 : Int) ^ 32 = 4294967296 := by decide
  have e63 : (2 : Int) ^ 63 = 9223372036854775808 := by decide
  have e64 : (2 : Int) ^ 64 = 18446744073709551616 := by decide
  cases k <;> simp only [IntKind.min, IntKind.max, IntKind.wrap, IntKind.bits, IntKind.signed, if_true, if_false, Bool.false_eq_true, Nat.reduceSub, e7, e8, e15, e16, e31, e32, e63, e64, Bool.true_and, Bool.false_and, decide_eq_true_eq] at * <;> (try split) <;> omega

theorem fits_wrap {k : IntKind} {n : Int} (h : fits k n = true) : k.wrap n = n := wrap_in (fits_bounds h).1 (fits_bounds h).2

theorem wrapQ_eq (k : IntKind) (n : Int) : wrapQ k n = k.wrap n := by
  unfold wrapQ
  cases h : fits k n with
  | true => rw [cond_true, fits_wrap h]
  | false => rfl

theorem allO_cases {α : Type} {f : α → Option Bool} : ∀ {l : List α} {r : Bool}, allO f l = some r → (r = true → ∀ x ∈ l, f x = some true) ∧ (r = false → ∃ l₁ x l₂, l = l₁ ++ x :: l₂ ∧ f x = some false ∧ ∀ y ∈ l₁, f y = some true)
  | [], r, h => by simp [allO] at h; subst h; exact ⟨fun _ x hx => by simp at hx, fun e => by cases e⟩
  | x :: l, r, h => by
    simp only [allO] at h
    split at h
    · rename_i hx
      obtain ⟨h1, h2⟩ := allO_cases h
      refine ⟨fun e y hy => ?_, fun e => ?_⟩
      · rcases List.mem_cons.1 hy with rfl | hy
        · exact hx
        · exact h1 e y hy
      · obtain ⟨l₁, z, l₂, e1, e2, e3⟩ := h2 e
        refine ⟨x :: l₁, z, l₂, by rw [e1]; rfl, e2, fun y hy => ?_⟩
        rcases List.mem_cons.1 hy with rfl | hy
        · exact hx
        · exact e3 y hy
    · rename_i hx
      cases h
      exact ⟨(fun e => by cases e), fun _ => ⟨[], x, l, rfl, hx, fun y hy => by simp at hy⟩⟩
    · cases h

/-! ### Equality -/

theorem aeq_sound {P : Program} {ρ : Map} (w : World) : ∀ (d D : Nat) (t : TypeId) (x y : AV) (x' y' : Value) (r : Bool), d ≤ D → V ρ x x' → V ρ y y' → aeq P d t x y = some r → (Op.equalIn D t x' y').runL A P w = .ok r w := by
  intro d
  induction d with
  | zero => intro D t x y x' y' r _ _ _ h; cases h
  | succ d ih =>
    intro D t x y x' y' r hD hx hy h
    obtain ⟨D, rfl⟩ : ∃ m, D = m + 1 := ⟨D - 1, by omega⟩
    simp only [aeq] at h
    cases hty : tyOf P t with
    | none => rw [hty] at h; cases h
    | some ty =>
      rw [hty] at h
      have T := tyOf_ok hty
      have hu := T.under
      simp only at h
      unfold Op.equalIn
      simp only [runL_bind, underlying, runL_program, Result.andThen_ok, hu, runL_pure]
      clear hu
      generalize ty.desc = dd at h ⊢
      split at h
      · cases hx; cases hy; cases h; rfl
      · cases hx; cases hy
        obtain ⟨h1, h2⟩ := bif_some h
        cases h2
        simp only [ieqk_eq h1, if_true, runL_pure, ieq_eq]
      · cases hx; cases hy; cases h; rfl
      · cases hx; cases hy; cases h; rfl
      · cases hx; cases hy; cases h; rfl
      · cases hx; cases hy; cases h; rfl
      · cases hx; cases hy; cases h; rfl
      · cases hx; cases hy; cases h; rfl
      · cases hx; cases hy; cases h; rfl
      · cases hx; cases hy; cases h; rfl
      · cases hx; cases hy; cases h; rfl
      · cases hx; cases hy; cases h; rfl
      · cases hx; cases hy; cases h; rfl
      · cases hx; cases hy; cases h; rfl
      · cases hx; cases hy; cases h; rfl
      · cases hx; cases hy; cases h; rfl
      · cases hx; cases hy; cases h; rfl
      · rename_i fields xs ys
        cases hx; rename_i cs' hcs
        cases hy; rename_i ds' hds
        obtain ⟨hs, h⟩ := bif_none h
        simp only [runL_bind, runL_program, Result.andThen_ok, hs, Bool.false_eq_true, if_false]
        rw [← Array.forIn_toList]
        have one : ∀ (f : Field) (b : Bool), (bif f.name == "_" then none else (apart P f.type xs f.offset).bind fun a => (apart P f.type ys f.offset).bind fun b => aeq P d f.type a b) = some b →
            f.name ≠ "_" ∧ ∃ a' b', (part f.type cs' f.offset).runL A P w = .ok a' w ∧ (part f.type ds' f.offset).runL A P w = .ok b' w ∧ (Op.equalIn D f.type a' b').runL A P w = .ok b w := by
          intro f b hb
          obtain ⟨hn, hb⟩ := bif_none hb
          obtain ⟨a, ha, hb⟩ := bind_some hb
          obtain ⟨c, hc, hb⟩ := bind_some hb
          obtain ⟨a', ha', va⟩ := apart_sound hcs ha w
          obtain ⟨c', hc', vc⟩ := apart_sound hds hc w
          exact ⟨by simpa using hn, a', c', ha', hc', ih D f.type a c a' c' b (by omega) va vc hb⟩
        obtain ⟨h1, h2⟩ := allO_cases h
        cases r with
        | true =>
          rw [forIn_yield P w]
          · rfl
          · intro f hf
            obtain ⟨hn, a', b', e1, e2, e3⟩ := one f true (h1 rfl f hf)
            simp only [ne_eq, hn, not_false_eq_true, if_true, runL_bind, e1, e2, e3, Result.andThen_ok, Bool.not_true, Bool.false_eq_true, if_false, runL_pure]
        | false =>
          obtain ⟨l₁, f, l₂, e0, ef, el⟩ := h2 rfl
          rw [e0]
          have loop : ∀ l₁ : List Field, (∀ y ∈ l₁, (bif y.name == "_" then none else (apart P y.type xs y.offset).bind fun a => (apart P y.type ys y.offset).bind fun b => aeq P d y.type a b) = some true) →
              (forIn (l₁ ++ f :: l₂) ((none, ()) : Option Bool × Unit) fun (f : Field) __s => if f.name ≠ "_" then do
                let __do_lift ← part f.type cs' f.offset
                let __do_lift_1 ← part f.type ds' f.offset
                let __do_lift ← Op.equalIn D f.type __do_lift __do_lift_1
                if (!__do_lift) = true then pure (ForInStep.done (some false, ())) else pure (ForInStep.yield (none, ()))
              else pure (ForInStep.yield (none, ()))).runL A P w = .ok (some false, ()) w := by
            intro l₁
            induction l₁ with
            | nil =>
              intro _
              obtain ⟨hn, a', b', e1, e2, e3⟩ := one f false ef
              rw [List.nil_append, List.forIn_cons]
              simp only [ne_eq, hn, not_false_eq_true, if_true, runL_bind, e1, e2, e3, Result.andThen_ok, Bool.not_false, runL_pure]
            | cons g l₁ ih₁ =>
              intro hl
              obtain ⟨hn, a', b', e1, e2, e3⟩ := one g true (hl g (by simp))
              rw [List.cons_append, List.forIn_cons]
              simp only [ne_eq, hn, not_false_eq_true, if_true, runL_bind, e1, e2, e3, Result.andThen_ok, Bool.not_true, Bool.false_eq_true, if_false, runL_pure]
              exact ih₁ fun y hy => hl y (by simp [hy])
          rw [loop l₁ el]
          rfl
      · cases h

end Go.Ab

