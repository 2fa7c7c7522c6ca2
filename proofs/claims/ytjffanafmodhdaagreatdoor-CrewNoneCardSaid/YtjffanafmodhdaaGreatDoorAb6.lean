/- Own text of this claim: part Ab6. -/
import Derived.Test.YtjffanafmodhdaaGreatDoorAb5
set_option linter.unusedVariables false
set_option linter.unusedSimpArgs false
set_option linter.unusedSectionVars false
set_option linter.unnecessarySimpa false
/-
  Own library, part 6: keys and entries of maps; literals.
-/
namespace Go.Ab

variable {A : Nat → Prop}

theorem akey_sound {P : Program} {ρ : Map} (w : World) (empty : Bool) : ∀ (d D : Nat) (t : TypeId) (v : AV) (v' : Value), d ≤ D → V ρ v v' → akey P d t v = true → (Instr.checkKey empty D t v').runL A P w = .ok () w := by
  intro d
  induction d with
  | zero => intro D t v v' _ _ h; cases h
  | succ d ih =>
    intro D t v v' hD hv h
    obtain ⟨D, rfl⟩ : ∃ m, D = m + 1 := ⟨D - 1, by omega⟩
    simp only [akey] at h
    cases hty : tyOf P t with
    | none => rw [hty] at h; cases h
    | some ty =>
      rw [hty] at h
      have T := tyOf_ok hty
      have hu := T.under
      simp only at h
      unfold Instr.checkKey
      simp only [runL_bind, underlying, runL_program, Result.andThen_ok, hu, runL_pure]
      clear hu
      generalize ty.desc = dd at h ⊢
      split at h
      · rename_i fields cs
        cases hv; rename_i cs' hcs
        simp only [runL_bind]
        rw [← Array.forIn_toList, forIn_yield P w]
        · rfl
        · intro f hf
          have := List.all_eq_true.1 h f hf
          split at this
          · rename_i x hx
            obtain ⟨x', e1, vx⟩ := apart_sound (A := A) hcs hx w
            split
            · simp only [runL_bind, e1, Result.andThen_ok, ih D f.type x x' (by omega) vx this, runL_pure]
            · rfl
          · cases this
      · cases hv; rfl
      · cases h

def FRel (ρ : Map) : Option (Nat × AV) → Option (Nat × Value) → Prop
  | none, none => True
  | some (j, v), some (j', v') => j = j' ∧ V ρ v v'
  | _, _ => False

theorem asking_sound {P : Program} {ρ : Map} (w : World) {kt : TypeId} {k : AV} {k' : Value} (hk : V ρ k k') : ∀ (es : List (AV × AV × Nat)) (es' : List MapEntry) (i : Nat) (r : Option (Nat × AV)), EsRel ρ es es' → afind P kt k es i = some r →
    ∃ r', (Instr.findAsking kt k' es' i).runL A P w = .ok r' w ∧ FRel ρ r r'
  | [], [], i, r, _, h => by simp [afind] at h; subst h; exact ⟨none, rfl, trivial⟩
  | [], _ :: _, _, _, hr, _ => hr.elim
  | _ :: _, [], _, _, hr, _ => hr.elim
  | e :: es, e' :: es', i, r, hr, h => by
    simp only [afind] at h
    simp only [Instr.findAsking, runL_bind]
    split at h
    · rename_i he
      cases h
      have := aeq_sound (A := A) w 8 Op.maxDepth kt k e.1 k' e'.key true (by decide) hk hr.1.1 he
      refine ⟨some (i, e'.val), ?_, rfl, hr.1.2.1⟩
      unfold Op.equal
      rw [this]; rfl
    · rename_i he
      have := aeq_sound (A := A) w 8 Op.maxDepth kt k e.1 k' e'.key false (by decide) hk hr.1.1 he
      obtain ⟨r', h1, h2⟩ := asking_sound w hk es es' (i + 1) r hr.2 h
      refine ⟨r', ?_, h2⟩
      unfold Op.equal
      rw [this]
      simpa using h1
    · cases h

theorem sameNow_sound {P : Program} {ρ : Map} {kt : TypeId} {ty : ATy} (hty : tyOf P kt = some ty) {x y : AV} {x' y' : Value} (hx : V ρ x x') (hy : V ρ y y') {b c : Bool} (h : aeq P 8 kt x y = some b) (hs : Instr.sameNow ty.desc x' y' = some c) : c = b := by
  rw [show (8 : Nat) = 7 + 1 from rfl] at h
  simp only [aeq, hty] at h
  generalize ty.desc = dd at h hs
  unfold Instr.sameNow at hs
  split at hs
  · cases hx; cases hy
    obtain ⟨h1, h2⟩ := bif_some h
    cases h2
    rw [if_pos (ieqk_eq h1)] at hs
    cases hs
    exact (ieq_eq _ _).symm
  · cases hx; cases hy; simp at h hs; rw [← h, ← hs]
  · cases hx; cases hy; simp at h hs; rw [← h, ← hs]
  · cases hs

theorem now_sound {P : Program} {ρ : Map} {kt : TypeId} {ty : ATy} (hty : tyOf P kt = some ty) {k : AV} {k' : Value} (hk : V ρ k k') : ∀ (es : List (AV × AV × Nat)) (es' : List MapEntry) (i : Nat) (r : Option (Nat × AV)) (r' : Option (Nat × Value)), EsRel ρ es es' → afind P kt k es i = some r →
    Instr.findNow ty.desc k' es' i = some r' → FRel ρ r r'
  | [], [], i, r, r', _, h, hn => by simp [afind] at h; simp [Instr.findNow] at hn; subst h; subst hn; trivial
  | [], _ :: _, _, _, _, hr, _, _ => hr.elim
  | _ :: _, [], _, _, _, hr, _, _ => hr.elim
  | e :: es, e' :: es', i, r, r', hr, h, hn => by
    simp only [afind] at h
    simp only [Instr.findNow] at hn
    split at hn
    · rename_i hs
      cases hn
      split at h
      · cases h; exact ⟨rfl, hr.1.2.1⟩
      · rename_i he; cases sameNow_sound hty hk hr.1.1 he hs
      · cases h
    · rename_i hs
      split at h
      · rename_i he; cases sameNow_sound hty hk hr.1.1 he hs
      · exact now_sound hty hk es es' (i + 1) r r' hr.2 h hn
      · cases h
    · cases hn

theorem afind_ty {P : Program} {kt : TypeId} {k : AV} (hk : akey P 8 kt k = true) : ∃ ty, tyOf P kt = some ty := by
  rw [show (8 : Nat) = 7 + 1 from rfl] at hk
  simp only [akey] at hk
  cases ht : tyOf P kt with
  | none => rw [ht] at hk; cases hk
  | some ty => exact ⟨ty, rfl⟩

theorem find_sound {P : Program} {ρ : Map} (w : World) {kt : TypeId} {k : AV} {k' : Value} (hk : V ρ k k') (hak : akey P 8 kt k = true) {es : List (AV × AV × Nat)} {es' : List MapEntry} {r : Option (Nat × AV)} (he : EsRel ρ es es') (h : afind P kt k es 0 = some r) :
    ∃ r', (Instr.findKey kt k' es').runL A P w = .ok r' w ∧ FRel ρ r r' := by
  obtain ⟨ty, hty⟩ := afind_ty hak
  have T := tyOf_ok hty
  unfold Instr.findKey
  rw [runL_bind, T.run_under]
  simp only [Result.andThen_ok]
  cases hn : Instr.findNow ty.desc k' es' 0 with
  | some r' => exact ⟨r', rfl, now_sound hty hk es es' 0 r r' he h hn⟩
  | none => exact asking_sound w hk es es' 0 r he h

/-! ### Literals -/

theorem foldl_set (off : Nat) : ∀ (vs : List Value) (j : Nat) (cs : Array Value), ((vs.zipIdx j).foldl (fun cs (c, j) => cs.setIfInBounds (off + j) c) cs).size = cs.size ∧
    ∀ i, ((vs.zipIdx j).foldl (fun cs (c, j) => cs.setIfInBounds (off + j) c) cs)[i]? = if off + j ≤ i ∧ i < off + j + vs.length ∧ i < cs.size then vs[i - (off + j)]? else cs[i]?
  | [], j, cs => by
    refine ⟨rfl, fun i => ?_⟩
    rw [if_neg (by simp; omega)]
    rfl
  | v :: vs, j, cs => by
    obtain ⟨h1, h2⟩ := foldl_set off vs (j + 1) (cs.setIfInBounds (off + j) v)
    simp only [List.zipIdx_cons, List.foldl_cons]
    refine ⟨by rw [h1]; simp, fun i => ?_⟩
    rw [h2 i]
    simp only [Array.size_setIfInBounds, List.length_cons]
    by_cases e : i = off + j
    · subst e
      rw [if_neg (by omega)]
      by_cases hlt : off + j < cs.size
      · rw [if_pos (by omega), Nat.sub_self, Array.getElem?_setIfInBounds_self_of_lt hlt]; rfl
      · rw [if_neg (by omega), Array.getElem?_eq_none (by simp; omega), Array.getElem?_eq_none (by omega)]
    · by_cases hin : off + (j + 1) ≤ i ∧ i < off + (j + 1) + vs.length ∧ i < cs.size
      · rw [if_pos hin, if_pos (by omega), show i - (off + j) = (i - (off + (j + 1))) + 1 from by omega, List.getElem?_cons_succ]
      · rw [if_neg hin, Array.getElem?_setIfInBounds_ne (fun x => e x.symm), if_neg (by omega)]

theorem VL.splice {ρ : Map} {cs l vs : List AV} {cs' : List Value} {vs' : List Value} {off : Nat} (h : VL ρ cs cs') (hv : VL ρ vs vs') (hs : splice cs off vs = some l) (l' : List Value) (hl : l'.length = cs'.length)
    (hget : ∀ i, l'[i]? = if off ≤ i ∧ i < off + vs'.length then vs'[i - off]? else cs'[i]?) : VL ρ l l' := by
  obtain ⟨h1, h2, h3⟩ := splice_spec cs off vs l hs
  refine VL.of_get (by rw [h1, hl, h.length]) fun i x hx => ?_
  rw [h3 i] at hx
  rw [hget i, ← hv.length]
  split at hx
  · rename_i hin; rw [if_pos hin]; exact hv.get _ _ hx
  · rename_i hin; rw [if_neg hin]; exact h.get _ _ hx

/-- parts of a literal. -/
def PRel (ρ : Map) : List (Nat × AV) → List (Nat × Value) → Prop
  | [], [] => True
  | (i, v) :: l, (j, v') :: l' => i = j ∧ V ρ v v' ∧ PRel ρ l l'
  | _, _ => False

theorem fill_sound {ρ : Map} {pl : Nat → Option (Nat × Nat)} {pl' : Nat → Option (Nat × Nat)} (hp : ∀ i p, pl i = some p → pl' i = some p) : ∀ (parts : List (Nat × AV)) (parts' : List (Nat × Value)) (cells : List AV) (cells' : Array Value) (r : List AV),
    PRel ρ parts parts' → VL ρ cells cells'.toList → fillA pl cells parts = some r → ∃ r', Instr.fill pl' cells' parts' = some r' ∧ VL ρ r r'.toList
  | [], [], cells, cells', r, _, hc, h => by simp [fillA] at h; subst h; exact ⟨cells', rfl, hc⟩
  | [], _ :: _, _, _, _, hr, _, _ => hr.elim
  | _ :: _, [], _, _, _, hr, _, _ => hr.elim
  | (i, v) :: l, (j, v') :: l', cells, cells', r, hr, hc, h => by
    obtain ⟨rfl, hv, hr⟩ := hr
    simp only [fillA] at h
    obtain ⟨⟨off, size⟩, hpi, h⟩ := bind_some h
    obtain ⟨hsz, h⟩ := bif_some h
    obtain ⟨cs, hcs, hrest⟩ := bind_some h
    have hvc := hv.cells
    obtain ⟨s1, s2, s3⟩ := splice_spec _ _ _ _ hcs
    have hlen : v'.cells.size = v.cells.length := by simpa using hvc.length.symm
    have hsz := of_beqT hsz
    have hcl := hc.length
    simp only [Array.length_toList] at hcl
    simp only at hsz hcs s2
    simp only [Instr.fill, hp i _ hpi]
    rw [if_neg (by simp; omega)]
    refine fill_sound hp l l' cs _ r hr ?_ hrest
    have hz : v'.cells.zipIdx = (v'.cells.toList.zipIdx 0).toArray := by
      apply Array.ext'
      simp [Array.toList_zipIdx]
    rw [hz, List.foldl_toArray']
    · obtain ⟨f1, f2⟩ := foldl_set off v'.cells.toList 0 cells'
      refine VL.splice hc hvc hcs _ (by simpa using f1) fun i => ?_
      have := f2 i
      simp only [Nat.add_zero] at this
      simp only [Array.getElem?_toList, this]
      by_cases hin : off ≤ i ∧ i < off + v'.cells.toList.length
      · rw [if_pos hin, if_pos]; exact ⟨hin.1, hin.2, by simp at hin; omega⟩
      · rw [if_neg hin, if_neg]; exact fun x => hin ⟨x.1, x.2.1⟩
    · simp

theorem parts_PRel {ρ : Map} {evA : Operand → Option AV} {evC : Operand → Value} (hev : ∀ x v, evA x = some v → V ρ v (evC x)) : ∀ (parts : List (Nat × Operand)) (vs : List (Nat × AV)),
    mapO (fun p : Nat × Operand => (evA p.2).bind fun v => some (p.1, v)) parts = some vs → PRel ρ vs (parts.map fun (i, x) => (i, evC x))
  | [], vs, h => by simp [mapO] at h; subst h; trivial
  | (i, x) :: parts, vs, h => by
    simp only [mapO] at h
    obtain ⟨y, hy, h⟩ := bind_some h
    obtain ⟨ys, hys, h⟩ := bind_some h
    cases h
    obtain ⟨v, hv, e⟩ := bind_some hy
    cases e
    exact ⟨rfl, hev _ _ hv, parts_PRel hev parts ys hys⟩

end Go.Ab

