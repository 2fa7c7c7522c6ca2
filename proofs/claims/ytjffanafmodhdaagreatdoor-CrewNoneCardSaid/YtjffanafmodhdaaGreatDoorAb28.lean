/- Own text of this claim: part Ab28. -/
import Derived.Test.YtjffanafmodhdaaGreatDoorAb50
import GoSem.ClaimJoined
import GoSem.Claims
import Derived.LaidHandle
import Derived.FnData
set_option linter.unusedVariables false
set_option linter.unusedSimpArgs false
set_option linter.unusedSectionVars false
set_option linter.unnecessarySimpa false
/-
  Own library, part 28: where a call begins and ends: package-level variables that hold listed data.
-/
namespace Go.Ab

noncomputable section

/-- The heap at the call: the package-level variables. -/
def startA (gs : List (List AV × TypeId)) : St := { heap := T.ofListFrom 0 (gs.map fun g => .cells g.1 g.2) .leaf, next := gs.length }

def startM (gs : List (List AV × TypeId)) : Map := fun g => match gs[g]? with
  | some r => some ⟨g, 0, r.1.length⟩
  | none => none

end

theorem startA_get (gs : List (List AV × TypeId)) (g : Nat) : (startA gs).get g = (gs[g]?).map fun r => .cells r.1 r.2 := by
  show (T.ofListFrom 0 (gs.map fun g => AObj.cells g.1 g.2) .leaf).get g = _
  rw [T.get_ofListFrom, if_pos (Nat.zero_le _), Nat.sub_zero, List.getElem?_map]
  cases gs[g]? <;> rfl

/-- The variables hold these data. -/
def Holds (gs : List (List AV × TypeId)) (W : World) : Prop :=
  ∀ (g : Nat) (cs : List AV) (e : TypeId), gs[g]? = some (cs, e) → ∃ c : Array Value, W.heap[g]? = some (.cells c e (0, 0)) ∧ c.size = cs.length ∧ ∀ (j : Nat) (x : AV), cs[j]? = some x → ∃ y, c[j]? = some y ∧ ofCell y = some x

section
variable {P : Program} {gs : List (List AV × TypeId)} {W w' : World}

theorem start_rel (hsz : gs.length = P.globals.size) (h : Holds gs W) : Rel (FW.A ⟨W, fun b => b < gs.length⟩) P (startM gs) (startA gs) W.heap := by
  have hget : ∀ g, ((startA gs).get g).isSome → g < gs.length := by
    intro g hg
    rw [startA_get] at hg
    rcases Nat.lt_or_ge g gs.length with h | h
    · exact h
    · rw [List.getElem?_eq_none h] at hg; cases hg
  have hmap : ∀ g l, startM gs g = some l → l.b = g ∧ l.o = 0 ∧ ∃ r, gs[g]? = some r ∧ l.c = r.1.length := by
    intro g l hl
    unfold startM at hl
    split at hl
    · rename_i r hr
      cases hl
      exact ⟨rfl, rfl, r, hr, rfl⟩
    · cases hl
  refine ⟨?_, ?_, ?_, ?_, fun id l hi hl => .inl ?_, fun b hb => .inr hb⟩
  · intro g o hg
    rw [startA_get] at hg
    cases hr : gs[g]? with
    | none => rw [hr] at hg; cases hg
    | some r =>
      rw [hr] at hg
      cases hg
      obtain ⟨cs, e⟩ := r
      obtain ⟨c, h1, h2, h3⟩ := h g cs e hr
      refine ⟨⟨g, 0, cs.length⟩, by unfold startM; rw [hr], c, h1, by show 0 + cs.length ≤ c.size; omega, Nat.le_refl _, fun i x hx => ?_⟩
      obtain ⟨y, hy, hxy⟩ := h3 i x hx
      exact ⟨y, by show c[0 + i]? = _; rw [Nat.zero_add]; exact hy, ofCell_V _ hxy⟩
  · intro i j l m _ _ hl hm e
    have := (hmap i l hl).1
    have := (hmap j m hm).1
    omega
  · intro g hg
    have hlt : g < gs.length := by omega
    refine ⟨⟨g, 0, (gs[g]).1.length⟩, ?_, rfl, rfl⟩
    unfold startM
    rw [List.getElem?_eq_getElem hlt]
  · intro g l hl
    obtain ⟨h1, h2, ⟨cs, e⟩, hr, _⟩ := hmap g l hl
    refine ⟨?_, h2⟩
    obtain ⟨c, hc, _⟩ := h g cs e hr
    rw [h1]
    rcases Nat.lt_or_ge g W.heap.size with h | h
    · exact h
    · rw [Array.getElem?_eq_none h] at hc; cases hc
  · show l.b < gs.length
    rw [(hmap id l hl).1]
    exact hget id hi

theorem start_free (id : Nat) (h : (startA gs).next ≤ id) : startM gs id = none := by
  unfold startM
  rw [List.getElem?_eq_none h]

theorem cell_same {ρ : Map} {x : AV} {y z : Value} (hy : ofCell y = some x) (hs : scalarSame x x = true) (hz : V ρ x z) : z = y := by
  have hv := ofCell_V ρ hy
  cases x <;> first | (cases hs; done) | skip
  all_goals (cases hz; cases hv; rfl)

/-- What comes of it: every old block is as it was. -/
theorem kept_of {F : Nat → Prop} (hsz : gs.length = P.globals.size) (h : Holds gs W) (hsc : ∀ r ∈ gs, scalarsSame r.1 r.1 = true) {ρ' : Map} {s' : St} (hS : Since W (fun b => b < gs.length) w') (hR : Rel (FW.A ⟨w', F⟩) P ρ' s' w'.heap)
    (hend : ∀ (g : Nat) (r : List AV × TypeId), gs[g]? = some r → s'.get g = some (.cells r.1 r.2)) (may : MemPlace → Prop) : W.keptBut w' may := by
  refine ⟨hS.os, hS.out, fun i hi => ?_⟩
  cases hr : gs[i]? with
  | none =>
    have hge : ¬ i < gs.length := fun hlt => by
      rw [List.getElem?_eq_getElem hlt] at hr
      cases hr
    rw [hS.keep i hi hge]
    cases W.heap[i]? with
    | none => trivial
    | some o => cases o <;> first | exact ⟨rfl, rfl, rfl, fun _ _ => rfl⟩ | exact .inr ⟨rfl, rfl⟩ | rfl
  | some r =>
    obtain ⟨cs, e⟩ := r
    obtain ⟨c, h1, h2, h3⟩ := h i cs e hr
    obtain ⟨c', h4, h5⟩ := hS.rows i c e (0, 0) h1
    rw [h1, h4]
    refine ⟨rfl, rfl, h5, fun j _ => ?_⟩
    obtain ⟨l, hl, hat⟩ := hR.obj i _ (hend i _ hr)
    have hlt : i < gs.length := by
      rcases Nat.lt_or_ge i gs.length with h | h
      · exact h
      · rw [List.getElem?_eq_none h] at hr; cases hr
    obtain ⟨l', hl', hb, ho⟩ := hR.glob i (hsz ▸ hlt)
    rw [hl] at hl'
    cases hl'
    obtain ⟨c2, k1, _, _, k4⟩ := hat
    rw [hb, h4] at k1
    cases k1
    rcases Nat.lt_or_ge j cs.length with hj | hj
    · obtain ⟨y, hy, hxy⟩ := h3 j _ (List.getElem?_eq_getElem hj)
      obtain ⟨z, hz, hxz⟩ := k4 j _ (List.getElem?_eq_getElem hj)
      rw [ho, Nat.zero_add] at hz
      rw [hy, hz]
      have hmem := hsc _ (List.mem_of_getElem? hr)
      have hone : ∀ (l : List AV), scalarsSame l l = true → ∀ x ∈ l, scalarSame x x = true := by
        intro l
        induction l with
        | nil => intro _ x hx; cases hx
        | cons a l ih =>
          intro hl x hx
          simp only [scalarsSame, Bool.and_eq_true] at hl
          rcases List.mem_cons.1 hx with rfl | hx
          · exact hl.1
          · exact ih hl.2 x hx
      rw [cell_same hxy (hone cs hmem _ (List.getElem_mem hj)) hxz]
    · rw [Array.getElem?_eq_none (by omega), Array.getElem?_eq_none (by omega)]

end
end Go.Ab

/-
  Own library, part 29: listed data, read back into cells.
-/
namespace Go.Ab

/-- The plain values of a datum, with their places. -/
def leaves (P : Program) : Nat → TypeId → DataW Unit → Nat → List (Nat × Value)
  | 0, _, _, _ => []
  | n + 1, t, d, off =>
    match P.underlying t, d with
    | some .bool, .lit (.bool b) => [(off, .bool b)]
    | some (.int k), .lit (.int _ m) => [(off, .int k m)]
    | some .string, .lit (.string s) => [(off, .string ⟨s.toArray⟩)]
    | some (.struct fs), .agg parts => (fs.toList.zip parts).flatMap fun x => leaves P n x.1.type x.2 (off + x.1.offset)
    | some (.array _ e), .agg parts => (enum 0 parts).flatMap fun x => leaves P n e x.2 (off + x.1 * P.cellsOf e)
    | _, _ => []

theorem mapM_get {α β : Type} {f : α → Option β} : ∀ {l : List α} {ys : List β}, l.mapM f = some ys → ∀ (i : Nat) (y : β), ys[i]? = some y → ∃ x, l[i]? = some x ∧ f x = some y
  | [], ys, h, i, y, hy => by
    simp at h
    subst h
    cases hy
  | a :: l, ys, h, i, y, hy => by
    rw [List.mapM_cons] at h
    cases ha : f a with
    | none => rw [ha] at h; cases h
    | some b =>
      cases hl : l.mapM f with
      | none => rw [ha, hl] at h; cases h
      | some bs =>
        rw [ha, hl] at h
        have h : some (b :: bs) = some ys := h
        cases h
        cases i with
        | zero => cases hy; exact ⟨a, rfl, ha⟩
        | succ i => exact mapM_get hl i y (by simpa using hy)

theorem take_drop_get {cs : List Value} {k n j : Nat} {v : Value} (h : ((cs.drop k).take n)[j]? = some v) : cs[k + j]? = some v := by
  rw [List.getElem?_take] at h
  split at h
  · rwa [List.getElem?_drop] at h
  · cases h

theorem leaves_sound {P : Program} {w : World} : ∀ (fuel : Nat) (t : TypeId) (cs : List Value) (d : DataW Unit) (p : List MemPlace), DataW.trod (fun _ => ()) P w 0 (fun _ => true) false fuel t cs = some (d, p) →
    ∀ (n off i : Nat) (v : Value), (i, v) ∈ leaves P n t d off → off ≤ i ∧ cs[i - off]? = some v := by
  intro fuel
  induction fuel with
  | zero => intro t cs d p h; simp only [DataW.trod] at h; cases h
  | succ fuel ih =>
    intro t cs d p h n off i v hm
    cases n with
    | zero => simp only [leaves] at hm; cases hm
    | succ n =>
      unfold leaves at hm
      split at hm
      · rename_i b hu
        simp only [DataW.trod, hu] at h
        split at h <;> (try (exfalso; injections; done)) <;> (try (cases h; done))
        all_goals
          rename_i hc
          cases hc
          cases h
          simp only [List.mem_singleton, Prod.mk.injEq] at hm
          obtain ⟨rfl, rfl⟩ := hm
          exact ⟨Nat.le_refl _, by simp⟩
      · rename_i k k' m hu
        simp only [DataW.trod, hu] at h
        split at h <;> (try (exfalso; injections; done)) <;> (try (cases h; done))
        all_goals
          split at h
          · rename_i hk
            cases h
            obtain ⟨rfl, _⟩ := hk
            simp only [List.mem_singleton, Prod.mk.injEq] at hm
            obtain ⟨rfl, rfl⟩ := hm
            exact ⟨Nat.le_refl _, by simp_all⟩
          · cases h
      · rename_i s hu
        simp only [DataW.trod, hu] at h
        split at h <;> (try (exfalso; injections; done)) <;> (try (cases h; done))
        all_goals
          split at h
          · cases h
            simp only [List.mem_singleton, Prod.mk.injEq] at hm
            obtain ⟨rfl, rfl⟩ := hm
            exact ⟨Nat.le_refl _, by simp⟩
          · cases h
      · rename_i fs parts hu
        simp only [DataW.trod, hu] at h
        split at h
        · cases hx : (fs.toList.mapM fun f => DataW.trod (fun _ => ()) P w 0 (fun _ => true) false fuel f.type ((cs.drop f.offset).take (P.cellsOf f.type))) with
          | none => rw [hx] at h; cases h
          | some xs =>
            rw [hx] at h
            simp only [Option.map_some, Option.some.injEq, Prod.mk.injEq, DataW.agg.injEq] at h
            obtain ⟨h1, _⟩ := h
            subst h1
            obtain ⟨⟨f, q⟩, hfq, hin⟩ := List.mem_flatMap.1 hm
            obtain ⟨j, hj, hje⟩ := List.getElem_of_mem hfq
            have hz : (fs.toList.zip (xs.map (·.1)))[j]? = some (f, q) := by rw [List.getElem?_eq_getElem hj, hje]
            rw [List.getElem?_zip_eq_some] at hz
            obtain ⟨hf, hq⟩ := hz
            rw [List.getElem?_map, Option.map_eq_some_iff] at hq
            obtain ⟨⟨d', p'⟩, hxj, rfl⟩ := hq
            obtain ⟨f', hf', ht⟩ := mapM_get hx j _ hxj
            rw [hf] at hf'
            cases hf'
            obtain ⟨a, b⟩ := ih _ _ _ _ ht n (off + f.offset) i v hin
            have a : off + f.offset ≤ i := a
            have b : ((cs.drop f.offset).take (P.cellsOf f.type))[i - (off + f.offset)]? = some v := b
            refine ⟨by omega, ?_⟩
            have := take_drop_get b
            rw [← this]
            congr 1
            omega
        · cases h
      · rename_i len e parts hu
        simp only [DataW.trod, hu] at h
        split at h
        · cases hx : ((List.range len).mapM fun i => DataW.trod (fun _ => ()) P w 0 (fun _ => true) false fuel e ((cs.drop (i * P.cellsOf e)).take (P.cellsOf e))) with
          | none => rw [hx] at h; cases h
          | some xs =>
            rw [hx] at h
            simp only [Option.map_some, Option.some.injEq, Prod.mk.injEq, DataW.agg.injEq] at h
            obtain ⟨h1, _⟩ := h
            subst h1
            obtain ⟨⟨j, q⟩, hjq, hin⟩ := List.mem_flatMap.1 hm
            obtain ⟨j', hj', hq⟩ := enum_mem _ 0 _ hjq
            simp only [Nat.zero_add] at hj'
            subst hj'
            rw [List.getElem?_map, Option.map_eq_some_iff] at hq
            obtain ⟨⟨d', p'⟩, hxj, rfl⟩ := hq
            obtain ⟨j', hj', ht⟩ := mapM_get hx j _ hxj
            obtain ⟨hlt, hje⟩ := List.getElem?_eq_some_iff.1 hj'
            rw [List.getElem_range] at hje
            subst hje
            obtain ⟨a, b⟩ := ih _ _ _ _ ht n (off + j * P.cellsOf e) i v hin
            have a : off + j * P.cellsOf e ≤ i := a
            have b : ((cs.drop (j * P.cellsOf e)).take (P.cellsOf e))[i - (off + j * P.cellsOf e)]? = some v := b
            refine ⟨by omega, ?_⟩
            have := take_drop_get b
            rw [← this]
            congr 1
            omega
        · cases h
      · cases hm

end Go.Ab

/-
  Own library, part 30: a listed variable holds its data.
-/
namespace Go.Ab

theorem laid_mem {P : Program} {w : World} : ∀ {laid : List (String × DataW Unit)} {ps : List MemPlace}, DataW.LaidVars P w laid ps → ∀ {n : String} {d : DataW Unit}, (n, d) ∈ laid →
    ∃ g t cs fuel p, P.globalNamed n = some g ∧ (P.globals[g]?).map (·.type) = some t ∧ w.var? P n = some cs ∧ DataW.trod (fun _ => ()) P w 0 (fun _ => true) false fuel t cs.toList = some (d, p)
  | [], _, _, _, _, h => by cases h
  | (m, e) :: laid, ps, h, n, d, hm => by
    obtain ⟨g, t, cs, fuel, p, q, h1, h2, h3, h4, h5, _⟩ := h
    rcases List.mem_cons.1 hm with hm | hm
    · cases hm
      exact ⟨g, t, cs, fuel, p, h1, h2, h3, h4⟩
    · exact laid_mem h5 hm

theorem mapO_get {α β : Type} {f : α → Option β} : ∀ {l : List α} {ys : List β}, mapO f l = some ys → ∀ (i : Nat) (y : β), ys[i]? = some y → ∃ x, l[i]? = some x ∧ f x = some y
  | [], ys, h, i, y, hy => by cases h; cases hy
  | a :: l, ys, h, i, y, hy => by
    simp only [mapO] at h
    obtain ⟨b, hb, h1⟩ := bind_some h
    obtain ⟨bs, hbs, h2⟩ := bind_some h1
    cases h2
    cases i with
    | zero => cases hy; exact ⟨a, rfl, hb⟩
    | succ i => exact mapO_get hbs i y (by simpa using hy)

theorem holds_one {P : Program} {W : World} {laid : List (String × DataW Unit)} {n : String} {d : DataW Unit} {g : Nat} {t e : TypeId} {zero : Array Value} {cs : List AV} {k : Nat}
    (hS : W.ShapedOpen P) (hz : ((begin P (fun _ _ => 0) default).world.heap[g]?).bind Obj.row? = some (zero, e)) (hzs : zero.size = cs.length) (hg : P.globalNamed n = some g) (ht : (P.globals[g]?).map (·.type) = some t)
    (hl : laidMet P laid W) (hm : (n, d) ∈ laid) (hL : mapO (fun p : Nat × Value => ofCell p.2) (leaves P k t d 0) = some cs) (hi : (leaves P k t d 0).map (·.1) = List.range cs.length) :
    ∃ c : Array Value, W.heap[g]? = some (.cells c e (0, 0)) ∧ c.size = cs.length ∧ ∀ (j : Nat) (x : AV), cs[j]? = some x → ∃ y, c[j]? = some y ∧ ofCell y = some x := by
  have hlt : g < P.globals.size := by
    rcases Nat.lt_or_ge g P.globals.size with h | h
    · exact h
    · rw [Array.getElem?_eq_none h] at ht; cases ht
  obtain ⟨c, h1, h2, _⟩ := hS.1 g zero e hlt hz
  refine ⟨c, h1, by rw [h2, hzs], fun j x hx => ?_⟩
  obtain ⟨ps, hv, _, _⟩ := hl
  obtain ⟨g', t', cs', fuel, p, a1, a2, a3, a4⟩ := laid_mem hv hm
  rw [hg] at a1; cases a1
  rw [ht] at a2; cases a2
  obtain ⟨⟨i, v⟩, hjv, hvx⟩ := mapO_get hL j x hx
  have hij : i = j := by
    have h3 : ((leaves P k t d 0).map (·.1))[j]? = some i := by rw [List.getElem?_map, hjv]; rfl
    rw [hi] at h3
    obtain ⟨hlt', h4⟩ := List.getElem?_eq_some_iff.1 h3
    rw [List.getElem_range] at h4
    exact h4.symm
  subst hij
  obtain ⟨_, b⟩ := leaves_sound fuel t cs'.toList d p a4 k 0 i v (List.mem_of_getElem? hjv)
  rw [Nat.sub_zero] at b
  refine ⟨v, ?_, hvx⟩
  have hcell := World.var?_cell hg a3 i
  rw [cell_of h1] at hcell
  rw [hcell]
  simpa using b

end Go.Ab

