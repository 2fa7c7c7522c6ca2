/-
  Own library, part 29: listed data, read back into cells.
-/
import Derived.Test.YtflokkhbcjnklaaGreatDoorAb28
namespace Go.Ab

/-- The plain values of a datum, with their places. -/
def leaves (P : Program) : Nat → TypeId → DataW Unit → Nat → List (Nat × Value)
  | 0, _, _, _ => []
  | n + 1, t, d, off =>
    match P.underlying t, d with
    | some .bool, .lit (.bool b) => [(off, .bool b)]
    | some (.int k), .lit (.int _ m) => [(off, .int k m)]
    | some .string, .lit (.string s) => [(off, .string ⟨s.toArray⟩)]
    | some (.struct fs), .agg parts => (fs.toList.zip parts).flatMap fun x => leaves P n x.1.type x.2 (off + x.1.offset)
    | some (.array _ e), .agg parts => (enum 0 parts).flatMap fun x => leaves P n e x.2 (off + x.1 * P.cellsOf e)
    | _, _ => []

theorem mapM_get {α β : Type} {f : α → Option β} : ∀ {l : List α} {ys : List β}, l.mapM f = some ys → ∀ (i : Nat) (y : β), ys[i]? = some y → ∃ x, l[i]? = some x ∧ f x = some y
  | [], ys, h, i, y, hy => by
    simp at h
    subst h
    cases hy
  | a :: l, ys, h, i, y, hy => by
    rw [List.mapM_cons] at h
    cases ha : f a with
    | none => rw [ha] at h; cases h
    | some b =>
      cases hl : l.mapM f with
      | none => rw [ha, hl] at h; cases h
      | some bs =>
        rw [ha, hl] at h
        have h : some (b :: bs) = some ys := h
        cases h
        cases i with
        | zero => cases hy; exact ⟨a, rfl, ha⟩
        | succ i => exact mapM_get hl i y (by simpa using hy)

theorem take_drop_get {cs : List Value} {k n j : Nat} {v : Value} (h : ((cs.drop k).take n)[j]? = some v) : cs[k + j]? = some v := by
  rw [List.getElem?_take] at h
  split at h
  · rwa [List.getElem?_drop] at h
  · cases h

theorem leaves_sound {P : Program} {w : World} : ∀ (fuel : Nat) (t : TypeId) (cs : List Value) (d : DataW Unit) (p : List MemPlace), DataW.trod (fun _ => ()) P w 0 (fun _ => true) false fuel t cs = some (d, p) →
    ∀ (n off i : Nat) (v : Value), (i, v) ∈ leaves P n t d off → off ≤ i ∧ cs[i - off]? = some v := by
  intro fuel
  induction fuel with
  | zero => intro t cs d p h; simp only [DataW.trod] at h; cases h
  | succ fuel ih =>
    intro t cs d p h n off i v hm
    cases n with
    | zero => simp only [leaves] at hm; cases hm
    | succ n =>
      unfold leaves at hm
      split at hm
      · rename_i b hu
        simp only [DataW.trod, hu] at h
        split at h <;> (try (exfalso; injections; done)) <;> (try (cases h; done))
        all_goals
          rename_i hc
          cases hc
          cases h
          simp only [List.mem_singleton, Prod.mk.injEq] at hm
          obtain ⟨rfl, rfl⟩ := hm
          exact ⟨Nat.le_refl _, by simp⟩
      · rename_i k k' m hu
        simp only [DataW.trod, hu] at h
        split at h <;> (try (exfalso; injections; done)) <;> (try (cases h; done))
        all_goals
          split at h
          · rename_i hk
            cases h
            obtain ⟨rfl, _⟩ := hk
            simp only [List.mem_singleton, Prod.mk.injEq] at hm
            obtain ⟨rfl, rfl⟩ := hm
            exact ⟨Nat.le_refl _, by simp_all⟩
          · cases h
      · rename_i s hu
        simp only [DataW.trod, hu] at h
        split at h <;> (try (exfalso; injections; done)) <;> (try (cases h; done))
        all_goals
          split at h
          · cases h
            simp only [List.mem_singleton, Prod.mk.injEq] at hm
            obtain ⟨rfl, rfl⟩ := hm
            exact ⟨Nat.le_refl _, by simp⟩
          · cases h
      · rename_i fs parts hu
        simp only [DataW.trod, hu] at h
        split at h
        · cases hx : (fs.toList.mapM fun f => DataW.trod (fun _ => ()) P w 0 (fun _ => true) false fuel f.type ((cs.drop f.offset).take (P.cellsOf f.type))) with
          | none => rw [hx] at h; cases h
          | some xs =>
            rw [hx] at h
            simp only [Option.map_some, Option.some.injEq, Prod.mk.injEq, DataW.agg.injEq] at h
            obtain ⟨h1, _⟩ := h
            subst h1
            obtain ⟨⟨f, q⟩, hfq, hin⟩ := List.mem_flatMap.1 hm
            obtain ⟨j, hj, hje⟩ := List.getElem_of_mem hfq
            have hz : (fs.toList.zip (xs.map (·.1)))[j]? = some (f, q) := by rw [List.getElem?_eq_getElem hj, hje]
            rw [List.getElem?_zip_eq_some] at hz
            obtain ⟨hf, hq⟩ := hz
            rw [List.getElem?_map, Option.map_eq_some_iff] at hq
            obtain ⟨⟨d', p'⟩, hxj, rfl⟩ := hq
            obtain ⟨f', hf', ht⟩ := mapM_get hx j _ hxj
            rw [hf] at hf'
            cases hf'
            obtain ⟨a, b⟩ := ih _ _ _ _ ht n (off + f.offset) i v hin
            have a : off + f.offset ≤ i := a
            have b : ((cs.drop f.offset).take (P.cellsOf f.type))[i - (off + f.offset)]? = some v := b
            refine ⟨by omega, ?_⟩
            have := take_drop_get b
            rw [← this]
            congr 1
            omega
        · cases h
      · rename_i len e parts hu
        simp only [DataW.trod, hu] at h
        split at h
        · cases hx : ((List.range len).mapM fun i => DataW.trod (fun _ => ()) P w 0 (fun _ => true) false fuel e ((cs.drop (i * P.cellsOf e)).take (P.cellsOf e))) with
          | none => rw [hx] at h; cases h
          | some xs =>
            rw [hx] at h
            simp only [Option.map_some, Option.some.injEq, Prod.mk.injEq, DataW.agg.injEq] at h
            obtain ⟨h1, _⟩ := h
            subst h1
            obtain ⟨⟨j, q⟩, hjq, hin⟩ := List.mem_flatMap.1 hm
            obtain ⟨j', hj', hq⟩ := enum_mem _ 0 _ hjq
            simp only [Nat.zero_add] at hj'
            subst hj'
            rw [List.getElem?_map, Option.map_eq_some_iff] at hq
            obtain ⟨⟨d', p'⟩, hxj, rfl⟩ := hq
            obtain ⟨j', hj', ht⟩ := mapM_get hx j _ hxj
            obtain ⟨hlt, hje⟩ := List.getElem?_eq_some_iff.1 hj'
            rw [List.getElem_range] at hje
            subst hje
            obtain ⟨a, b⟩ := ih _ _ _ _ ht n (off + j * P.cellsOf e) i v hin
            have a : off + j * P.cellsOf e ≤ i := a
            have b : ((cs.drop (j * P.cellsOf e)).take (P.cellsOf e))[i - (off + j * P.cellsOf e)]? = some v := b
            refine ⟨by omega, ?_⟩
            have := take_drop_get b
            rw [← this]
            congr 1
            omega
        · cases h
      · cases hm

end Go.Ab
