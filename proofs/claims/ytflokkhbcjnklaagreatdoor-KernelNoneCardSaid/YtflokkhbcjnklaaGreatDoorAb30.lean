/-
  Own library, part 30: a listed variable holds its data.
-/
import Derived.Test.YtflokkhbcjnklaaGreatDoorAb29
import GoSem.Claims
import Derived.LaidHandle
import Derived.FnData
namespace Go.Ab

theorem laid_mem {P : Program} {w : World} : ∀ {laid : List (String × DataW Unit)} {ps : List MemPlace}, DataW.LaidVars P w laid ps → ∀ {n : String} {d : DataW Unit}, (n, d) ∈ laid →
    ∃ g t cs fuel p, P.globalNamed n = some g ∧ (P.globals[g]?).map (·.type) = some t ∧ w.var? P n = some cs ∧ DataW.trod (fun _ => ()) P w 0 (fun _ => true) false fuel t cs.toList = some (d, p)
  | [], _, _, _, _, h => by cases h
  | (m, e) :: laid, ps, h, n, d, hm => by
    obtain ⟨g, t, cs, fuel, p, q, h1, h2, h3, h4, h5, _⟩ := h
    rcases List.mem_cons.1 hm with hm | hm
    · cases hm
      exact ⟨g, t, cs, fuel, p, h1, h2, h3, h4⟩
    · exact laid_mem h5 hm

theorem mapO_get {α β : Type} {f : α → Option β} : ∀ {l : List α} {ys : List β}, mapO f l = some ys → ∀ (i : Nat) (y : β), ys[i]? = some y → ∃ x, l[i]? = some x ∧ f x = some y
  | [], ys, h, i, y, hy => by cases h; cases hy
  | a :: l, ys, h, i, y, hy => by
    simp only [mapO] at h
    obtain ⟨b, hb, h1⟩ := bind_some h
    obtain ⟨bs, hbs, h2⟩ := bind_some h1
    cases h2
    cases i with
    | zero => cases hy; exact ⟨a, rfl, hb⟩
    | succ i => exact mapO_get hbs i y (by simpa using hy)

theorem holds_one {P : Program} {W : World} {laid : List (String × DataW Unit)} {n : String} {d : DataW Unit} {g : Nat} {t e : TypeId} {zero : Array Value} {cs : List AV} {k : Nat}
    (hS : W.ShapedOpen P) (hz : ((begin P (fun _ _ => 0) default).world.heap[g]?).bind Obj.row? = some (zero, e)) (hzs : zero.size = cs.length) (hg : P.globalNamed n = some g) (ht : (P.globals[g]?).map (·.type) = some t)
    (hl : laidMet P laid W) (hm : (n, d) ∈ laid) (hL : mapO (fun p : Nat × Value => ofCell p.2) (leaves P k t d 0) = some cs) (hi : (leaves P k t d 0).map (·.1) = List.range cs.length) :
    ∃ c : Array Value, W.heap[g]? = some (.cells c e (0, 0)) ∧ c.size = cs.length ∧ ∀ (j : Nat) (x : AV), cs[j]? = some x → ∃ y, c[j]? = some y ∧ ofCell y = some x := by
  have hlt : g < P.globals.size := by
    rcases Nat.lt_or_ge g P.globals.size with h | h
    · exact h
    · rw [Array.getElem?_eq_none h] at ht; cases ht
  obtain ⟨c, h1, h2, _⟩ := hS.1 g zero e hlt hz
  refine ⟨c, h1, by rw [h2, hzs], fun j x hx => ?_⟩
  obtain ⟨ps, hv, _, _⟩ := hl
  obtain ⟨g', t', cs', fuel, p, a1, a2, a3, a4⟩ := laid_mem hv hm
  rw [hg] at a1; cases a1
  rw [ht] at a2; cases a2
  obtain ⟨⟨i, v⟩, hjv, hvx⟩ := mapO_get hL j x hx
  have hij : i = j := by
    have h3 : ((leaves P k t d 0).map (·.1))[j]? = some i := by rw [List.getElem?_map, hjv]; rfl
    rw [hi] at h3
    obtain ⟨hlt', h4⟩ := List.getElem?_eq_some_iff.1 h3
    rw [List.getElem_range] at h4
    exact h4.symm
  subst hij
  obtain ⟨_, b⟩ := leaves_sound fuel t cs'.toList d p a4 k 0 i v (List.mem_of_getElem? hjv)
  rw [Nat.sub_zero] at b
  refine ⟨v, ?_, hvx⟩
  have hcell := World.var?_cell hg a3 i
  rw [cell_of h1] at hcell
  rw [hcell]
  simpa using b

end Go.Ab
