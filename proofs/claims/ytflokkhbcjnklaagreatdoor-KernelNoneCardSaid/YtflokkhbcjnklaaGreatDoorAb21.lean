/-
  Own library, part 21: regions that draw their order, whole; the statements of the language.
-/
import Derived.Test.YtflokkhbcjnklaaGreatDoorAb20
namespace Go.Ab
open Go.Conc (G Goes)

section
variable {P : Program} {main : Bool} {R : World → World → Prop} {D : World → World → Array Event → Prop}

theorem loud_bound (C : Good P R D) {rec : Task → Option Res} (hrec : RecOk P main R D rec) {ops : Array Oper} {nt : Nat} {rest : List Oper} {l : List TE} {s sN : St} {t0 tN : T AV} (T : TrOk P rec ops nt rest l s sN t0 tN) :
    ∃ N, ∀ (i : Nat) (e : TE), l[i]? = some e → e.kind = .loud → OpSem P main R D e.o (evR P ops e.o e.ts) e.s e.v e.s' N := by
  have key : ∀ k, ∃ N, ∀ (i : Nat) (e : TE), i < k → l[i]? = some e → e.kind = .loud → OpSem P main R D e.o (evR P ops e.o e.ts) e.s e.v e.s' N := by
    intro k
    induction k with
    | zero => exact ⟨0, fun i e h => by omega⟩
    | succ k ih =>
      obtain ⟨N, hN⟩ := ih
      cases he : l[k]? with
      | none =>
        refine ⟨N, fun i e hi h hk => ?_⟩
        by_cases x : i = k
        · subst x; rw [he] at h; cases h
        · exact hN i e (by omega) h hk
      | some e0 =>
        cases one_is (T.run1 k e0 he) with
        | skip hk0 =>
          refine ⟨N, fun i e hi h hk => ?_⟩
          by_cases x : i = k
          · subst x; rw [he] at h; cases h; rw [hk0] at hk; cases hk
          · exact hN i e (by omega) h hk
        | quiet hk0 =>
          refine ⟨N, fun i e hi h hk => ?_⟩
          by_cases x : i = k
          · subst x; rw [he] at h; cases h; rw [hk0] at hk; cases hk
          · exact hN i e (by omega) h hk
        | birth _ hk0 =>
          refine ⟨N, fun i e hi h hk => ?_⟩
          by_cases x : i = k
          · subst x; rw [he] at h; cases h; rw [hk0] at hk; cases hk
          · exact hN i e (by omega) h hk
        | loud _ _ hx =>
          obtain ⟨_, M, hM⟩ := stepOp_sound C hrec hx
          refine ⟨N + M, fun i e hi h hk => ?_⟩
          by_cases x : i = k
          · subst x; rw [he] at h; cases h; exact hM.more (by omega)
          · exact (hN i e (by omega) h hk).more (by omega)
  obtain ⟨N, hN⟩ := key l.length
  exact ⟨N, fun i e h => hN i e (List.getElem?_eq_some_iff.1 h).1 h⟩

theorem draw_sound (C : Good P R D) {rec : Task → Option Res} (hrec : RecOk P main R D rec) {cx : Cx} {ops : Array Oper} {fr fr' : Fr} {s s' : St} (h : drawA P rec cx ops fr s = some (fr', s')) :
    s.next ≤ s'.next ∧ ∃ N, ∀ (id : Nat) (ρ : Map) (w : World) (rd : Option Nat) (kind : CallKind) (tmps : Array Value) (defers : List Deferred) (k : List Item) (cs : List Frame) (Stop : Goroutine → World → Prop) (m : Nat),
      Rel P ρ s w.heap → Fresh ρ s.next s'.next → FrOk ρ cx fr rd tmps defers →
      (∀ ρ' w' tmps' defers', Step P ρ s w.heap ρ' s' w'.heap → FrOk ρ' cx fr' rd tmps' defers' → Goes P main R D Stop m (G (mk cx.fn rd kind tmps' defers' .run k) cs) w') →
      Goes P main R D Stop (m + N) (G (mk cx.fn rd kind tmps defers .run (.code (.region id ops true) :: k)) cs) w := by
  unfold drawA at h
  simp only at h
  obtain ⟨hok, h1⟩ := bif_some h
  obtain ⟨r, hr, h2⟩ := bind_some h1
  obtain ⟨l, fr₂, s₂⟩ := r
  obtain ⟨hall, h3⟩ := bif_some h2
  cases h3
  obtain ⟨hds, T⟩ := trace_ok _ _ _ _ _ _ hr
  obtain ⟨N, hN⟩ := loud_bound C hrec T
  have hlen : l.length = ops.size := by simpa using T.len
  have hlast : stA l s' l.length = s' := by unfold stA; simp
  have hmono : s.next ≤ s'.next := by
    have := T.mono C hrec 0 l.length (Nat.zero_le _) (Nat.le_refl _)
    rwa [T.first, hlast] at this
  refine ⟨hmono, 1 + ops.size * (N + 1) + 1, fun id ρ w rd kind tmps defers k cs Stop m hR hF hfr hK => ?_⟩
  have e : m + (1 + ops.size * (N + 1) + 1) = (m + 1 + ops.size * (N + 1)) + 1 := by omega
  rw [e]
  refine C.step rfl fun w₁ hw₁ => ⟨_, _, #[], st_draw, ?_, Aside.of_heap rfl rfl rfl⟩
  generalize w₁.tape w₁.drawn (Question.order cx.fn id) = t
  have hsch : Region.schedule (P.follows .mixedOrders) ops t = Region.linearise .any ops t := by
    unfold Region.schedule
    rw [C.mixed]
    simp
  rw [hsch]
  have hle : (Region.linearise .any ops t).length ≤ ops.size := go_length _ _ _ _ _
  have hmul := Nat.mul_le_mul_right (N + 1) hle
  refine Goes.more' (n := m + 1 + (Region.linearise .any ops t).length * (N + 1)) ?_ (by omega)
  refine sched_sound C hrec hok T hall hN (ρ₀ := ρ) (H₀ := w₁.heap) (fun ρ' w' tmps' hS hT => ?_) _ _ (sched_any (drawOk_spec hok).1 t) 0 ρ { heap := s.heap, next := s'.next } _ tmps ?_
  · refine hK ρ' w' tmps' defers (by rw [← hw₁]; exact hS) ⟨hT, ?_, hfr.rd.mono hS.le⟩
    rw [hds]
    exact hfr.ds.mono hS.le
  · have hR₁ : Rel P ρ s w₁.heap := by rw [hw₁]; exact hR
    have hbound : ∀ (j : Nat) (e : TE), l[j]? = some e → s.next ≤ e.s.next ∧ e.s'.next ≤ s'.next := by
      intro j e he
      have hj := (List.getElem?_eq_some_iff.1 he).1
      have h1 := T.mono C hrec 0 j (Nat.zero_le _) (by omega)
      have h2 := T.mono C hrec (j + 1) l.length (by omega) (Nat.le_refl _)
      rw [T.first, stA_of he] at h1
      rw [T.next j e he, hlast] at h2
      exact ⟨h1, h2⟩
    refine ⟨⟨hR₁.sub fun _ _ h => h, Map.le_refl ρ, hmono, fun _ _ => rfl, fun id l h h' => .inr ⟨id, l, h, h', rfl⟩, Nat.le_refl _, fun _ _ _ => rfl⟩, rfl, .inl rfl, ?_, ?_, ?_, ?_, ?_, ?_, ?_, hfr.tr.size, ?_⟩
    · intro j e _ _; simp
    · intro i hi; cases hi
    · intro i hi; cases hi
    · intro id o h; rw [T.first] at h; exact h
    · intro j e x _ _ _ hd; cases hd
    · intro j e x _ he hk
      rw [T.first]
      have hb := hbound j e he
      have hlt : e.s.next < e.s'.next := by
        cases one_is (T.run1 j e he) with
        | birth x' _ _ _ _ hs' => rw [hs']; exact Nat.lt_succ_self _
        | skip hk2 => rw [hk2] at hk; cases hk
        | quiet hk2 => rw [hk2] at hk; cases hk
        | loud hk2 => rw [hk2] at hk; cases hk
      cases hg : s.get e.s.next with
      | none => rfl
      | some o =>
        obtain ⟨p, hp, _⟩ := hR₁.obj _ _ hg
        rw [hF _ hb.1 (by omega)] at hp
        cases hp
    · intro j e he _ id h1 h2
      have hb := hbound j e he
      exact hF id (by omega) (by omega)
    · intro t
      exact .inr ⟨fun i e _ hd => (by cases hd), hfr.tr.at_ t⟩

/-! ### Results, deferred calls -/

theorem run_asAddr' (P : Program) (a : Addr) (w : World) : (asAddr (.pointer (some a))).run P w = .ok a w := rfl

theorem res_sound {ρ : Map} {s : St} {w : World} (hR : Rel P ρ s w.heap) {ts : T AV} {nt : Nat} {tmps : Array Value} (ht : TR ρ ts nt tmps) : ∀ (rs : List ResultVar) (vs : List AV), readRes P ts s rs = some vs →
    ∃ ys, (rs.mapM fun | .tmp t => pure (tmps.getD t undef) | .cell a t => do loadVar t (← asAddr (tmps.getD a undef)) : Sem (List Value)).run P w = .ok ys w ∧ VL ρ vs ys
  | [], vs, h => by cases h; exact ⟨[], by simp, .nil⟩
  | .tmp t :: rest, vs, h => by
    unfold readRes at h
    obtain ⟨l, hl, h1⟩ := bind_some h
    cases h1
    obtain ⟨ys, h2, h3⟩ := res_sound hR ht rest l hl
    refine ⟨tmps.getD t undef :: ys, ?_, .cons (ht.at_ t) h3⟩
    simp only [List.mapM_cons, Sem.run_bind, Sem.run_pure, Result.andThen_ok, h2]
  | .cell a t :: rest, vs, h => by
    unfold readRes at h
    obtain ⟨ty, hty, h1⟩ := bind_some h
    obtain ⟨v, hv, h2⟩ := bind_some h1
    obtain ⟨l, hl, h3⟩ := bind_some h2
    cases h3
    obtain ⟨ys, h4, h5⟩ := res_sound hR ht rest l hl
    have va := ht.at_ a
    split at hv
    · rename_i id off heq
      rw [heq] at va
      generalize hca : tmps.getD a undef = ca at va
      cases va
      rename_i pl hpl
      obtain ⟨v', h6, h7⟩ := var_sound hR (tyOf_ok hty) hpl hv
      refine ⟨v' :: ys, ?_, .cons h7 h5⟩
      simp only [List.mapM_cons, Sem.run_bind, hca, run_asAddr', Sem.run_pure, Result.andThen_ok, h6, h4]
    · cases hv

theorem results_sound {ρ : Map} {s : St} {w : World} (hR : Rel P ρ s w.heap) {ts : T AV} {nt : Nat} {tmps : Array Value} (ht : TR ρ ts nt tmps) {fn : Func} {vs : List AV} (h : readRes P ts s fn.results.toList = some vs) :
    ∃ v', (results fn tmps).run P w = .ok v' w ∧ V ρ (oneOf vs) v' := by
  obtain ⟨ys, h1, h2⟩ := res_sound hR ht _ _ h
  have hrun : (results fn tmps).run P w = .ok (if h : ys.toArray.size = 1 then ys.toArray[0] else .tuple ys.toArray) w := by
    unfold results
    rw [Sem.run_bind, Array.mapM_eq_mapM_toList]
    rw [Sem.run_map]
    erw [h1]
    rfl
  refine ⟨_, hrun, ?_⟩
  match vs, ys, h2 with
  | [], [], _ => exact .tuple .nil
  | [v], [y], .cons h _ => exact h
  | v :: v₂ :: vs, y :: y₂ :: ys, h =>
    rw [dif_neg (by simp)]
    exact .tuple h

end
end Go.Ab
