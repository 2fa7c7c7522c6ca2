/- Own text of this claim: part Ab4. -/
import Derived.Test.YtjffanafmodhdaaGreatDoorAbL
set_option linter.unusedVariables false
set_option linter.unusedSimpArgs false
set_option linter.unusedSectionVars false
set_option linter.unnecessarySimpa false
/-
  Own library, part 4: the relation between an abstract state and a heap; reading and writing rows; types.
-/
namespace Go.Ab

variable {A : Nat → Prop}

/-! ### Lists of cells -/

theorem nth_eq : ∀ (cs : List AV) (n : Nat), nth cs n = cs[n]?
  | [], _ => by simp [nth]
  | _ :: _, 0 => by simp [nth]
  | _ :: cs, n + 1 => by simp [nth, nth_eq cs n]

theorem sub_spec : ∀ (cs : List AV) (off n : Nat) (l : List AV), sub cs off n = some l → l.length = n ∧ off + n ≤ cs.length ∧ ∀ i, i < n → l[i]? = cs[off + i]?
  | cs, 0, 0, l, h => by
    have : l = [] := by cases cs <;> simp [sub] at h <;> exact h
    subst this
    exact ⟨rfl, by omega, fun i hi => by omega⟩
  | [], 0, n + 1, l, h => by simp [sub] at h
  | [], off + 1, n, l, h => by simp [sub] at h
  | c :: cs, 0, n + 1, l, h => by
    simp only [sub] at h
    obtain ⟨l', h', e⟩ := bind_some h
    cases e
    obtain ⟨h1, h2, h3⟩ := sub_spec cs 0 n l' h'
    refine ⟨by simp [h1], by simp; omega, fun i hi => ?_⟩
    cases i with
    | zero => simp
    | succ i => have := h3 i (by omega); simp at this ⊢; exact this
  | c :: cs, off + 1, n, l, h => by
    have h : sub cs off n = some l := by cases n <;> simpa [sub] using h
    obtain ⟨h1, h2, h3⟩ := sub_spec cs off n l h
    refine ⟨h1, by simp; omega, fun i hi => ?_⟩
    rw [h3 i hi, show off + 1 + i = (off + i) + 1 from by omega, List.getElem?_cons_succ]

theorem splice_spec : ∀ (cs : List AV) (off : Nat) (vs l : List AV), splice cs off vs = some l →
    l.length = cs.length ∧ off + vs.length ≤ cs.length ∧ ∀ i, l[i]? = if off ≤ i ∧ i < off + vs.length then vs[i - off]? else cs[i]?
  | cs, 0, [], l, h => by
    have : cs = l := by cases cs <;> (simp [splice] at h; first | exact h | exact h.symm)
    subst this
    exact ⟨rfl, by simp, fun i => by rw [if_neg (by simp)]⟩
  | [], 0, v :: vs, l, h => by simp [splice] at h
  | [], off + 1, vs, l, h => by simp [splice] at h
  | c :: cs, 0, v :: vs, l, h => by
    simp only [splice] at h
    obtain ⟨l', h', e⟩ := bind_some h
    cases e
    obtain ⟨h1, h2, h3⟩ := splice_spec cs 0 vs l' h'
    refine ⟨by simp [h1], by simp at h2 ⊢; omega, fun i => ?_⟩
    cases i with
    | zero => simp
    | succ i =>
      have := h3 i
      simp at this ⊢
      exact this
  | c :: cs, off + 1, vs, l, h => by
    have h : ((splice cs off vs).bind fun l => some (c :: l)) = some l := by cases vs <;> simpa [splice] using h
    obtain ⟨l', h', e⟩ := bind_some h
    cases e
    obtain ⟨h1, h2, h3⟩ := splice_spec cs off vs l' h'
    refine ⟨by simp [h1], by simp; omega, fun i => ?_⟩
    cases i with
    | zero => simp
    | succ i =>
      have := h3 i
      rw [List.getElem?_cons_succ, this]
      by_cases hi : off ≤ i ∧ i < off + vs.length
      · rw [if_pos hi, if_pos (by omega), show i + 1 - (off + 1) = i - off from by omega]
      · rw [if_neg hi, if_neg (by omega), List.getElem?_cons_succ]

theorem reps_length {α : Type} : ∀ (n : Nat) (l : List α), (reps n l).length = n * l.length
  | 0, l => by simp [reps]
  | n + 1, l => by simp [reps, reps_length n l, Nat.succ_mul, Nat.add_comm]

theorem reps_get {α : Type} : ∀ (n : Nat) (l : List α) (i : Nat), i < n * l.length → (reps n l)[i]? = l[i % l.length]?
  | 0, l, i, h => by simp at h
  | n + 1, l, i, h => by
    simp only [reps]
    by_cases hi : i < l.length
    · rw [List.getElem?_append_left hi, Nat.mod_eq_of_lt hi]
    · have hl : 0 < l.length := by
        rcases Nat.eq_zero_or_pos l.length with h0 | h0
        · rw [h0] at h; simp at h
        · exact h0
      rw [List.getElem?_append_right (by omega), reps_get n l (i - l.length) (by rw [Nat.succ_mul] at h; omega)]
      congr 1
      rw [Nat.mod_eq_sub_mod (by omega : l.length ≤ i)]

/-! ### The relation -/

def VAt (ρ : Map) (cs : List AV) (c : Array Value) (o : Nat) : Prop := ∀ (i : Nat) (x : AV), cs[i]? = some x → ∃ y, c[o + i]? = some y ∧ V ρ x y

def ERel (ρ : Map) (e : AV × AV × Nat) (e' : MapEntry) : Prop := V ρ e.1 e'.key ∧ V ρ e.2.1 e'.val ∧ e'.born = e.2.2

def EsRel (ρ : Map) : List (AV × AV × Nat) → List MapEntry → Prop
  | [], [] => True
  | e :: es, e' :: es' => ERel ρ e e' ∧ EsRel ρ es es'
  | _, _ => False

/-- The temporaries. -/
structure TR (ρ : Map) (ts : T AV) (nt : Nat) (a : Array Value) : Prop where
  size : a.size = nt
  at_ : ∀ t, V ρ ((ts.get t).getD undefA) (a.getD t undef)

structure LRel (ρ : Map) (r : ALoop) (r' : Loop) : Prop where
  state : r'.state = r.state
  pending : r'.pending = r.pending
  fn : r'.fn = r.fn
  tmps : TR ρ r.ts r.nt r'.tmps
  params : r'.params.toList = r.params
  assign : r'.assign = r.assign
  body : r'.body = r.body
  defers : ∃ l, ρ r.defers = some l ∧ r'.defers = l.b

def OAt (ρ : Map) (l : Pl) (H : Array Obj) : AObj → Prop
  | .cells cs e => ∃ c, H[l.b]? = some (.cells c e (0, 0)) ∧ l.o + l.c ≤ c.size ∧ cs.length ≤ l.c ∧ VAt ρ cs c l.o
  | .map es clock => ∃ es', H[l.b]? = some (.map es' clock) ∧ EsRel ρ es es'.toList
  | .loop r => ∃ r', H[l.b]? = some (.loop r') ∧ LRel ρ r r'
  | .deferred b => H[l.b]? = some (.deferred (if b then some [] else none))
  | .chan => H[l.b]? = some (.chan 0 #[] false 0 0 false)

structure Rel (A : Nat → Prop) (P : Program) (ρ : Map) (s : St) (H : Array Obj) : Prop where
  obj : ∀ id o, s.get id = some o → ∃ l, ρ id = some l ∧ OAt ρ l H o
  inj : ∀ i j l m, (s.get i).isSome → (s.get j).isSome → ρ i = some l → ρ j = some m → l.b = m.b → i = j
  glob : ∀ g, g < P.globals.size → ∃ l, ρ g = some l ∧ l.b = g ∧ l.o = 0
  low : ∀ id l, ρ id = some l → l.b < H.size ∧ l.o = 0
  own : ∀ id l, (s.get id).isSome → ρ id = some l → A l.b
  fresh : ∀ b, H.size ≤ b → A b

theorem ERel.mono {ρ ρ' : Map} (h : ρ.le ρ') {e : AV × AV × Nat} {e' : MapEntry} (r : ERel ρ e e') : ERel ρ' e e' := ⟨r.1.mono h, r.2.1.mono h, r.2.2⟩
theorem EsRel.mono {ρ ρ' : Map} (h : ρ.le ρ') : ∀ {es : List (AV × AV × Nat)} {es' : List MapEntry}, EsRel ρ es es' → EsRel ρ' es es'
  | [], [], _ => trivial
  | [], _ :: _, r => r.elim
  | _ :: _, [], r => r.elim
  | _ :: _, _ :: _, r => ⟨r.1.mono h, EsRel.mono h r.2⟩
theorem TR.mono {ρ ρ' : Map} (h : ρ.le ρ') {ts : T AV} {nt : Nat} {a : Array Value} (r : TR ρ ts nt a) : TR ρ' ts nt a := ⟨r.size, fun t => (r.at_ t).mono h⟩
theorem LRel.mono {ρ ρ' : Map} (h : ρ.le ρ') {r : ALoop} {r' : Loop} (x : LRel ρ r r') : LRel ρ' r r' :=
  ⟨x.state, x.pending, x.fn, x.tmps.mono h, x.params, x.assign, x.body, let ⟨l, a, b⟩ := x.defers; ⟨l, h _ _ a, b⟩⟩
theorem VAt.mono {ρ ρ' : Map} (h : ρ.le ρ') {cs : List AV} {c : Array Value} {o : Nat} (r : VAt ρ cs c o) : VAt ρ' cs c o :=
  fun i x hx => let ⟨y, hy, hv⟩ := r i x hx; ⟨y, hy, hv.mono h⟩
theorem OAt.mono {ρ ρ' : Map} (h : ρ.le ρ') {l : Pl} {H : Array Obj} {o : AObj} (r : OAt ρ l H o) : OAt ρ' l H o := by
  cases o with
  | cells cs e => obtain ⟨c, h1, h2, h3, h4⟩ := r; exact ⟨c, h1, h2, h3, h4.mono h⟩
  | map es clock => obtain ⟨es', h1, h2⟩ := r; exact ⟨es', h1, h2.mono h⟩
  | loop r₀ => obtain ⟨r', h1, h2⟩ := r; exact ⟨r', h1, h2.mono h⟩
  | deferred b => exact r
  | chan => exact r
/-- It looks at its own block alone. -/
theorem OAt.block {ρ : Map} {l : Pl} {H H' : Array Obj} {o : AObj} (e : H'[l.b]? = H[l.b]?) (r : OAt ρ l H o) : OAt ρ l H' o := by
  cases o with
  | cells cs x => obtain ⟨c, h1, h2⟩ := r; exact ⟨c, e ▸ h1, h2⟩
  | map es clock => obtain ⟨es', h1, h2⟩ := r; exact ⟨es', e ▸ h1, h2⟩
  | loop r₀ => obtain ⟨r', h1, h2⟩ := r; exact ⟨r', e ▸ h1, h2⟩
  | deferred b => exact e.trans r
  | chan => exact e.trans r
theorem OAt.lt {ρ : Map} {l : Pl} {H : Array Obj} {o : AObj} (r : OAt ρ l H o) : l.b < H.size := by
  have key : ∀ {x : Obj}, H[l.b]? = some x → l.b < H.size := fun {x} e => by
    rcases Nat.lt_or_ge l.b H.size with h | h
    · exact h
    · rw [Array.getElem?_eq_none h] at e; cases e
  cases o with
  | cells cs x => obtain ⟨c, h1, h2⟩ := r; exact key h1
  | map es clock => obtain ⟨es', h1, h2⟩ := r; exact key h1
  | loop r₀ => obtain ⟨r', h1, h2⟩ := r; exact key h1
  | deferred b => exact key r
  | chan => exact key r

theorem TR.put {ρ : Map} {ts : T AV} {nt : Nat} {a : Array Value} (r : TR ρ ts nt a) {d : Nat} (hd : d < nt) {x : AV} {y : Value} (h : V ρ x y) : TR ρ (ts.put d (some x)) nt (a.setIfInBounds d y) := by
  refine ⟨by simp [r.size], fun t => ?_⟩
  by_cases e : t = d
  · subst e
    rw [T.get_put_same]
    have : (a.setIfInBounds t y).getD t undef = y := by simp [Array.getD, r.size, hd]
    rw [this]; exact h
  · rw [T.get_put_ne _ _ e]
    have : (a.setIfInBounds d y).getD t undef = a.getD t undef := by
      simp only [Array.getD_eq_getD_getElem?]
      rw [Array.getElem?_setIfInBounds_ne (fun x => e x.symm)]
    rw [this]; exact r.at_ t

/-! ### Cells of a world -/

theorem add_none (b off n : Nat) : (⟨b, off, none⟩ : Addr).add n = ⟨b, off + n, none⟩ := by
  unfold Addr.add
  split
  · rename_i h; subst h; rfl
  · rfl

theorem cell_of {w : World} {B : Nat} {c : Array Value} {e : TypeId} {f : Nat × Nat} (h : w.heap[B]? = some (.cells c e f)) (off : Nat) : w.cell? ⟨B, off, none⟩ = c[off]? := by
  simp [World.cell?, h]

theorem run_load_cell (P : Program) {w : World} {a : Addr} {v : Value} (h : w.cell? a = some v) (hA : A a.block) : (load a).runL A P w = .ok v w := runL_load w h hA

theorem run_loadCellsFrom (P : Program) (w : World) (B off : Nat) (hA : A B) : ∀ (n i : Nat) (acc : Array Value) (ys : List Value), ys.length = n → (∀ j y, ys[j]? = some y → w.cell? ⟨B, off + i + j, none⟩ = some y) →
    (loadCellsFrom ⟨B, off, none⟩ i n acc).runL A P w = .ok (acc ++ ys.toArray) w
  | 0, i, acc, ys, hl, _ => by
    have : ys = [] := List.length_eq_zero_iff.1 hl
    subst this
    simp [loadCellsFrom]
  | n + 1, i, acc, [], hl, _ => by simp at hl
  | n + 1, i, acc, y :: ys, hl, hc => by
    simp only [loadCellsFrom, runL_bind, add_none]
    rw [run_load_cell P (v := y) (by simpa using hc 0 y rfl) hA]
    simp only [Result.andThen_ok]
    rw [run_loadCellsFrom P w B off hA n (i + 1) (acc.push y) ys (by simpa using hl) (fun j z hz => by
      have := hc (j + 1) z (by simpa using hz)
      rw [show off + i + (j + 1) = off + (i + 1) + j from by omega] at this
      exact this)]
    congr 1
    apply Array.ext'; simp

theorem run_loadCells (P : Program) (w : World) (B off n : Nat) (hA : A B) (ys : List Value) (hl : ys.length = n) (hc : ∀ j y, ys[j]? = some y → w.cell? ⟨B, off + j, none⟩ = some y) :
    (loadCells ⟨B, off, none⟩ n).runL A P w = .ok ys.toArray w := by
  unfold loadCells
  rw [run_loadCellsFrom P w B off hA n 0 #[] ys hl (by simpa using hc)]
  simp

/-- What a row's part reads as. -/
theorem read_VL {ρ : Map} {cs : List AV} {c : Array Value} {o off n : Nat} {l : List AV} (hv : VAt ρ cs c o) (h : sub cs off n = some l) :
    ∃ ys : List Value, ys.length = n ∧ VL ρ l ys ∧ ∀ j y, ys[j]? = some y → c[o + off + j]? = some y := by
  obtain ⟨h1, h2, h3⟩ := sub_spec cs off n l h
  have hget : ∀ j, j < n → ∃ x y, l[j]? = some x ∧ c[o + off + j]? = some y ∧ V ρ x y := by
    intro j hj
    have hx : (cs[off + j]?).isSome := by simp; omega
    obtain ⟨x, hx⟩ := Option.isSome_iff_exists.1 hx
    obtain ⟨y, hy, hxy⟩ := hv _ _ hx
    exact ⟨x, y, by rw [h3 j hj, hx], by rw [← hy]; congr 1; omega, hxy⟩
  refine ⟨(List.range n).map fun j => (c[o + off + j]?).getD undef, by simp, ?_, ?_⟩
  · refine VL.of_get (by simp [h1]) fun i x hx => ?_
    have hi : i < n := by rw [← h1]; exact (List.getElem?_eq_some_iff.1 hx).1
    obtain ⟨x', y, hx', hy, hxy⟩ := hget i hi
    rw [hx'] at hx; cases hx
    exact ⟨y, by simp [hi, hy], hxy⟩
  · intro j y hy
    have hj : j < n := by
      rcases Nat.lt_or_ge j n with h | h
      · exact h
      · rw [List.getElem?_eq_none (by simpa using h)] at hy; cases hy
    obtain ⟨x', y', _, hy', _⟩ := hget j hj
    simp [hj, hy'] at hy
    rw [hy', hy]

/-! ### Types -/

structure TyOk (P : Program) (t : TypeId) (ty : ATy) : Prop where
  under : P.underlying t = some ty.desc
  info : ∃ i, P.info? t = some i ∧ i.size = ty.size ∧ i.bytes = ty.bytes ∧ ∀ z, ty.zero = some z → ∃ v, i.zero = some v ∧ ofValue v = some z
  agg : ty.agg = isAggD ty.desc

theorem tyOf_ok {P : Program} {t : TypeId} {ty : ATy} (h : tyOf P t = some ty) : TyOk P t ty := by
  unfold tyOf at h
  split at h
  · cases h
  · rename_i i hi
    split at h
    · cases h
    · rename_i d hd
      cases h
      refine ⟨hd, ⟨i, hi, rfl, rfl, fun z hz => ?_⟩, rfl⟩
      obtain ⟨v, h1, h2⟩ := bind_some hz
      exact ⟨v, h1, h2⟩

section
variable {P : Program} {t : TypeId} {ty : ATy} (h : TyOk P t ty) (w : World)
include h
theorem TyOk.run_under : (underlying t).runL A P w = .ok ty.desc w := by simp [underlying, h.under]
theorem TyOk.run_size : (sizeOf t).runL A P w = .ok ty.size w := by
  obtain ⟨i, hi, hs, _⟩ := h.info
  simp [sizeOf, typeInfo, hi, hs]
theorem TyOk.run_bytes : ∃ i, (typeInfo t).runL A P w = .ok i w ∧ i.bytes = ty.bytes ∧ i.size = ty.size := by
  obtain ⟨i, hi, hs, hb, _⟩ := h.info
  exact ⟨i, by simp [typeInfo, hi], hb, hs⟩
theorem TyOk.run_agg : (isAgg t).runL A P w = .ok ty.agg w := by
  unfold isAgg
  rw [runL_bind, h.run_under, Result.andThen_ok, h.agg]
  cases ty.desc <;> rfl
theorem TyOk.run_zero {z : AV} (hz : ty.zero = some z) : ∃ v, (zeroValue t).runL A P w = .ok v w ∧ ofValue v = some z := by
  obtain ⟨i, hi, _, _, hzz⟩ := h.info
  obtain ⟨v, hv, ho⟩ := hzz z hz
  exact ⟨v, by simp [zeroValue, typeInfo, hi, hv], ho⟩
end

theorem mapO_ofCell (ρ : Map) {l : List Value} {xs : List AV} (h : mapO ofCell l = some xs) : VL ρ xs l := by
  have := mapO_VL (ρ := ρ) (g := id) (fun x v hx => ofCell_V ρ hx) h
  simpa using this

theorem ofValue_V (ρ : Map) {v : Value} {x : AV} (h : ofValue v = some x) : V ρ x v := by
  unfold ofValue at h
  split at h
  · obtain ⟨l, hl, e⟩ := bind_some h; cases e; exact .agg (mapO_ofCell ρ hl)
  · obtain ⟨l, hl, e⟩ := bind_some h; cases e; exact .tuple (mapO_ofCell ρ hl)
  · obtain ⟨hc, e⟩ := bif_some h
    cases e
    rename_i f first captured
    simp only [Bool.and_eq_true] at hc
    have h1 : first = #[] := Array.size_eq_zero_iff.1 (of_beqT hc.1)
    have h2 : captured = #[] := Array.size_eq_zero_iff.1 (of_beqT hc.2)
    subst h1; subst h2
    exact .func (.func f) .nil .nil
  · exact ofCell_V ρ h

/-- The cells of related values. -/
theorem V.cells {ρ : Map} {x : AV} {y : Value} (h : V ρ x y) : VL ρ x.cells y.cells.toList := by
  cases h <;> simp only [AV.cells, Value.cells] <;> first | (rename_i hl; exact hl) | (exact .cons (by constructor <;> assumption) .nil)

theorem V.isCell {ρ : Map} {x : AV} {y : Value} (h : V ρ x y) (hc : x.isCell = true) : y.oneCell' = true := by
  cases h <;> first | rfl | cases hc

end Go.Ab

