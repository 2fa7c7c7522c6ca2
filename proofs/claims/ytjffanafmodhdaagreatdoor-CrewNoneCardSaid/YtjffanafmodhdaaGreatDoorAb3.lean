/- Own text of this claim: part Ab3. -/
import Derived.Test.YtjffanafmodhdaaGreatDoorAb2
import Derived.Laws.Sem
set_option linter.unusedVariables false
set_option linter.unusedSimpArgs false
set_option linter.unusedSectionVars false
set_option linter.unnecessarySimpa false
/-
  Own library, part 3: what an abstract state says of the model's, and the small laws on both.
-/
namespace Go.Ab

/-! ### Finite maps -/

theorem beqF {a b : Nat} (h : a ≠ b) : a.beq b = false := by
  cases hb : a.beq b with
  | false => rfl
  | true => exact absurd (Nat.eq_of_beq_eq_true hb) h
theorem beqT {a b : Nat} (h : a = b) : a.beq b = true := by subst h; exact Nat.beq_refl a
theorem of_beqT {a b : Nat} (h : a.beq b = true) : a = b := Nat.eq_of_beq_eq_true h
theorem of_beqF {a b : Nat} (h : a.beq b = false) : a ≠ b := fun e => by rw [beqT e] at h; cases h

namespace T
variable {α : Type}

theorem get_leaf (n : Nat) : (T.leaf : T α).get n = none := rfl

theorem get_node (v : Option α) (l r : T α) (n : Nat) : (T.node v l r).get n = if n = 0 then v else if n % 2 = 1 then l.get (n / 2) else r.get (n / 2 - 1) := by
  cases n with
  | zero => rfl
  | succ m =>
    show Nat.rec (motive := fun _ => Option α) (l.get (m / 2)) (fun _ _ => r.get (m / 2)) (m % 2) = _
    rw [if_neg (Nat.succ_ne_zero m)]
    rcases Nat.mod_two_eq_zero_or_one m with h | h
    · rw [h, if_pos (by omega)]
      show l.get (m / 2) = _
      congr 1
      omega
    · rw [h, if_neg (by omega)]
      show r.get (m / 2) = _
      congr 1
      omega

theorem put_node (u v : Option α) (l r : T α) (n : Nat) : (T.node u l r).put n v = if n = 0 then .node v l r else if n % 2 = 1 then .node u (l.put (n / 2) v) r else .node u l (r.put (n / 2 - 1) v) := by
  cases n with
  | zero => rfl
  | succ m =>
    show Nat.rec (motive := fun _ => T α) (.node u (l.put (m / 2) v) r) (fun _ _ => .node u l (r.put (m / 2) v)) (m % 2) = _
    rw [if_neg (Nat.succ_ne_zero m)]
    rcases Nat.mod_two_eq_zero_or_one m with h | h
    · rw [h, if_pos (by omega)]
      show T.node u (l.put (m / 2) v) r = _
      congr 2
      omega
    · rw [h, if_neg (by omega)]
      show T.node u l (r.put (m / 2) v) = _
      congr 2
      omega

theorem single_succ (f n : Nat) (v : Option α) : single (f + 1) n v = if n = 0 then .node v .leaf .leaf else if n % 2 = 1 then .node none (single f (n / 2) v) .leaf else .node none .leaf (single f (n / 2 - 1) v) := by
  cases n with
  | zero => rfl
  | succ m =>
    show Nat.rec (motive := fun _ => T α) (.node none (single f (m / 2) v) .leaf) (fun _ _ => .node none .leaf (single f (m / 2) v)) (m % 2) = _
    rw [if_neg (Nat.succ_ne_zero m)]
    rcases Nat.mod_two_eq_zero_or_one m with h | h
    · rw [h, if_pos (by omega)]
      show T.node none (single f (m / 2) v) .leaf = _
      congr 2
      omega
    · rw [h, if_neg (by omega)]
      show T.node none .leaf (single f (m / 2) v) = _
      congr 2
      omega

theorem get_single : ∀ (f n : Nat) (v : Option α) (m : Nat), n < f → (single f n v).get m = if m = n then v else none := by
  intro f
  induction f with
  | zero => intro n v m h; omega
  | succ f ih =>
    intro n v m h
    rw [single_succ]
    by_cases h0 : n = 0
    · rw [if_pos h0, get_node]
      by_cases hm : m = 0
      · rw [if_pos hm, if_pos (show m = n by omega)]
      · rw [if_neg hm, if_neg (show ¬ m = n by omega)]
        split <;> rfl
    · rw [if_neg h0]
      by_cases h1 : n % 2 = 1
      · rw [if_pos h1, get_node]
        by_cases hm : m = 0
        · rw [if_pos hm, if_neg (show ¬ m = n by omega)]
        · rw [if_neg hm]
          by_cases hm1 : m % 2 = 1
          · rw [if_pos hm1, ih _ _ _ (by omega)]
            by_cases e : m = n
            · rw [if_pos e, if_pos (by omega)]
            · rw [if_neg e, if_neg (by omega)]
          · rw [if_neg hm1, if_neg (by intro e; subst e; exact hm1 h1)]; rfl
      · rw [if_neg h1, get_node]
        by_cases hm : m = 0
        · rw [if_pos hm, if_neg (by omega)]
        · rw [if_neg hm]
          by_cases hm1 : m % 2 = 1
          · rw [if_pos hm1, if_neg (by intro e; subst e; exact h1 hm1)]; rfl
          · rw [if_neg hm1, ih _ _ _ (by omega)]
            by_cases e : m = n
            · rw [if_pos e, if_pos (by omega)]
            · rw [if_neg e, if_neg (by omega)]

theorem get_put : ∀ (t : T α) (n : Nat) (v : Option α) (m : Nat), (t.put n v).get m = if m = n then v else t.get m
  | .leaf, n, v, m => get_single (n + 1) n v m (Nat.lt_succ_self n)
  | .node u l r, n, v, m => by
    rw [put_node]
    by_cases h0 : n = 0
    · rw [if_pos h0, get_node, get_node]
      by_cases hm : m = 0
      · rw [if_pos hm, if_pos (show m = n by omega)]
      · rw [if_neg hm, if_neg (show ¬ m = n by omega), if_neg hm]
    · rw [if_neg h0]
      by_cases h1 : n % 2 = 1
      · rw [if_pos h1, get_node, get_node]
        by_cases hm : m = 0
        · rw [if_pos hm, if_neg (by omega), if_pos hm]
        · rw [if_neg hm, if_neg hm]
          by_cases hm1 : m % 2 = 1
          · rw [if_pos hm1, if_pos hm1, get_put l]
            by_cases e : m = n
            · rw [if_pos e, if_pos (by omega)]
            · rw [if_neg e, if_neg (by omega)]
          · rw [if_neg hm1, if_neg hm1, if_neg (by intro e; subst e; exact hm1 h1)]
      · rw [if_neg h1, get_node, get_node]
        by_cases hm : m = 0
        · rw [if_pos hm, if_neg (by omega), if_pos hm]
        · rw [if_neg hm, if_neg hm]
          by_cases hm1 : m % 2 = 1
          · rw [if_pos hm1, if_pos hm1, if_neg (by intro e; subst e; exact h1 hm1)]
          · rw [if_neg hm1, if_neg hm1, get_put r]
            by_cases e : m = n
            · rw [if_pos e, if_pos (by omega)]
            · rw [if_neg e, if_neg (by omega)]

theorem get_put_same (t : T α) (n : Nat) (v : Option α) : (t.put n v).get n = v := by rw [get_put, if_pos rfl]
theorem get_put_ne (t : T α) {n m : Nat} (v : Option α) (h : m ≠ n) : (t.put n v).get m = t.get m := by rw [get_put, if_neg h]

theorem get_ofListFrom : ∀ (l : List α) (i : Nat) (t : T α) (n : Nat), (ofListFrom i l t).get n = if i ≤ n then (match l[n - i]? with | some x => some x | none => t.get n) else t.get n := by
  intro l
  induction l with
  | nil => intro i t n; simp [ofListFrom]
  | cons x xs ih =>
    intro i t n
    simp only [ofListFrom]
    rw [ih]
    by_cases h : i + 1 ≤ n
    · rw [if_pos h, if_pos (by omega)]
      have e : n - i = (n - (i + 1)) + 1 := by omega
      rw [e, List.getElem?_cons_succ, get_put_ne _ _ (by omega)]
    · rw [if_neg h]
      by_cases h' : i ≤ n
      · have e : n = i := by omega
        subst e
        rw [if_pos (Nat.le_refl _), Nat.sub_self, List.getElem?_cons_zero, get_put_same]
      · rw [if_neg h', get_put_ne _ _ (by omega)]

end T

/-! ### Options -/

theorem bind_some {α β : Type} {x : Option α} {f : α → Option β} {b : β} (h : x.bind f = some b) : ∃ a, x = some a ∧ f a = some b := by
  cases x with
  | none => cases h
  | some a => exact ⟨a, rfl, h⟩

theorem bif_some {α : Type} {c : Bool} {x : Option α} {b : α} (h : (bif c then x else none) = some b) : c = true ∧ x = some b := by
  cases c with
  | true => exact ⟨rfl, h⟩
  | false => cases h

theorem bif_none {α : Type} {c : Bool} {x : Option α} {b : α} (h : (bif c then none else x) = some b) : c = false ∧ x = some b := by
  cases c with
  | true => cases h
  | false => exact ⟨rfl, h⟩

/-! ### Where abstract things lie -/

/-- The block; where in it the thing begins; how many cells it may take. -/
structure Pl where
  b : Nat
  o : Nat
  c : Nat

abbrev Map := Nat → Option Pl

def Map.le (ρ ρ' : Map) : Prop := ∀ id l, ρ id = some l → ρ' id = some l

theorem Map.le_refl (ρ : Map) : ρ.le ρ := fun _ _ h => h
theorem Map.le_trans {ρ ρ' ρ'' : Map} (h : ρ.le ρ') (h' : ρ'.le ρ'') : ρ.le ρ'' := fun id l e => h' id l (h id l e)

def VCap (l : Pl) (off : Nat) : Cap → Nat → Prop
  | .exact c, n => n = c
  | .loose c sz, n => c ≤ n ∧ off + n * sz ≤ l.c

inductive VFn (ρ : Map) : Fn → Fn → Prop
  | func (f : FuncId) : VFn ρ (.func f) (.func f)
  | yield {i : Nat} {l : Pl} (h : ρ i = some l) : VFn ρ (.yield i) (.yield l.b)

mutual
inductive V (ρ : Map) : AV → Value → Prop
  | bool (b : Bool) : V ρ (.bool b) (.bool b)
  | int (k : IntKind) (n : Int) : V ρ (.int k n) (.int k n)
  | str (s : ByteArray) : V ρ (.str s) (.string s)
  | ptr {id off : Nat} {l : Pl} (h : ρ id = some l) : V ρ (.ptr id off) (.pointer (some ⟨l.b, l.o + off, none⟩))
  | nilp : V ρ .nilp (.pointer none)
  | ptrz (a : Addr) : V ρ .ptrz (.pointer (some a))
  | slice {id off len cap : Nat} {c : Cap} {l : Pl} (h : ρ id = some l) (hc : VCap l off c cap) : V ρ (.slice id off len c) (.slice (some ⟨l.b, l.o + off, none⟩) len cap)
  | nils : V ρ .nils (.slice none 0 0)
  | map {id : Nat} {l : Pl} (h : ρ id = some l) : V ρ (.map id) (.map (some l.b))
  | nilm : V ρ .nilm (.map none)
  | chan {id : Nat} {l : Pl} (h : ρ id = some l) : V ρ (.chan id) (.chan (some l.b))
  | nilch : V ρ .nilch (.chan none)
  | func {fn fn' : Fn} {a c : List AV} {a' c' : Array Value} (hf : VFn ρ fn fn') (ha : VL ρ a a'.toList) (hc : VL ρ c c'.toList) : V ρ (.func fn a c) (.func fn' a' c')
  | nilf : V ρ .nilf .nilFunc
  | iface {t : TypeId} {v : AV} {v' : Value} (h : V ρ v v') : V ρ (.iface t v) (.iface t v')
  | nili : V ρ .nili .nilIface
  | agg {cs : List AV} {cs' : Array Value} (h : VL ρ cs cs'.toList) : V ρ (.agg cs) (.agg cs')
  | tuple {vs : List AV} {vs' : Array Value} (h : VL ρ vs vs'.toList) : V ρ (.tuple vs) (.tuple vs')
inductive VL (ρ : Map) : List AV → List Value → Prop
  | nil : VL ρ [] []
  | cons {x : AV} {y : Value} {xs : List AV} {ys : List Value} (h : V ρ x y) (hs : VL ρ xs ys) : VL ρ (x :: xs) (y :: ys)
end

theorem VFn.mono {ρ ρ' : Map} (h : ρ.le ρ') {f f' : Fn} (v : VFn ρ f f') : VFn ρ' f f' := by
  cases v with
  | func f => exact .func f
  | yield hl => exact .yield (h _ _ hl)

mutual
theorem V.mono {ρ ρ' : Map} (h : ρ.le ρ') {x : AV} {y : Value} (v : V ρ x y) : V ρ' x y := by
  cases v with
  | bool b => exact .bool b
  | int k n => exact .int k n
  | str s => exact .str s
  | ptr hl => exact .ptr (h _ _ hl)
  | nilp => exact .nilp
  | ptrz a => exact .ptrz a
  | slice hl hc => exact .slice (h _ _ hl) hc
  | nils => exact .nils
  | map hl => exact .map (h _ _ hl)
  | nilm => exact .nilm
  | chan hl => exact .chan (h _ _ hl)
  | nilch => exact .nilch
  | func hf ha hc => exact .func (hf.mono h) (VL.mono h ha) (VL.mono h hc)
  | nilf => exact .nilf
  | iface hv => exact .iface (V.mono h hv)
  | nili => exact .nili
  | agg hl => exact .agg (VL.mono h hl)
  | tuple hl => exact .tuple (VL.mono h hl)
theorem VL.mono {ρ ρ' : Map} (h : ρ.le ρ') {x : List AV} {y : List Value} (v : VL ρ x y) : VL ρ' x y := by
  cases v with
  | nil => exact .nil
  | cons hv hs => exact .cons (V.mono h hv) (VL.mono h hs)
end

theorem VL.length {ρ : Map} : ∀ {xs : List AV} {ys : List Value}, VL ρ xs ys → xs.length = ys.length
  | [], _, .nil => rfl
  | _ :: _, _, .cons _ hs => by simp [VL.length hs]

theorem VL.get {ρ : Map} : ∀ {xs : List AV} {ys : List Value}, VL ρ xs ys → ∀ (i : Nat) (x : AV), xs[i]? = some x → ∃ y, ys[i]? = some y ∧ V ρ x y
  | [], _, .nil, i, x, h => by simp at h
  | x :: xs, _, .cons hv hs, 0, x', h => by simp at h; subst h; exact ⟨_, rfl, hv⟩
  | x :: xs, _, .cons hv hs, i + 1, x', h => by
    simp at h
    obtain ⟨y, hy, hv'⟩ := VL.get hs i x' h
    exact ⟨y, by simpa using hy, hv'⟩

theorem VL.append {ρ : Map} : ∀ {xs xs' : List AV} {ys ys' : List Value}, VL ρ xs ys → VL ρ xs' ys' → VL ρ (xs ++ xs') (ys ++ ys')
  | [], _, _, _, .nil, h => h
  | _ :: _, _, _, _, .cons hv hs, h => .cons hv (VL.append hs h)

theorem VL.of_get {ρ : Map} : ∀ {xs : List AV} {ys : List Value}, xs.length = ys.length → (∀ (i : Nat) (x : AV), xs[i]? = some x → ∃ y, ys[i]? = some y ∧ V ρ x y) → VL ρ xs ys
  | [], [], _, _ => .nil
  | [], y :: ys, h, _ => by simp at h
  | x :: xs, [], h, _ => by simp at h
  | x :: xs, y :: ys, h, hg => by
    refine .cons ?_ (VL.of_get (by simpa using h) fun i x' hx => ?_)
    · obtain ⟨y', hy, hv⟩ := hg 0 x rfl
      simp at hy; subst hy; exact hv
    · obtain ⟨y', hy, hv⟩ := hg (i + 1) x' (by simpa using hx)
      exact ⟨y', by simpa using hy, hv⟩

theorem mapO_length {α β : Type} {f : α → Option β} : ∀ {xs : List α} {ys : List β}, mapO f xs = some ys → ys.length = xs.length
  | [], ys, h => by simp [mapO] at h; subst h; rfl
  | x :: xs, ys, h => by
    simp only [mapO] at h
    obtain ⟨y, _, h⟩ := bind_some h
    obtain ⟨zs, hz, h⟩ := bind_some h
    cases h
    simp [mapO_length hz]

/-- What mapO gives, element by element: in a related list. -/
theorem mapO_VL {α : Type} {ρ : Map} {f : α → Option AV} {g : α → Value} (hfg : ∀ x v, f x = some v → V ρ v (g x)) : ∀ {xs : List α} {ys : List AV}, mapO f xs = some ys → VL ρ ys (xs.map g)
  | [], ys, h => by simp [mapO] at h; subst h; exact .nil
  | x :: xs, ys, h => by
    simp only [mapO] at h
    obtain ⟨y, hy, h⟩ := bind_some h
    obtain ⟨zs, hz, h⟩ := bind_some h
    cases h
    exact .cons (hfg _ _ hy) (mapO_VL hfg hz)

theorem ofCell_V (ρ : Map) {v : Value} {x : AV} (h : ofCell v = some x) : V ρ x v := by
  cases v <;> simp only [ofCell, reduceCtorEq, Option.some.injEq] at h <;> (try subst h) <;> (try constructor)
  case pointer a => cases a <;> simp only [reduceCtorEq, Option.some.injEq] at h; subst h; exact .nilp
  case slice a l c =>
    split at h <;> simp only [reduceCtorEq, Option.some.injEq] at h
    all_goals (rename_i heq; cases heq)
    subst h; exact .nils
  case map a => cases a <;> simp only [reduceCtorEq, Option.some.injEq] at h; subst h; exact .nilm
  case chan a => cases a <;> simp only [reduceCtorEq, Option.some.injEq] at h; subst h; exact .nilch

end Go.Ab

