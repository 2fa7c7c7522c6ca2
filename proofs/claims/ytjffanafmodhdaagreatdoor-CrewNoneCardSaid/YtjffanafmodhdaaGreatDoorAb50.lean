/- Own text of this claim: part Ab50. -/
import Derived.Test.YtjffanafmodhdaaGreatDoorAb47
import Derived.Test.YtjffanafmodhdaaGreatDoorAb26
set_option linter.unusedVariables false
set_option linter.unusedSimpArgs false
set_option linter.unusedSectionVars false
set_option linter.unnecessarySimpa false
/-
  Own library, part 50: the whole run as one reckoning.
-/
set_option linter.unusedSectionVars false
namespace Go.Ab
open Go.Conc Go.Conc.Lib

noncomputable section

def mem (l : List Nat) (id : Nat) : Bool := l.any (fun j => Nat.beq j id)

abbrev Seg := Nat × Option (List Nat)

def dropS (d : Option (List Nat)) (s : St) : St :=
  match d with
  | none => s
  | some l => s.part (mem l) s.next

/-- So many moves; then only these things are kept. -/
def segs (P : Program) (rec : Task → Option Res) (U : FuncId → Bool) (hasU : Code → Bool) : List Seg → AG → St → AG × St
  | [], a, s => (a, s)
  | (n, d) :: r, a, s => segs P rec U hasU r (adv P rec U hasU n a s).1 (dropS d (adv P rec U hasU n a s).2)

structure Round where
  D : Bool
  q : List Nat
  n1 : Nat
  sp : List Seg
  sk : List Seg

def roundO (P : Program) (rec : Task → Option Res) (U : FuncId → Bool) (hasU : Code → Bool) (co ct : Nat) (r : Round) (pa ca : AG) (s : St) : Option (AG × AG × St) :=
  let x := segs P rec U hasU r.sp pa (s.part (fun id => !mem r.q id) s.next)
  let y := segs P rec U hasU r.sk ca (s.part (mem r.q) r.n1)
  bif Nat.ble x.2.next r.n1 then
    (offO P r.D true x.1.top).bind fun u0 => (offO P r.D false y.1.top).bind fun u1 =>
    bif Nat.beq u0.1 (bif r.D then co else ct) && Nat.beq u1.1 (bif r.D then co else ct) then
      (opPut x.1.top (gotA r.D true (bif r.D then u0.2 else u1.2))).bind fun pf => (opPut y.1.top (gotA r.D false (bif r.D then u0.2 else u1.2))).bind fun cf =>
      some ({ top := pf, cs := x.1.cs }, { top := cf, cs := y.1.cs }, x.2.join y.2)
    else none
  else none

def roundsO (P : Program) (rec : Task → Option Res) (U : FuncId → Bool) (hasU : Code → Bool) (co ct : Nat) : List Round → AG → AG → St → Option (AG × AG × St)
  | [], pa, ca, s => some (pa, ca, s)
  | r :: l, pa, ca, s => (roundO P rec U hasU co ct r pa ca s).bind fun x => roundsO P rec U hasU co ct l x.1 x.2.1 x.2.2

structure Plan where
  fid : FuncId
  a : List Seg
  b : List Seg
  g : List Seg
  q1 : List Nat
  n1 : Nat
  p1 : List Seg
  k1 : List Seg
  rounds : List Round
  co : Nat
  ct : Nat
  cb : Nat
  close : List Seg
  nC : Nat
  rest : List Seg
  nK : Nat
  nQ : Nat

/-- Up to the first meeting. -/
def firstO (P : Program) (L : WgLink) (rec : Task → Option Res) (U : FuncId → Bool) (hasU : Code → Bool) (l : Plan) (s0 : St) : Option (Nat × AG × AG × St) :=
  (enterA P l.fid [] true).bind fun a0 =>
  let xA := segs P rec U hasU l.a { top := a0, cs := [] } s0
  (allocO P xA.1.top).bind fun t =>
  (opPut xA.1.top (.ptr xA.2.next 0)).bind fun aA' =>
  let xB := segs P rec U hasU l.b { top := aA', cs := xA.1.cs } { xA.2 with next := xA.2.next + 1 }
  (callO P L.add xB.1.top).bind fun args =>
  (opPut xB.1.top undefA).bind fun aB' =>
  let xG := segs P rec U hasU l.g { top := aB', cs := xB.1.cs } xB.2
  (goO P xG.1.top).bind fun go =>
  (opPut xG.1.top undefA).bind fun aG' =>
  (enterA P go.1 (go.2.1 ++ go.2.2) false).bind fun aK =>
  let s := xG.2.part (fun id => !(Nat.beq id l.co || Nat.beq id l.ct)) xG.2.next
  let x := segs P rec U hasU l.p1 { top := aG', cs := xG.1.cs } (s.part (fun id => !mem l.q1 id) s.next)
  let y := segs P rec U hasU l.k1 { top := aK, cs := [] } (s.part (mem l.q1) l.n1)
  (sendO P x.1.top).bind fun u0 => (recvO P y.1.top).bind fun u1 =>
  bif Nat.beq t L.tWg && (match args with | [.ptr w 0, .int .i64 1] => Nat.beq w xA.2.next | _ => false) && Nat.ble x.2.next l.n1 && Nat.beq u0.1 l.co && Nat.beq u1.1 l.co && !Nat.beq l.co l.ct &&
    (match xG.2.get l.co, xG.2.get l.ct with | some .chan, some .chan => true | _, _ => false) && (s0.get l.co).isNone && (s0.get l.ct).isNone && (s0.get l.cb).isNone && (xB.2.get l.co).isSome && (xB.2.get l.ct).isSome && (xB.2.get l.cb).isSome &&
    (List.range s0.next).all (fun j => (xB.2.get j).isSome)
  then (opPut x.1.top (gotA true true u0.2)).bind fun pf => (opPut y.1.top (gotA true false u0.2)).bind fun cf => some (xA.2.next, { top := pf, cs := x.1.cs }, { top := cf, cs := y.1.cs }, x.2.join y.2)
  else none

/-- Behind the last meeting. -/
def lastO (P : Program) (L : WgLink) (rec : Task → Option Res) (U : FuncId → Bool) (hasU : Code → Bool) (l : Plan) (wg : Nat) (pa ca : AG) (s : St) : Option (AV × St) :=
  let x := segs P rec U hasU l.close pa (s.part (fun id => !Nat.beq id l.cb) s.next)
  (closeO P x.1.top).bind fun c =>
  (opPut x.1.top undefA).bind fun aC =>
  let aW := advP P l.nC aC
  (callO P L.wait aW).bind fun args =>
  (opPut aW undefA).bind fun aR =>
  let e := segs P rec U hasU l.rest { top := aR, cs := x.1.cs } x.2
  (endO P e.1 e.2).bind fun v =>
  let aK := advP P l.nK ca.top
  (recvO P aK).bind fun u =>
  (opPut aK (.tuple [u.2, .bool false])).bind fun aQ =>
  let aD := advP P l.nQ aQ
  (P.funcs[aD.fn]?).bind fun fn =>
  bif Nat.beq c l.co && (match args with | [.ptr w 0] => Nat.beq w wg | _ => false) && (P.inits.idxOf? e.1.top.fn).isNone && Nat.beq u.1 l.co && aD.ret && !aD.nrm && (match ca.cs with | [] => true | _ => false) && fn.results.isEmpty &&
    (match s.get l.cb with | some (.cells ..) => true | _ => false) &&
    (match aD.ds with | [.inl { fn := .func d, captured := [], args := [.ptr w 0] }] => Nat.beq d L.done && Nat.beq w wg | _ => false)
  then some (v, e.2) else none

def wholeO (P : Program) (L : WgLink) (rec : Task → Option Res) (U : FuncId → Bool) (hasU : Code → Bool) (l : Plan) (s0 : St) : Option (AV × St) :=
  (firstO P L rec U hasU l s0).bind fun x => (roundsO P rec U hasU l.co l.ct l.rounds x.2.1 x.2.2.1 x.2.2.2).bind fun y => lastO P L rec U hasU l x.1 y.1 y.2.1 y.2.2
end

section
variable {P : Program} {main : Bool}

theorem AdvSem.drop (a : AG) (s : St) (d : Option (List Nat)) : AdvSem P main a s a (dropS d s) := by
  cases d with
  | none => exact AdvSem.refl a s
  | some l =>
    refine ⟨Nat.le_refl _, 0, fun ρ x bs g Stop m hg hR _ hK => hK ρ x g ?_ hg⟩
    have up : ∀ id, ((s.part (mem l) s.next).get id).isSome → (s.get id).isSome := fun id hi => by
      obtain ⟨o, ho⟩ := Option.isSome_iff_exists.1 hi
      rw [(part_get ho).2]
      rfl
    refine ⟨⟨fun id o ho => hR.obj id o (part_get ho).2, fun i j l m hi hj => hR.inj i j l m (up i hi) (up j hj), hR.glob, hR.low, fun id l hi hl => hR.own id l (up id hi) hl, hR.fresh⟩, fun _ _ h => h, Nat.le_refl _, fun _ _ => rfl, fun id l hi hl => .inr ⟨id, l, up id hi, hl, rfl⟩, Nat.le_refl _, fun _ h => h, fun _ _ _ _ => rfl⟩

theorem segs_sound (C : Good P) {rec : Task → Option Res} (hrec : RecOk P main rec) {U : FuncId → Bool} {hasU : Code → Bool} : ∀ (l : List Seg) (a : AG) (s : St), AdvSem P main a s (segs P rec U hasU l a s).1 (segs P rec U hasU l a s).2
  | [], a, s => AdvSem.refl a s
  | (n, d) :: l, a, s => ((adv_sound C hrec n (a := a) (s := s) (a' := (adv P rec U hasU n a s).1) (s' := (adv P rec U hasU n a s).2) rfl).trans (AdvSem.drop _ _ d)).trans (segs_sound C hrec l _ _)

end

section
variable {P : Program} {L : WgLink} {W0 : World} {I : Nat → Prop} {co ct wg cb : Nat} {rec : Task → Option Res} {U : FuncId → Bool} {hasU : Code → Bool}

theorem bifc {D : Bool} {α : Type} {a b : α} : (bif D then a else b) = if D then a else b := by cases D <;> rfl

theorem roundO_sound (C : Good P) (h0 : RecOk P true rec) (h1 : RecOk P false rec) {bs : List Frame} {no nt : Nat} {pa ca pa' ca' : AG} {s s' : St} {m : Machine} {t : Trace} (J : Joint P L W0 I co ct wg cb bs no nt pa ca s m t) {r : Round} (h : roundO P rec U hasU co ct r pa ca s = some (pa', ca', s')) :
    ∃ k m' t' no' nt', runNT P k m t = (.next m', t') ∧ Joint P L W0 I co ct wg cb bs no' nt' pa' ca' s' m' t' := by
  unfold roundO at h
  simp only at h
  obtain ⟨hn, h⟩ := bif_some h
  obtain ⟨⟨i0, u0⟩, ho0, h⟩ := bind_some h
  obtain ⟨⟨i1, u1⟩, ho1, h⟩ := bind_some h
  obtain ⟨hid, h⟩ := bif_some h
  obtain ⟨pf, hp0, h⟩ := bind_some h
  obtain ⟨cf, hp1, h⟩ := bind_some h
  cases h
  simp only [Bool.and_eq_true] at hid
  have e0 : i0 = if r.D then co else ct := by rw [← bifc]; exact of_beqT hid.1
  have e1 : i1 = if r.D then co else ct := by rw [← bifc]; exact of_beqT hid.2
  subst e0
  rw [e1] at ho1
  simp only [bifc] at hp0 hp1
  obtain ⟨k, m', t', hr, hJ⟩ := meet_step J r.D (mem r.q) r.n1 (segs_sound C h0 r.sp pa _) (Nat.le_of_ble_eq_true hn) (segs_sound C h1 r.sk ca _) ho0 ho1 hp0 hp1
  exact ⟨k, m', t', _, _, hr, hJ⟩

theorem roundsO_sound (C : Good P) (h0 : RecOk P true rec) (h1 : RecOk P false rec) {bs : List Frame} : ∀ (l : List Round) {no nt : Nat} {pa ca pa' ca' : AG} {s s' : St} {m : Machine} {t : Trace}, Joint P L W0 I co ct wg cb bs no nt pa ca s m t → roundsO P rec U hasU co ct l pa ca s = some (pa', ca', s') →
    ∃ k m' t' no' nt', runNT P k m t = (.next m', t') ∧ Joint P L W0 I co ct wg cb bs no' nt' pa' ca' s' m' t'
  | [], no, nt, pa, ca, pa', ca', s, s', m, t, J, h => by
    simp only [roundsO, Option.some.injEq, Prod.mk.injEq] at h
    obtain ⟨rfl, rfl, rfl⟩ := h
    exact ⟨0, m, t, no, nt, rfl, J⟩
  | r :: l, no, nt, pa, ca, pa', ca', s, s', m, t, J, h => by
    simp only [roundsO] at h
    obtain ⟨⟨pa1, ca1, s1⟩, hx, h⟩ := bind_some h
    obtain ⟨k, m1, t1, no1, nt1, hr, J1⟩ := roundO_sound C h0 h1 J hx
    obtain ⟨k2, m2, t2, no2, nt2, hr2, J2⟩ := roundsO_sound C h0 h1 l J1 h
    exact ⟨k + k2, m2, t2, no2, nt2, by rw [runNT_add, hr]; exact hr2, J2⟩

theorem lastO_sound (H : WgLib P L) (C : Good P) (h0 : RecOk P true rec) {l : Plan} {no nt : Nat} {pa ca : AG} {s sF : St} {m : Machine} {t : Trace} {vF : AV} (J : Joint P L W0 I l.co l.ct wg l.cb [] no nt pa ca s m t) (h : lastO P L rec U hasU l wg pa ca s = some (vF, sF)) :
    Ends P m t (PostG P W0 I vF sF) := by
  unfold lastO at h
  simp only at h
  obtain ⟨c, hc, h⟩ := bind_some h
  obtain ⟨aC, haC, h⟩ := bind_some h
  obtain ⟨args, hargs, h⟩ := bind_some h
  obtain ⟨aR, haR, h⟩ := bind_some h
  obtain ⟨v, hv, h⟩ := bind_some h
  obtain ⟨⟨ui, uz⟩, hu, h⟩ := bind_some h
  obtain ⟨aQ, haQ, h⟩ := bind_some h
  obtain ⟨fn, hfn, h⟩ := bind_some h
  obtain ⟨hall, h⟩ := bif_some h
  cases h
  simp only [Bool.and_eq_true, Bool.not_eq_true', Option.isNone_iff_eq_none] at hall
  obtain ⟨⟨⟨⟨⟨⟨⟨⟨⟨q1, q2⟩, q3⟩, q4⟩, q5⟩, q6⟩, q7⟩, q8⟩, q9⟩, q10⟩ := hall
  have e1 := of_beqT q1
  have e4 := of_beqT q4
  subst e1
  rw [e4] at hu
  have hcs : ca.cs = [] := by
    split at q7
    · assumption
    · cases q7
  have hw : args = [.ptr wg 0] := by
    split at q2
    · rw [of_beqT q2]
    · cases q2
  obtain ⟨csB, ety, hcb⟩ : ∃ csB ety, s.get l.cb = some (.cells csB ety) := by
    split at q9
    · rename_i cs e hs
      exact ⟨cs, e, hs⟩
    · cases q9
  have hds : (advP P l.nQ aQ).ds = [.inl { fn := .func L.done, captured := [], args := [.ptr wg 0] }] := by
    split at q10
    · rename_i d w hd
      simp only [Bool.and_eq_true] at q10
      rw [hd, of_beqT q10.1, of_beqT q10.2]
    · cases q10
  have hres : fn.results = #[] := Array.isEmpty_iff.1 q8
  exact joint_end H C J hcb hcs (segs_sound C h0 l.close pa _) hc haC rfl (hw ▸ hargs) haR (segs_sound C h0 l.rest _ _) hv q3 rfl hu haQ rfl q5 q6 hds hfn hres

/-- THE WHOLE RUN. -/
theorem wholeO_sound (H : WgLib P L) (C : Good P) (h0 : RecOk P true rec) (h1 : RecOk P false rec) {l : Plan} {s0 sF : St} {vF : AV} (h : wholeO P L rec U hasU l s0 = some (vF, sF))
    {ρ0 : Map} (hR0 : Rel (FW.A ⟨W0, I⟩) P ρ0 s0 W0.heap) (htop0 : ∀ id, s0.next ≤ id → ρ0 id = none) : Ends P (solo (G (Frame.enter P l.fid #[] .normal) []) W0) #[] (PostG P W0 I vF sF) := by
  unfold wholeO at h
  obtain ⟨⟨wg, pa, ca, s⟩, hf, h⟩ := bind_some h
  obtain ⟨⟨pa', ca', s'⟩, hr, hl⟩ := bind_some h
  simp only at hr hl
  unfold firstO at hf
  simp only at hf
  obtain ⟨a0, ha0, hf⟩ := bind_some hf
  obtain ⟨tw, htw, hf⟩ := bind_some hf
  obtain ⟨aA', haA, hf⟩ := bind_some hf
  obtain ⟨args, hargs, hf⟩ := bind_some hf
  obtain ⟨aB', haB, hf⟩ := bind_some hf
  obtain ⟨⟨gf, ga, gc⟩, hgo, hf⟩ := bind_some hf
  obtain ⟨aG', haG, hf⟩ := bind_some hf
  obtain ⟨aK, haK, hf⟩ := bind_some hf
  obtain ⟨⟨i0, u0⟩, ho0, hf⟩ := bind_some hf
  obtain ⟨⟨i1, u1⟩, ho1, hf⟩ := bind_some hf
  obtain ⟨hall, hf⟩ := bif_some hf
  obtain ⟨pf, hp0, hf⟩ := bind_some hf
  obtain ⟨cf, hp1, hf⟩ := bind_some hf
  cases hf
  simp only [Bool.and_eq_true, Bool.not_eq_true', Option.isNone_iff_eq_none] at hall
  obtain ⟨⟨⟨⟨⟨⟨⟨⟨⟨⟨⟨⟨⟨q1, q2⟩, q3⟩, q4⟩, q5⟩, q6⟩, q7⟩, q8⟩, q9⟩, q10⟩, q11⟩, q12⟩, q13⟩, q14⟩ := hall
  have e1 := of_beqT q1
  subst e1
  have e4 := of_beqT q4
  have e5 := of_beqT q5
  subst e4
  rw [e5] at ho1
  have hne : l.co ≠ l.ct := of_beqF q6
  have hw : args = [.ptr (segs P rec U hasU l.a { top := a0, cs := [] } s0).2.next 0, .int .i64 1] := by
    split at q2
    · rw [of_beqT q2]
    · cases q2
  have hch : ∀ (x y : Option AObj), (match x, y with | some .chan, some .chan => true | _, _ => false) = true → x = some .chan ∧ y = some .chan := by
    intro x y h
    split at h
    · exact ⟨rfl, rfl⟩
    · cases h
  obtain ⟨hco, hct⟩ := hch _ _ q7
  have hglob : ∀ j, (s0.get j).isSome → ((segs P rec U hasU l.b { top := aA', cs := (segs P rec U hasU l.a { top := a0, cs := [] } s0).1.cs } { (segs P rec U hasU l.a { top := a0, cs := [] } s0).2 with next := (segs P rec U hasU l.a { top := a0, cs := [] } s0).2.next + 1 }).2.get j).isSome := by
    intro j hj
    obtain ⟨oj, hoj⟩ := Option.isSome_iff_exists.1 hj
    obtain ⟨lj, hlj, _⟩ := hR0.obj j oj hoj
    have hlt : j < s0.next := by
      rcases Nat.lt_or_ge j s0.next with h | h
      · exact h
      · rw [htop0 j h] at hlj; cases hlj
    exact List.all_eq_true.1 q14 j (List.mem_range.2 hlt)
  obtain ⟨k1, m1, t1, hr1, J1⟩ := lone_joint (I := I) H C ha0 (args0' := #[]) (ρ0 := ρ0) .nil hR0 htop0 (segs_sound C h0 l.a _ _) htw haA (segs_sound C h0 l.b _ _) (hw ▸ hargs) haB (segs_sound C h0 l.g _ _) hgo haG haK hglob ⟨q8, q9, q10⟩ ⟨q11, q12, q13⟩ hco hct hne
    (q := mem l.q1) (n1 := l.n1) (segs_sound C h0 l.p1 _ _) (Nat.le_of_ble_eq_true q3) (segs_sound C h1 l.k1 _ _) ho0 ho1 hp0 hp1
  obtain ⟨k2, m2, t2, no, nt, hr2, J2⟩ := roundsO_sound C h0 h1 l.rounds J1 hr
  exact Ends.after hr1 (Ends.after hr2 (lastO_sound H C h0 J2 hl))

end
end Go.Ab

