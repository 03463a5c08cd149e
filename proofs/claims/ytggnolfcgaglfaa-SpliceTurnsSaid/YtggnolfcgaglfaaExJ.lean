/- Code, reckoned: pieces that are met by several ways, loops, functions. -/
import Derived.Test.YtggnolfcgaglfaaExI
set_option linter.unusedVariables false
set_option linter.unusedSimpArgs false
namespace Go.Proofs.Ytggnolfcgaglfaa
open Go Go.RowKit
noncomputable section

def exitB : Exit → Exit → Bool
  | .normal, .normal => true
  | .ret, .ret => true
  | .exit i, .exit j => Nat.beq i j
  | _, _ => false
theorem exitB_ok {x y : Exit} (h : exitB x y = true) : x = y := by
  unfold exitB at h
  split at h
  · rfl
  · rfl
  · rw [Nat.eq_of_beq_eq_true h]
  · cases h
/-- the ways out, each with its form -/
@[reducible] def OVal : List (Exit × PS) → Type
  | [] => Unit
  | [o] => Tup o.2.c
  | o :: p :: r => Sum (Tup o.2.c) (OVal (p :: r))
def oProj : (os : List (Exit × PS)) → Exit → ESt → Option (OVal os)
  | [], _, _ => none
  | [o], x, E => cond (exitB o.1 x) (canonP o.2 E some) none
  | o :: p :: r, x, E => cond (exitB o.1 x) (canonP o.2 E fun a => some (.inl a)) (match oProj (p :: r) x E with
    | some b => some (.inr b)
    | none => none)
def oElim (n : Nat) : (os : List (Exit × PS)) → OVal os → {R : Type} → (Exit → ESt → Option R) → Option R
  | [], _, _, _ => none
  | [o], v, _, k => k o.1 (mkPS n o.2 v)
  | o :: p :: r, v, _, k => match v with
    | .inl a => k o.1 (mkPS n o.2 a)
    | .inr b => oElim n (p :: r) b k
/-- how a piece of code is reckoned: plainly; on its own, between forms -/
inductive Pl where
  | z
  | n (a b : Pl)
  | join (ins : PS) (outs : List (Exit × PS)) (p : Pl)
  | loop (ins : PS) (outs : List (Exit × PS)) (p : Pl)
def Pl.l : Pl → Pl
  | .n a _ => a
  | _ => .z
def Pl.r : Pl → Pl
  | .n _ b => b
  | _ => .z
abbrev ExT := Pl → ESt → (R : Type) → (Exit → ESt → Option R) → Option R
def joinF (f : ExT) (n : Nat) (ins : PS) (outs : List (Exit × PS)) (p : Pl) : Nat → Tup ins.c → Option (OVal outs)
  | 0, _ => none
  | _ + 1, v => f p (mkPS n ins v) _ (oProj outs)
def loopF (f : ExT) (n : Nat) (ins : PS) (outs : List (Exit × PS)) (p : Pl) : Nat → Tup ins.c → Option (OVal outs)
  | 0, _ => none
  | m + 1, v => f p (mkPS n ins v) _ fun x E => match x with
    | .normal => canonP ins E (loopF f n ins outs p m)
    | x => oProj outs x E
def loopX (N : Nat) (fa : ExT) : ExT := fun pl E _ k => match pl with
  | .loop ins outs p => canonP ins E fun v => obind (loopF fa E.n ins outs p N v) fun o => oElim E.n outs o k
  | _ => none
def wrapF (N : Nat) (f : ExT) : ExT := fun pl E _ k => match pl with
  | .join ins outs p => canonP ins E fun v => obind (joinF f E.n ins outs p N v) fun o => oElim E.n outs o k
  | pl => f pl E _ k
/-- slots whose slices are cut more than once in a region: lent ahead of it -/
def rootL (i : Nat) : List Oper → Nat
  | [] => i
  | o :: l => match o.dst with
    | some d => cond (Nat.beq d i) (match o.op with
      | .move (.tmp j) => j
      | _ => i) (rootL i l)
    | none => rootL i l
def slicedL (l0 : List Oper) : List Oper → List Nat
  | [] => []
  | o :: l => match o.op with
    | .slice _ (.tmp i) _ _ _ => rootL i l0 :: slicedL l0 l
    | _ => slicedL l0 l
def dupL : List Nat → List Nat
  | [] => []
  | i :: l => cond (l.any (Nat.beq i)) (i :: dupL l) (dupL l)
def preS : List Nat → ESt → ESt
  | [], E => E
  | i :: l, E => preS l (nameS [] i (.h .u) E)
def preE (l : List Oper) (E : ESt) : ESt := preS (dupL (slicedL l l)) E
section
variable {P : Program}
theorem preS_ok : ∀ (l : List Nat) (E : ESt), SLe P (encE E) (encE (preS l E)) ∧ (preS l E).n = E.n
  | [], E => ⟨SLe.refl, rfl⟩
  | i :: l, E => ⟨SLe.trans (nameS_ok [] i _ E) (preS_ok l _).1, (preS_ok l _).2.trans (nameS_n [] i _ E)⟩
end
section
variable (T : TypeId → TInfo) (CT : List Ctr) (N : Nat)
noncomputable def exC (c : Code) : ExT :=
  Code.rec (motive := fun _ => ExT)
    (fun _ E _ k => k .normal E)
    (fun _ ops draw => wrapF N fun _ E _ k => cond draw (exD T CT ops.toList (preE ops.toList E) ops.toList [] (k .normal)) (exL T CT ops.toList ops.toList E (k .normal)))
    (fun _ _ fa fb => wrapF N fun pl E _ k => fa pl.l E _ fun x E' => match x with
      | .normal => fb pl.r E' _ k
      | x => k x E')
    (fun c _ _ fa fb => wrapF N fun pl E _ k => match evx (eget E.t) c with
      | .sc .b b => match c with
        | .tmp i => cond b (fa pl.l ⟨E.n, (i, .sc .b true) :: E.t, E.h⟩ _ k) (fb pl.r ⟨E.n, (i, .sc .b false) :: E.t, E.h⟩ _ k)
        | _ => cond b (fa pl.l E _ k) (fb pl.r E _ k)
      | _ => none)
    (fun id _ fa => wrapF N fun pl E _ k => fa pl.l E _ fun x E' => match x with
      | .exit i => cond (Nat.beq i id) (k .normal E') (k (.exit i) E')
      | x => k x E')
    (fun _ fa => loopX N fa)
    (fun _ _ _ _ _ _ => fun _ _ _ _ => none)
    (fun id _ E _ k => k (.exit id) E)
    (fun _ fa => fun pl E _ k => fa pl.l E _ fun x E' => match x with
      | .goto _ => none
      | x => k x E')
    (fun _ => fun _ E _ k => k .normal E)
    (fun _ => fun _ _ _ _ => none)
    (fun _ E _ k => k .ret E)
    (fun _ => fun _ _ _ _ => none)
    c
end
section
variable {P : Program} {T : TypeId → TInfo} {CT : List Ctr} {N : Nat}
/-- what is asked of a piece -/
def ExOk (P : Program) (c : Code) (f : ExT) : Prop := ∀ (pl : Pl) (E : ESt) (R : Type) (k : Exit → ESt → Option R) (r : R), f pl E R k = some r → AC P c (encE E) fun x s => ∃ E', s = encE E' ∧ E'.n = E.n ∧ k x E' = some r
theorem oElim_some {n : Nat} : ∀ {os : List (Exit × PS)} {o : OVal os} {R : Type} {k : Exit → ESt → Option R} {r : R}, oElim n os o k = some r → ∀ {x : Exit} {E : ESt}, oProj os x E = some o → E.n = n → ∃ E2, SLe P (encE E) (encE E2) ∧ E2.n = n ∧ k x E2 = some r
  | [], o, R, k, r, h, x, E, hp, hn => by cases hp
  | [o1], o, R, k, r, h, x, E, hp, hn => by
    simp only [oProj] at hp
    obtain ⟨h1, h2⟩ := cond_none hp
    have := exitB_ok h1
    subst this
    obtain ⟨y, this, hy⟩ := canonP_ok (P := P) h2
    cases hy
    rw [hn] at this
    exact ⟨_, this, rfl, h⟩
  | o1 :: p :: rr, o, R, k, r, h, x, E, hp, hn => by
    simp only [oProj] at hp
    rcases cond_some hp with ⟨h1, h2⟩ | ⟨h1, h2⟩
    · have := exitB_ok h1
      subst this
      obtain ⟨y, this, hy⟩ := canonP_ok (P := P) h2
      cases hy
      rw [hn] at this
      exact ⟨_, this, rfl, h⟩
    · split at h2
      · rename_i b hb
        cases h2
        exact oElim_some (os := p :: rr) h hb hn
      · cases h2
/-- the ways out of a piece on its own, and what follows -/
theorem ExOk.out {c : Code} {E0 E : ESt} {outs : List (Exit × PS)} {o : OVal outs} {R : Type} {k : Exit → ESt → Option R} {r : R} (h : AC P c (encE E) fun x s => ∃ E', s = encE E' ∧ E'.n = E.n ∧ oProj outs x E' = some o) (hk : oElim E.n outs o k = some r) :
    AC P c (encE E) fun x s => ∃ E', SLe P s (encE E') ∧ E'.n = E.n ∧ k x E' = some r := by
  refine h.mono fun x s => ?_
  rintro ⟨E', rfl, hn, hp⟩
  exact oElim_some hk hp hn
/-- behind a piece its frame may be known as less -/
theorem AC.leK {c : Code} {st : St} {Post : Exit → St → Prop} (h : AC P c st fun x s => ∃ s', SLe P s s' ∧ Post x s') : AC P c st Post := by
  intro w0 Rd0 e a w Q hg hn
  refine h w0 Rd0 e a w Q hg fun x s hs e' a' w' hg' => ?_
  obtain ⟨s', hle, hp⟩ := hs
  obtain ⟨e2, hg2⟩ := hle w0 Rd0 e' a' w' hg'
  exact hn x s' hp e2 a' w' hg2
theorem wrapF_ok {c : Code} {f : ExT} (hf : ExOk P c f) : ExOk P c (wrapF N f) := by
  intro pl E R k r h
  unfold wrapF at h
  split at h
  · rename_i ins outs p
    obtain ⟨v, hc, h1⟩ := canonP_ok (P := P) h
    obtain ⟨o, ho, h2⟩ := obind_some h1
    cases N with
    | zero => cases ho
    | succ M =>
      have := hf p (mkPS E.n ins v) _ _ _ ho
      have h3 := ExOk.out (E := mkPS E.n ins v) (E0 := E) (k := k) (r := r) this h2
      refine AC.le hc (AC.leK (h3.mono fun x s => ?_))
      rintro ⟨E', hle, hn, hk⟩
      exact ⟨_, hle, E', rfl, hn, hk⟩
  · exact hf _ E R k r h
theorem loopF_ok {c : Code} {f : ExT} (hf : ExOk P c f) (n : Nat) (ins : PS) (outs : List (Exit × PS)) (p : Pl) (o : OVal outs) (m : Nat) (v : Tup ins.c) (h : loopF f n ins outs p m v = some o) :
    AC P (.loop c) (encE (mkPS n ins v)) fun x s => ∃ E', s = encE E' ∧ E'.n = n ∧ oProj outs x E' = some o := by
  refine AC.loop (α := {q : Nat × Tup ins.c // loopF f n ins outs p q.1 q.2 = some o}) (fun q => encE (mkPS n ins q.1.2)) (fun q => q.1.1) ⟨(m, v), h⟩ SLe.refl ?_
  rintro ⟨⟨m, v⟩, h⟩
  cases m with
  | zero => cases h
  | succ m =>
    simp only [loopF] at h
    have := hf p (mkPS n ins v) _ _ _ h
    refine AC.mono this fun x s => ?_
    rintro ⟨E', rfl, hn, hk⟩
    cases x with
    | normal =>
      obtain ⟨v', hc, h2⟩ := canonP_ok (P := P) hk
      rw [hn] at hc
      exact ⟨⟨(m, v'), h2⟩, hc, Nat.lt_succ_self m⟩
    | exit i => exact ⟨E', rfl, hn, hk⟩
    | goto l => exact ⟨E', rfl, hn, hk⟩
    | ret => exact ⟨E', rfl, hn, hk⟩
    | panic ch => exact ⟨E', rfl, hn, hk⟩
    | outgrown => exact ⟨E', rfl, hn, hk⟩
theorem exStep_n {o : Oper} {E : ESt} {R : Type} {k : ESt → Option R} : exStep T CT o E (fun E' => cond (Nat.beq E'.n E.n) (k E') none) = exStep T CT o E k := by
  unfold exStep exIt
  split
  · split
    · split
      · split <;> simp only [Nat.beq_refl, cond_true]
      · rfl
    · split <;> simp only [Nat.beq_refl, cond_true]
    · split <;> simp only [Nat.beq_refl, cond_true]
  split <;> simp only [Nat.beq_refl, cond_true]
theorem exL_nn {ops : List Oper} : ∀ {l : List Oper} {E : ESt} {n : Nat} {R : Type} {k : ESt → Option R}, E.n = n → exL T CT ops l E (fun E' => cond (Nat.beq E'.n n) (k E') none) = exL T CT ops l E k
  | [], E, n, R, k, hn => by simp only [exL, hn, Nat.beq_refl, cond_true]
  | o :: l, E, n, R, k, hn => by
    subst hn
    have step : ∀ (E1 : ESt), E1.n = E.n → exStep T CT o E1 (fun E' => exL T CT ops l E' fun E' => cond (Nat.beq E'.n E.n) (k E') none) = exStep T CT o E1 (fun E' => exL T CT ops l E' k) := by
      intro E1 h1
      unfold exStep exIt
      have e := fun (t : List (Nat × EV)) (h : EHp) => exL_nn (ops := ops) (l := l) (k := k) (E := ⟨E1.n, t, h⟩) h1
      split
      · split
        · split
          · split <;> simp only [e]
          · rfl
        · split <;> simp only [e]
        · split <;> simp only [e]
      split <;> simp only [e]
    have skip : ∀ (E1 : ESt), E1.n = E.n → (exL T CT ops l (skipE o.dst E1) fun E' => cond (Nat.beq E'.n E.n) (k E') none) = exL T CT ops l (skipE o.dst E1) k := fun E1 h1 => exL_nn (E := skipE o.dst E1) h1
    simp only [exL, exG]
    split
    · exact step E rfl
    · split
      · split
        · rename_i s _ _ c _
          rw [step ⟨E.n, (s, .sc .b true) :: E.t, E.h⟩ rfl, step ⟨E.n, (s, .sc .b false) :: E.t, E.h⟩ rfl, skip ⟨E.n, (s, .sc .b true) :: E.t, E.h⟩ rfl, skip ⟨E.n, (s, .sc .b false) :: E.t, E.h⟩ rfl]
        · rw [skip E rfl]
        · rfl
      · rfl
theorem exL_n {ops l : List Oper} {E : ESt} {R : Type} {k : ESt → Option R} {r : R} (h : exL T CT ops l E k = some r) : exL T CT ops l E (fun E' => cond (Nat.beq E'.n E.n) (k E') none) = some r := by rw [exL_nn rfl]; exact h
theorem exD_nn {l : List Oper} {E : ESt} : ∀ {rest : List Oper} {done : List EEn} {R : Type} {k : ESt → Option R}, exD T CT l E rest done (fun E' => cond (Nat.beq E'.n E.n) (k E') none) = exD T CT l E rest done k
  | [], done, R, k => by simp only [exD, Nat.beq_refl, cond_true]
  | o :: rest, done, R, k => by
    simp only [exD, exD_nn (rest := rest)]
theorem exD_n {l rest : List Oper} {E : ESt} {done : List EEn} {R : Type} {k : ESt → Option R} {r : R} (h : exD T CT l E rest done k = some r) : exD T CT l E rest done (fun E' => cond (Nat.beq E'.n E.n) (k E') none) = some r := by rw [exD_nn]; exact h
/-- A PIECE, RECKONED, IS WALKED -/
theorem exC_ok (hp : Place P T CT) (c : Code) : ExOk P c (exC T CT N c) := by
  induction c with
  | skip =>
    intro pl E R k r h
    exact AC.skip ⟨E, rfl, rfl, h⟩
  | region id ops draw =>
    refine wrapF_ok (f := fun _ E _ k => cond draw (exD T CT ops.toList (preE ops.toList E) ops.toList [] (k .normal)) (exL T CT ops.toList ops.toList E (k .normal))) ?_
    intro pl E R k r h
    have hops : ops = ops.toList.toArray := by simp
    cases draw with
    | true =>
      have := exD_region hp (id := id) (k := fun E' => cond (Nat.beq E'.n (preE ops.toList E).n) (k .normal E') none) (l := ops.toList) (E := preE ops.toList E) (r := r) (by
        exact exD_n h)
      rw [hops]
      refine AC.le (preS_ok (P := P) (dupL (slicedL ops.toList ops.toList)) E).1 ?_
      rw [show (preE ops.toList E).n = E.n from (preS_ok (P := P) (dupL (slicedL ops.toList ops.toList)) E).2] at this
      refine this.mono fun x s => ?_
      rintro ⟨rfl, E', rfl, hk⟩
      obtain ⟨h1, h2⟩ := cond_none hk
      exact ⟨E', rfl, Nat.eq_of_beq_eq_true h1, h2⟩
    | false =>
      have := exL_region hp (id := id) (k := fun E' => cond (Nat.beq E'.n E.n) (k .normal E') none) (l := ops.toList) (E := E) (r := r) (exL_n h)
      rw [hops]
      refine this.mono fun x s => ?_
      rintro ⟨rfl, E', rfl, hk⟩
      obtain ⟨h1, h2⟩ := cond_none hk
      exact ⟨E', rfl, Nat.eq_of_beq_eq_true h1, h2⟩
  | seq a b iha ihb =>
    refine wrapF_ok (f := fun pl E _ k => exC T CT N a pl.l E _ fun x E' => match x with
      | .normal => exC T CT N b pl.r E' _ k
      | x => k x E') ?_
    intro pl E R k r h
    refine AC.seq ((iha pl.l E R _ r h).mono fun x s => ?_)
    rintro ⟨E', rfl, hn, hk⟩
    cases x with
    | normal =>
      refine (ihb pl.r E' R k r hk).mono fun x s => ?_
      rintro ⟨E2, rfl, hn2, hk2⟩
      exact ⟨E2, rfl, hn2.trans hn, hk2⟩
    | exit i => exact ⟨E', rfl, hn, hk⟩
    | goto l => exact ⟨E', rfl, hn, hk⟩
    | ret => exact ⟨E', rfl, hn, hk⟩
    | panic ch => exact ⟨E', rfl, hn, hk⟩
    | outgrown => exact ⟨E', rfl, hn, hk⟩
  | cond c a b iha ihb =>
    refine wrapF_ok (f := fun pl E _ k => match evx (eget E.t) c with
      | .sc .b bb => match c with
        | .tmp i => cond bb (exC T CT N a pl.l ⟨E.n, (i, .sc .b true) :: E.t, E.h⟩ _ k) (exC T CT N b pl.r ⟨E.n, (i, .sc .b false) :: E.t, E.h⟩ _ k)
        | _ => cond bb (exC T CT N a pl.l E _ k) (exC T CT N b pl.r E _ k)
      | _ => none) ?_
    intro pl E R k r h
    simp only at h
    split at h
    · rename_i bb hc
      have hev := (Sk.enc E).is hc (by intro e; cases e)
      split at h
      · rename_i i
        rcases cond_some h with ⟨hb, h1⟩ | ⟨hb, h1⟩
        · subst hb
          exact AC.condT hev (AC.le (SLe.slotE (P := P) hc) (iha pl.l _ R k r h1))
        · subst hb
          exact AC.condF hev (AC.le (SLe.slotE (P := P) hc) (ihb pl.r _ R k r h1))
      · rcases cond_some h with ⟨hb, h1⟩ | ⟨hb, h1⟩
        · subst hb
          exact AC.condT hev (iha pl.l _ R k r h1)
        · subst hb
          exact AC.condF hev (ihb pl.r _ R k r h1)
    · cases h
  | block id a iha =>
    refine wrapF_ok (f := fun pl E _ k => exC T CT N a pl.l E _ fun x E' => match x with
      | .exit i => cond (Nat.beq i id) (k .normal E') (k (.exit i) E')
      | x => k x E') ?_
    intro pl E R k r h
    refine AC.block ((iha pl.l E R _ r h).mono fun x s => ?_)
    rintro ⟨E', rfl, hn, hk⟩
    cases x with
    | exit i =>
      simp only [PBlock]
      rcases cond_some hk with ⟨h1, h2⟩ | ⟨h1, h2⟩
      · rw [if_pos (Nat.eq_of_beq_eq_true h1)]
        exact ⟨E', rfl, hn, h2⟩
      · rw [if_neg (fun e => by rw [e, Nat.beq_refl] at h1; cases h1)]
        exact ⟨E', rfl, hn, h2⟩
    | normal => exact ⟨E', rfl, hn, hk⟩
    | goto l => exact ⟨E', rfl, hn, hk⟩
    | ret => exact ⟨E', rfl, hn, hk⟩
    | panic ch => exact ⟨E', rfl, hn, hk⟩
    | outgrown => exact ⟨E', rfl, hn, hk⟩
  | loop a iha =>
    intro pl E R k r h
    change loopX N (exC T CT N a) pl E R k = some r at h
    unfold loopX at h
    split at h
    · rename_i ins outs p
      obtain ⟨v, hc, h1⟩ := canonP_ok (P := P) h
      obtain ⟨o, ho, h2⟩ := obind_some h1
      have := loopF_ok iha E.n ins outs p o N v ho
      have h3 := ExOk.out (E := mkPS E.n ins v) (E0 := E) (k := k) (r := r) this h2
      refine AC.le hc (AC.leK (h3.mono fun x s => ?_))
      rintro ⟨E', hle, hn, hk⟩
      exact ⟨_, hle, E', rfl, hn, hk⟩
    · cases h
  | exit id =>
    intro pl E R k r h
    exact AC.exit ⟨E, rfl, rfl, h⟩
  | scope a iha =>
    intro pl E R k r h
    refine AC.scope ((iha pl.l E R _ r h).mono fun x s => ?_)
    rintro ⟨E', rfl, hn, hk⟩
    cases x with
    | goto l => cases hk
    | exit i => exact ⟨fun l e => (by cases e), E', rfl, hn, hk⟩
    | normal => exact ⟨fun l e => (by cases e), E', rfl, hn, hk⟩
    | ret => exact ⟨fun l e => (by cases e), E', rfl, hn, hk⟩
    | panic ch => exact ⟨fun l e => (by cases e), E', rfl, hn, hk⟩
    | outgrown => exact ⟨fun l e => (by cases e), E', rfl, hn, hk⟩
  | label l =>
    intro pl E R k r h
    exact AC.label ⟨E, rfl, rfl, h⟩
  | ret =>
    intro pl E R k r h
    exact AC.ret ⟨E, rfl, rfl, h⟩
  | _ =>
    intro pl E R k r h
    cases h
end
end
end Go.Proofs.Ytggnolfcgaglfaa
