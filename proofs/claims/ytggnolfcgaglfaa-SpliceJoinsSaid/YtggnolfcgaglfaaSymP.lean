/- REGIONS THAT DRAW THEIR ORDER: the walk in the text's order. -/
import Derived.Test.YtggnolfcgaglfaaSymO
set_option linter.unusedVariables false
set_option linter.unusedSimpArgs false
namespace Go.Proofs.Ytggnolfcgaglfaa
open Go Go.RowKit

def ffB : Nat → Bool := fun _ => false
mutual
theorem nom_ff : ∀ c : AV, c.nom ffB = true
  | .un => rfl
  | .v _ => rfl
  | .sl _ _ _ => rfl
  | .fp _ => rfl
  | .ow _ => rfl
  | .pt _ _ => rfl
  | .pe _ _ _ _ => rfl
  | .sw _ _ _ _ => rfl
  | .mp _ => rfl
  | .ag cs => by rw [AV.nom]; exact nomL_ff cs
  | .tu cs => by rw [AV.nom]; exact nomL_ff cs
  | .cl _ fs cs => by rw [AV.nom, nomL_ff fs, nomL_ff cs]; rfl
theorem nomL_ff : ∀ cs : List AV, AV.nomL ffB cs = true
  | [] => rfl
  | c :: cs => by rw [AV.nomL, nom_ff c, nomL_ff cs]; rfl
end
theorem tnop_ff (t : List (Nat × AV)) : tnop ffB t = true := by simp [tnop, nom_ff]
theorem Ob.nom_ff (o : Ob) : o.nom ffB = true := by cases o <;> simp [Ob.nom, nomL_ff]
theorem hnop_ff (h : Hp) : hnop ffB h = true := by
  simp only [hnop, List.all_eq_true, Bool.and_eq_true]
  intro q _
  refine ⟨rfl, ?_⟩
  split
  · exact Ob.nom_ff _
  · rfl

def rowsE (done : List En) : List Edge → List (Nat × AV)
  | [] => []
  | e :: es => if Region.binds .any e then match done[e.on]? with
      | some v => match v.d with
        | some d => (d, v.c) :: rowsE done es
        | none => rowsE done es
      | none => rowsE done es
    else rowsE done es
def rowsV (st0 : St) : List Nat → List (Nat × AV)
  | [] => []
  | x :: xs => (x, tget st0.t x) :: rowsV st0 xs
def rowsH (st0 : St) (done : List En) : List Nat → Hp
  | [] => []
  | k :: ks => (k, hget (finH st0.h done) k) :: rowsH st0 done ks
/-- the slots that no operation writes -/
def LT0 (l : List Oper) (st0 : St) : List (Nat × AV) → Prop
  | [] => True
  | (x, c) :: rows => (l.all fun o => o.dst != some x) = true ∧ tget st0.t x = c ∧ LT0 l st0 rows

/-- what is known when an operation comes -/
structure Obl (st0 : St) (rows0 : List (Nat × AV)) (done : List En) (o : Oper) (u : En) (vs : List Nat) (st : St) : Prop where
  n : st.n = st0.n
  h0 : LT st.t rows0
  hE : LT st.t (rowsE done o.after.toList)
  hv : LT st.t (rowsV st0 vs)
  hh : LH st.h (rowsH st0 done u.us)
  ft : ∀ x, (tget st.t x).nom u.fr = true
  fh : ∀ k ob, hget st.h k = some ob → ob.nom u.fr = true
  fk : ∀ k, u.fr k = true → hget st.h k = none

structure PD (P : Program) (l : List Oper) (st0 : St) (pl : List En) : Prop where
  len : pl.length ≤ l.length
  step : ∀ (j : Nat) o u, l[j]? = some o → pl[j]? = some u → o.dst = u.d ∧ DS P l st0 (pl.take j) o u
  fit : ∀ (i j : Nat) v u, i < j → pl[i]? = some v → pl[j]? = some u → pairB l i j v u ∧ newB l i j v u
  new0 : ∀ (j : Nat) u, pl[j]? = some u → tnop u.fr st0.t = true ∧ hnop u.fr st0.h = true

def quietEn (u : En) : Prop := u.os = [] ∧ u.fr = ffB
/-- WALK of a region that draws: what is left of it, what is done, and of that what makes something -/
def AD (P : Program) (l : List Oper) (st0 : St) (rows0 : List (Nat × AV)) (rest : List Oper) (done : List En) (act : List (Nat × En)) (K : St → Prop) : Prop :=
  LT0 l st0 rows0 → rest = l.drop done.length → PD P l st0 done → (∀ (i : Nat) v, done[i]? = some v → quietEn v ∨ (i, v) ∈ act) → ∃ pl, Plan P l st0 pl ∧ K ⟨st0.n, finT st0.t pl, finH st0.h pl⟩
def backB : Nat → List Oper → Bool
  | _, [] => true
  | j, o :: l => o.after.all (fun e => !Region.binds .any e || Nat.blt e.on j) && backB (j + 1) l
theorem backB_get : ∀ {j0 : Nat} {l : List Oper}, backB j0 l = true → ∀ (j : Nat) o, l[j]? = some o → ∀ e ∈ o.after, Region.binds .any e = true → e.on < j0 + j
  | j0, [], _, j, o, h => by simp at h
  | j0, x :: l, hb, j, o, h => by
    simp only [backB, Bool.and_eq_true] at hb
    cases j with
    | zero =>
      simp at h; subst h
      intro e he hbi
      have := (Array.all_eq_true'.1 hb.1) e he
      simpa [hbi] using this
    | succ j =>
      intro e he hbi
      have := backB_get hb.2 j o (by simpa using h) e he hbi
      omega

section
variable {P : Program} {l : List Oper} {st0 : St} {rows0 : List (Nat × AV)} {rest : List Oper} {done : List En} {act : List (Nat × En)} {K : St → Prop}

theorem LT0_ok : ∀ {rows0 : List (Nat × AV)}, LT0 l st0 rows0 → ∀ {st : St}, (∀ x, (l.all fun o => o.dst != some x) = true → tget st.t x = tget st0.t x) → LT st.t rows0
  | [], _, _, _ => trivial
  | (x, c) :: rows, h, st, hs => ⟨(hs x h.1).trans h.2.1, LT0_ok h.2.2 hs⟩
theorem Kn.obl {o : Oper} {u : En} {st : St} {vs : List Nat} (hk : Kn l st0 done o u st) (hr : LT0 l st0 rows0) (hvs : vs.all (freeS l done.length) = true) : Obl st0 rows0 done o u vs st := by
  refine ⟨hk.n, LT0_ok hr hk.t0, ?_, ?_, ?_, hk.ft, hk.fh, hk.fk⟩
  · have : ∀ es : List Edge, (∀ e ∈ es, e ∈ o.after) → LT st.t (rowsE done es) := by
      intro es
      induction es with
      | nil => intro _; trivial
      | cons e es ih =>
        intro he
        have ih' := ih fun e' he' => he e' (by simp [he'])
        simp only [rowsE]
        split
        · rename_i hb
          split
          · rename_i v hv
            split
            · rename_i d hd
              exact ⟨hk.ts e (he e (by simp)) hb v d hv hd, ih'⟩
            · exact ih'
          · exact ih'
        · exact ih'
    exact this _ fun e he => by simpa using he
  · clear hr
    induction vs with
    | nil => trivial
    | cons x vs ih =>
      simp only [List.all_cons, Bool.and_eq_true] at hvs
      exact ⟨hk.t1 x hvs.1, ih hvs.2⟩
  · have : ∀ us : List Nat, (∀ k ∈ us, k ∈ u.us) → LH st.h (rowsH st0 done us) := by
      intro us
      induction us with
      | nil => intro _; trivial
      | cons k us ih =>
        intro h
        exact ⟨hk.h k (by simpa using h k (by simp)), ih fun k' hk' => h k' (by simp [hk'])⟩
    exact this _ fun _ h => h

theorem AD.nil (h : K ⟨st0.n, finT st0.t done, finH st0.h done⟩) (hd : dstsB l = true) (hb : backB 0 l = true) : AD P l st0 rows0 [] done act K := by
  intro hr hrest hpd _
  have hlen : done.length = l.length := by
    have h1 := hpd.len
    have h2 := congrArg List.length hrest
    simp at h2
    omega
  exact ⟨done, ⟨hlen, hpd.step, hpd.fit, hpd.new0, hd, fun j o ho e he hbi => by have := backB_get hb j o ho e he hbi; omega⟩, h⟩

theorem AD.make {o : Oper} (u : En) (vs : List Nat) (hd : o.dst = u.d) (hvs : vs.all (freeS l done.length) = true) (hstep : ∀ st, Obl st0 rows0 done o u vs st → GS P l.toArray o st (fun s => s = ⟨st.n, tput u.d u.c st.t, u.os ++ st.h⟩))
    (hfit : fitB l u done.length 0 done) (hnew : tnop u.fr st0.t = true ∧ hnop u.fr st0.h = true) (h : AD P l st0 rows0 rest (done ++ [u]) ((done.length, u) :: act) K) : AD P l st0 rows0 (o :: rest) done act K := by
  intro hr hrest hpd hact
  have hlt : done.length < l.length := by
    have h2 := congrArg List.length hrest
    simp at h2
    omega
  have ho : l[done.length]? = some o := by
    have := congrArg (fun x => x[0]?) hrest
    simpa using this.symm
  refine h hr ?_ ⟨by simp; omega, fun j o' u' ho' hu' => ?_, fun i j v u' hij hv hu' => ?_, fun j u' hu' => ?_⟩ fun i v hv => ?_
  · have : l.drop (done.length + 1) = (l.drop done.length).drop 1 := by rw [List.drop_drop]
    rw [List.length_append, List.length_singleton, this, ← hrest]
    rfl
  · rcases Nat.lt_trichotomy j done.length with hj | hj | hj
    · rw [List.getElem?_append_left hj] at hu'
      rw [List.take_append_of_le_length (by omega)]
      exact hpd.step j o' u' ho' hu'
    · subst hj
      simp at hu'
      subst hu'
      obtain rfl := Option.some.inj (ho.symm.trans ho')
      refine ⟨hd, ?_⟩
      rw [List.take_left]
      exact fun st hk => hstep st (hk.obl hr hvs)
    · rw [List.getElem?_eq_none (by simp; omega)] at hu'; cases hu'
  · rcases Nat.lt_trichotomy j done.length with hj | hj | hj
    · rw [List.getElem?_append_left hj] at hu'
      rw [List.getElem?_append_left (by omega)] at hv
      exact hpd.fit i j v u' hij hv hu'
    · subst hj
      simp at hu'
      subst hu'
      rw [List.getElem?_append_left hij] at hv
      have := fitB_get hfit i v hv
      rwa [Nat.zero_add] at this
    · rw [List.getElem?_eq_none (by simp; omega)] at hu'; cases hu'
  · rcases Nat.lt_trichotomy j done.length with hj | hj | hj
    · rw [List.getElem?_append_left hj] at hu'; exact hpd.new0 j u' hu'
    · subst hj
      simp at hu'
      subst hu'
      exact hnew
    · rw [List.getElem?_eq_none (by simp; omega)] at hu'; cases hu'
  · rcases Nat.lt_trichotomy i done.length with hj | hj | hj
    · rw [List.getElem?_append_left hj] at hv
      rcases hact i v hv with h1 | h1
      · exact .inl h1
      · exact .inr (by simp [h1])
    · subst hj
      simp at hv
      subst hv
      exact .inr (by simp)
    · rw [List.getElem?_eq_none (by simp; omega)] at hv; cases hv

/-- where what is made stands to an operation that only reads -/
def fitA (l : List Oper) (c : AV) (us : List Nat) (j : Nat) : List (Nat × En) → Prop
  | [] => True
  | (i, v) :: act => ((v.os.all (fun p => !us.contains p.1) = true ∧ c.nom v.fr = true) ∨ aheadOf l j i = true) ∧ fitA l c us j act
theorem fitA_get {c : AV} {us : List Nat} {j : Nat} : ∀ {act : List (Nat × En)}, fitA l c us j act → ∀ i v, (i, v) ∈ act → (v.os.all (fun p => !us.contains p.1) = true ∧ c.nom v.fr = true) ∨ aheadOf l j i = true
  | [], _, i, v, h => by cases h
  | (i0, v0) :: act, hf, i, v, h => by
    rcases List.mem_cons.1 h with h | h
    · cases h; exact hf.1
    · exact fitA_get hf.2 i v h
theorem AD.read' {o : Oper} (d : Option Nat) (c : AV) (us vs : List Nat) (hd : o.dst = d) (hvs : vs.all (freeS l done.length) = true) (hstep : ∀ st, Obl st0 rows0 done o ⟨d, c, [], us, ffB⟩ vs st → GS P l.toArray o st (fun s => s = ⟨st.n, tput d c st.t, st.h⟩))
    (hfit : fitA l c us done.length act) (h : AD P l st0 rows0 rest (done ++ [⟨d, c, [], us, ffB⟩]) act K) : AD P l st0 rows0 (o :: rest) done act K := by
  intro hr hrest hpd hact
  have hfb : ∀ (i0 : Nat) (ds : List En), (∀ (i : Nat) v, ds[i]? = some v → quietEn v ∨ (i0 + i, v) ∈ act) → fitB l ⟨d, c, [], us, ffB⟩ done.length i0 ds := by
    intro i0 ds
    induction ds generalizing i0 with
    | nil => intro _; trivial
    | cons v ds ih =>
      intro hq
      refine ⟨?_, ?_, ih (i0 + 1) fun i v hv => by
        have := hq (i + 1) v (by simpa using hv)
        rwa [show i0 + (i + 1) = i0 + 1 + i by omega] at this⟩
      · rcases hq 0 v rfl with ⟨h1, h2⟩ | h1
        · exact .inl (by simp [apartB, h1])
        · rcases fitA_get hfit _ v h1 with h2 | h2
          · refine .inl ?_
            simp only [apartB, Bool.and_eq_true, List.all_nil, and_true]
            rw [← h2.1]
            simp [hin]
          · exact .inr h2
      · refine ⟨⟨nom_ff _, hnop_ff _⟩, ?_⟩
        rcases hq 0 v rfl with ⟨h1, h2⟩ | h1
        · exact .inl ⟨by rw [h2]; exact nom_ff _, rfl⟩
        · rcases fitA_get hfit _ v h1 with h2 | h2
          · exact .inl ⟨h2.2, rfl⟩
          · exact .inr h2
  have hmk : AD P l st0 rows0 (o :: rest) done act K := AD.make ⟨d, c, [], us, ffB⟩ vs hd hvs hstep (hfb 0 done fun i v hv => by
      have := hact i v hv
      rwa [Nat.zero_add]) ⟨tnop_ff _, hnop_ff _⟩ (fun hr' hrest' hpd' hact' => h hr' hrest' hpd' fun i v hv => by
      rcases hact' i v hv with h1 | h1
      · exact .inl h1
      · rcases List.mem_cons.1 h1 with h1 | h1
        · cases h1; exact .inl ⟨rfl, rfl⟩
        · exact .inr h1)
  exact hmk hr hrest hpd hact

/-- an operation that only reads -/
theorem AD.read {d : Option Nat} {op : Op} {ty : TypeId} {pos : String} {af : Array Edge} {gd : Option (Nat × Bool)} (c : AV) (us vs : List Nat) (hvs : vs.all (freeS l done.length) = true)
    (hstep : ∀ st, Obl st0 rows0 done ⟨d, op, ty, pos, af, gd⟩ ⟨d, c, [], us, ffB⟩ vs st → GS P l.toArray ⟨d, op, ty, pos, af, gd⟩ st (fun s => s = ⟨st.n, tput d c st.t, st.h⟩))
    (hfit : fitA l c us done.length act) (h : AD P l st0 rows0 rest (done ++ [⟨d, c, [], us, ffB⟩]) act K) : AD P l st0 rows0 (⟨d, op, ty, pos, af, gd⟩ :: rest) done act K := AD.read' d c us vs rfl hvs hstep hfit h
/-- an operation that makes something, or turns something -/
theorem AD.makes {d : Option Nat} {op : Op} {ty : TypeId} {pos : String} {af : Array Edge} {gd : Option (Nat × Bool)} (c : AV) (os : Hp) (us vs : List Nat) (fr : Nat → Bool) (hvs : vs.all (freeS l done.length) = true)
    (hstep : ∀ st, Obl st0 rows0 done ⟨d, op, ty, pos, af, gd⟩ ⟨d, c, os, us, fr⟩ vs st → GS P l.toArray ⟨d, op, ty, pos, af, gd⟩ st (fun s => s = ⟨st.n, tput d c st.t, os ++ st.h⟩))
    (hfit : fitB l ⟨d, c, os, us, fr⟩ done.length 0 done) (hnew : tnop fr st0.t = true ∧ hnop fr st0.h = true) (h : AD P l st0 rows0 rest (done ++ [⟨d, c, os, us, fr⟩]) ((done.length, ⟨d, c, os, us, fr⟩) :: act) K) :
    AD P l st0 rows0 (⟨d, op, ty, pos, af, gd⟩ :: rest) done act K := AD.make ⟨d, c, os, us, fr⟩ vs rfl hvs hstep hfit hnew h

/-- THE REGION -/
theorem AC.drawn {id : Nat} {Post : Exit → St → Prop} (hm : P.follows .mixedOrders = true) (rows0 : List (Nat × AV)) (hr : LT0 l st0 rows0) (h : ∀ (L : List Oper) (K : St → Prop), L = l → (∀ st, Post .normal st → K st) → AD P L st0 rows0 l [] [] K) : AC P (.region id l.toArray true) st0 Post := by
  obtain ⟨pl, hp, hK⟩ := h l (Post .normal) rfl (fun _ h => h) hr rfl ⟨Nat.zero_le _, fun j o u _ hu => by simp at hu, fun i j v u _ hv => by simp at hv, fun j u hu => by simp at hu⟩ fun i v hv => by simp at hv
  exact AC.plan hm hp hK
theorem LT0_rowsV : ∀ (is : List Nat), (is.all fun x => l.all fun o => o.dst != some x) = true → LT0 l st0 (rowsV st0 is)
  | [], _ => trivial
  | x :: is, h => by
    simp only [List.all_cons, Bool.and_eq_true] at h
    exact ⟨h.1, rfl, LT0_rowsV is h.2⟩
/-- THE REGION, by the slots that it reads and does not write -/
theorem AC.drawnV {id : Nat} {Post : Exit → St → Prop} (hm : P.follows .mixedOrders = true) (is : List Nat) (hr : (is.all fun x => l.all fun o => o.dst != some x) = true) (h : ∀ (L : List Oper) (K : St → Prop), L = l → (∀ st, Post .normal st → K st) → AD P L st0 (rowsV st0 is) l [] [] K) : AC P (.region id l.toArray true) st0 Post :=
  AC.drawn hm _ (LT0_rowsV is hr) h
end
end Go.Proofs.Ytggnolfcgaglfaa
