/- REGIONS THAT DRAW THEIR ORDER: one walk in the text's order serves every order, where what each operation makes is named by its slot and no operation touches what another one, that may come before it or behind it, looks at. -/
import Derived.Test.YtggnolfcgaglfaaSymM
set_option linter.unusedVariables false
set_option linter.unusedSimpArgs false
namespace Go.Proofs.Ytggnolfcgaglfaa
open Go Go.RowKit

/-- what an operation does: its slot, what is known of its result, what it does to the objects, the objects that it looks at, the names that it takes -/
structure En where
  d : Option Nat
  c : AV
  os : Hp
  us : List Nat
  fr : Nat → Bool

def hin (k : Nat) (h : Hp) : Bool := h.any fun p => p.1 == k
theorem hget_hin {h : Hp} {k : Nat} (hk : hin k h = false) (h' : Hp) : hget (h ++ h') k = hget h' k := by
  rw [hget_append, if_neg (by unfold hin at hk; rw [hk]; simp)]
theorem hget_hin' {h : Hp} {k : Nat} (hk : hin k h = true) (h' : Hp) : hget (h ++ h') k = hget h k := by
  rw [hget_append, if_pos (by unfold hin at hk; rw [hk])]
def Ob.nom (p : Nat → Bool) : Ob → Bool
  | .box _ cs => AV.nomL p cs
  | .arr .. => true
  | .mp .. => true
  | .nr _ cs => AV.nomL p cs
def hnop (p : Nat → Bool) (h : Hp) : Bool := h.all fun q => !p q.1 && (match q.2 with | some ob => ob.nom p | none => true)
def hnop' (p : Nat → Bool) (h : Hp) : Bool := h.all fun q => (match q.2 with | some ob => ob.nom p | none => true)
def tnop (p : Nat → Bool) (t : List (Nat × AV)) : Bool := t.all fun q => q.2.nom p
theorem tnop_get {p : Nat → Bool} : ∀ {t : List (Nat × AV)}, tnop p t = true → ∀ i, (tget t i).nom p = true
  | [], _, i => rfl
  | (j, c) :: t, h, i => by
    simp only [tnop, List.all_cons, Bool.and_eq_true] at h
    simp only [tget]
    split
    · exact h.1
    · exact tnop_get (by simpa [tnop] using h.2) i
theorem hnop_get {p : Nat → Bool} : ∀ {h : Hp}, hnop' p h = true → ∀ k ob, hget h k = some ob → ob.nom p = true
  | [], _, k, ob, h => by simp [hget] at h
  | (j, o) :: t, h, k, ob, hk => by
    simp only [hnop', List.all_cons, Bool.and_eq_true] at h
    by_cases hkj : k = j
    · subst hkj
      rw [hget_same] at hk
      subst hk
      exact h.1
    · rw [hget_other hkj] at hk
      exact hnop_get (by simpa [hnop'] using h.2) k ob hk

/-- the state behind all operations -/
def tput : Option Nat → AV → List (Nat × AV) → List (Nat × AV)
  | some d, c, t => (d, c) :: t
  | none, _, t => t
def finT (t : List (Nat × AV)) : List En → List (Nat × AV)
  | [] => t
  | u :: pl => finT (tput u.d u.c t) pl
def finH (h : Hp) : List En → Hp
  | [] => h
  | u :: pl => finH (u.os ++ h) pl

/-- which operations come ahead of one, in every order: a row of bits -/
def ancM (acc : List Nat) (o : Oper) : Nat := o.after.toList.foldl (fun m e => if Region.binds .any e then m ||| (2 ^ e.on) ||| acc.getD e.on 0 else m) 0
def masks : List Nat → List Oper → List Nat
  | acc, [] => acc
  | acc, o :: l => masks (acc ++ [ancM acc o]) l
def aheadOf (l : List Oper) (j i : Nat) : Bool := ((masks [] l).getD j 0).testBit i

/-- S holds, with each operation, all that must come ahead of it -/
def Closed (l : List Oper) (S : Nat → Bool) : Prop := ∀ (j : Nat) o, l[j]? = some o → S j = true → ∀ e ∈ o.after, Region.binds .any e = true → S e.on = true

theorem ancM_bit {acc : List Nat} {o : Oper} {i : Nat} (h : (ancM acc o).testBit i = true) : ∃ e ∈ o.after, Region.binds .any e = true ∧ (e.on = i ∨ (acc.getD e.on 0).testBit i = true) := by
  have key : ∀ (es : List Edge) (m : Nat), (es.foldl (fun m e => if Region.binds .any e then m ||| (2 ^ e.on) ||| acc.getD e.on 0 else m) m).testBit i = true → m.testBit i = true ∨ ∃ e ∈ es, Region.binds .any e = true ∧ (e.on = i ∨ (acc.getD e.on 0).testBit i = true) := by
    intro es
    induction es with
    | nil => intro m h; exact .inl h
    | cons e es ih =>
      intro m h
      rw [List.foldl_cons] at h
      rcases ih _ h with h1 | ⟨e', he, hb⟩
      · split at h1
        · rename_i hb
          simp only [Nat.testBit_or, Bool.or_eq_true] at h1
          rcases h1 with (h1 | h1) | h1
          · exact .inl h1
          · rw [Nat.testBit_two_pow] at h1
            exact .inr ⟨e, by simp, hb, .inl (by simpa using h1)⟩
          · exact .inr ⟨e, by simp, hb, .inr h1⟩
        · exact .inl h1
      · exact .inr ⟨e', by simp [he], hb⟩
  rcases key _ _ h with h1 | ⟨e, he, hb⟩
  · simp at h1
  · exact ⟨e, by simpa using he, hb⟩
theorem masks_take : ∀ (l : List Oper) (acc : List Nat) (j : Nat), j < acc.length → (masks acc l).getD j 0 = acc.getD j 0
  | [], acc, j, h => rfl
  | o :: l, acc, j, h => by
    rw [masks, masks_take l _ j (by simp; omega)]
    simp [List.getD, List.getElem?_append_left h]
theorem aheadOf_closed {l : List Oper} {S : Nat → Bool} (hS : Closed l S) : ∀ (j i : Nat), aheadOf l j i = true → S j = true → S i = true := by
  have key : ∀ (l2 l1 : List Oper) (acc : List Nat), l = l1 ++ l2 → acc.length = l1.length → (∀ j i, (acc.getD j 0).testBit i = true → S j = true → S i = true) → ∀ j i, ((masks acc l2).getD j 0).testBit i = true → S j = true → S i = true := by
    intro l2
    induction l2 with
    | nil => intro l1 acc _ _ h; exact h
    | cons o l2 ih =>
      intro l1 acc hl hlen h
      refine ih (l1 ++ [o]) _ (by simp [hl]) (by simp [hlen]) fun j i hb hj => ?_
      by_cases hjl : j < acc.length
      · simp only [List.getD, List.getElem?_append_left hjl] at hb
        exact h j i hb hj
      · by_cases hje : j = acc.length
        · subst hje
          simp [List.getD] at hb
          obtain ⟨e, he, hbi, h2⟩ := ancM_bit hb
          have hlo : l[acc.length]? = some o := by rw [hl, hlen]; simp
          have hSe := hS _ o hlo hj e he hbi
          rcases h2 with rfl | h2
          · exact hSe
          · exact h _ i h2 hSe
        · have : (acc ++ [ancM acc o]).getD j 0 = 0 := by
            simp [List.getD, List.getElem?_eq_none (show (acc ++ [ancM acc o]).length ≤ j by simp; omega)]
          rw [this] at hb
          simp at hb
  exact fun j i => key l [] [] rfl rfl (fun j i h => by simp at h) j i

/-- slot x is not yet written when operation j comes -/
def freeS (l : List Oper) (j x : Nat) : Bool := (List.range l.length).all fun i => match l[i]? with
  | some o => o.dst != some x || Nat.beq i j || aheadOf l i j
  | none => true

/-- what is known when operation j comes: what stood ahead of the region, what its own operands are, the objects that it looks at; its names are new -/
structure Kn (l : List Oper) (st0 : St) (done : List En) (o : Oper) (u : En) (st : St) : Prop where
  n : st.n = st0.n
  t0 : ∀ x, (l.all fun o => o.dst != some x) = true → tget st.t x = tget st0.t x
  t1 : ∀ x, freeS l done.length x = true → tget st.t x = tget st0.t x
  ts : ∀ e ∈ o.after, Region.binds .any e = true → ∀ v d, done[e.on]? = some v → v.d = some d → tget st.t d = v.c
  h : ∀ k, u.us.contains k = true → hget st.h k = hget (finH st0.h done) k
  ft : ∀ x, (tget st.t x).nom u.fr = true
  fh : ∀ k ob, hget st.h k = some ob → ob.nom u.fr = true
  fk : ∀ k, u.fr k = true → hget st.h k = none

/-- THE STEP of operation j -/
def DS (P : Program) (l : List Oper) (st0 : St) (done : List En) (o : Oper) (u : En) : Prop :=
  ∀ st, Kn l st0 done o u st → GS P l.toArray o st (fun s => s = ⟨st.n, tput u.d u.c st.t, u.os ++ st.h⟩)

/-- two operations, i ahead of j in the text, that may come in both orders -/
def apartB (v u : En) : Bool :=
  v.os.all (fun p => !hin p.1 u.os && !u.us.contains p.1) && u.os.all (fun p => !v.us.contains p.1)
def pairB (l : List Oper) (i j : Nat) (v u : En) : Prop := apartB v u = true ∨ aheadOf l j i = true
/-- names that are new at one operation are met at no other that is not behind it -/
def newB (l : List Oper) (i j : Nat) (v u : En) : Prop :=
  (v.c.nom u.fr = true ∧ hnop u.fr v.os = true) ∧ ((u.c.nom v.fr = true ∧ hnop v.fr u.os = true) ∨ aheadOf l j i = true)
def fitB (l : List Oper) (u : En) (j : Nat) : Nat → List En → Prop
  | _, [] => True
  | i, v :: done => pairB l i j v u ∧ newB l i j v u ∧ fitB l u j (i + 1) done
theorem fitB_get {l : List Oper} {u : En} {j : Nat} : ∀ {i0 : Nat} {done : List En}, fitB l u j i0 done → ∀ (i : Nat) v, done[i]? = some v → pairB l (i0 + i) j v u ∧ newB l (i0 + i) j v u
  | i0, [], _, i, v, h => by simp at h
  | i0, x :: done, hf, i, v, h => by
    cases i with
    | zero => simp at h; subst h; exact ⟨hf.1, hf.2.1⟩
    | succ i =>
      have := fitB_get hf.2.2 i v (by simpa using h)
      rw [show i0 + (i + 1) = i0 + 1 + i by omega]
      exact this

/-- the slots differ -/
def dstsB : List Oper → Bool
  | [] => true
  | o :: l => (match o.dst with | some d => l.all fun p => p.dst != some d | none => true) && dstsB l
theorem dstsB_get : ∀ {l : List Oper}, dstsB l = true → ∀ (i j : Nat) o p d, l[i]? = some o → l[j]? = some p → o.dst = some d → p.dst = some d → i = j
  | [], _, i, j, o, p, d, h, _, _, _ => by simp at h
  | x :: l, hd, i, j, o, p, d, hi, hj, ho, hp => by
    simp only [dstsB, Bool.and_eq_true] at hd
    have key : ∀ (k : Nat) y, l[k]? = some y → x.dst = some d → y.dst ≠ some d := fun k y hk hx hy => by
      have h1 := hd.1
      simp only [hx] at h1
      have := List.all_eq_true.1 h1 y (List.mem_of_getElem? hk)
      simp [hy] at this
    cases i with
    | zero =>
      simp at hi; subst hi
      cases j with
      | zero => rfl
      | succ j => exact absurd hp (key j p (by simpa using hj) ho)
    | succ i =>
      cases j with
      | zero => simp at hj; subst hj; exact absurd ho (key i o (by simpa using hi) hp)
      | succ j => rw [dstsB_get hd.2 i j o p d (by simpa using hi) (by simpa using hj) ho hp]

/-- the plan of a whole region -/
structure Plan (P : Program) (l : List Oper) (st0 : St) (pl : List En) : Prop where
  len : pl.length = l.length
  step : ∀ (j : Nat) o u, l[j]? = some o → pl[j]? = some u → o.dst = u.d ∧ DS P l st0 (pl.take j) o u
  fit : ∀ (i j : Nat) v u, i < j → pl[i]? = some v → pl[j]? = some u → pairB l i j v u ∧ newB l i j v u
  new0 : ∀ (j : Nat) u, pl[j]? = some u → tnop u.fr st0.t = true ∧ hnop u.fr st0.h = true
  inj : dstsB l = true
  back : ∀ (j : Nat) o, l[j]? = some o → ∀ e ∈ o.after, Region.binds .any e = true → e.on < j

/-- what stands when the operations of S are done -/
structure Inv (st0 : St) (pl : List En) (S : Nat → Bool) (st : St) : Prop where
  n : st.n = st0.n
  t0 : ∀ x, (∀ i u, pl[i]? = some u → S i = true → u.d ≠ some x) → tget st.t x = tget st0.t x
  ts : ∀ (i : Nat) u d, pl[i]? = some u → S i = true → u.d = some d → tget st.t d = u.c
  h0 : ∀ k, (∀ (i : Nat) u, pl[i]? = some u → S i = true → hin k u.os = false) → hget st.h k = hget st0.h k
  hs : ∀ k (i : Nat) u, pl[i]? = some u → S i = true → hin k u.os = true → (∀ (i' : Nat) u', i < i' → pl[i']? = some u' → S i' = true → hin k u'.os = false) → hget st.h k = hget u.os k

theorem hnop_names {p : Nat → Bool} : ∀ {h : Hp} {k : Nat}, hnop p h = true → p k = true → hin k h = false
  | [], k, _, _ => rfl
  | (j, o) :: h, k, hn, hk => by
    simp only [hnop, List.all_cons, Bool.and_eq_true] at hn
    simp only [hin, List.any_cons, Bool.or_eq_false_iff]
    refine ⟨?_, hnop_names (h := h) (by simpa [hnop] using hn.2) hk⟩
    have : p j = false := by simpa using hn.1.1
    simp
    rintro rfl
    rw [hk] at this; cases this
theorem hnop_obs {p : Nat → Bool} {h : Hp} (hn : hnop p h = true) {k : Nat} {ob : Ob} (hk : hget h k = some ob) : ob.nom p = true := by
  refine hnop_get (p := p) (h := h) ?_ k ob hk
  simp only [hnop, List.all_eq_true, Bool.and_eq_true] at hn
  simp only [hnop', List.all_eq_true]
  exact fun q hq => (hn q hq).2
theorem hget_hin_none : ∀ {h : Hp} {k : Nat}, hin k h = false → hget h k = none
  | [], _, _ => rfl
  | (j, o) :: h, k, hh => by
    simp only [hin, List.any_cons, Bool.or_eq_false_iff] at hh
    have : ¬ k = j := fun he => by have := hh.1; simp [he] at this
    simp only [hget, this, if_false]
    exact hget_hin_none hh.2

/-- the last of some -/
theorem last_of (p : Nat → Prop) : ∀ N, (∃ i, i < N ∧ p i) → ∃ i, i < N ∧ p i ∧ ∀ i', i < i' → i' < N → ¬ p i'
  | 0, ⟨i, h, _⟩ => by omega
  | N + 1, ⟨i, h, hp⟩ => by
    by_cases hN : p N
    · exact ⟨N, by omega, hN, fun i' h1 h2 => by omega⟩
    · obtain ⟨i, h1, h2, h3⟩ := last_of p N ⟨i, by
        rcases Nat.lt_or_ge i N with h' | h'
        · exact h'
        · have : i = N := by omega
          subst this; exact absurd hp hN, hp⟩
      refine ⟨i, by omega, h2, fun i' h4 h5 => ?_⟩
      by_cases hi : i' = N
      · subst hi; exact hN
      · exact h3 i' h4 (by omega)

theorem finH_none : ∀ (pl : List En) (h : Hp) (k : Nat), (∀ u ∈ pl, hin k u.os = false) → hget (finH h pl) k = hget h k
  | [], h, k, _ => rfl
  | u :: pl, h, k, hu => by rw [finH, finH_none pl _ k (fun v hv => hu v (by simp [hv])), hget_hin (hu u (by simp))]
theorem finH_last : ∀ (pl : List En) (h : Hp) (k i : Nat) (u : En), pl[i]? = some u → hin k u.os = true → (∀ (i' : Nat) u', i < i' → pl[i']? = some u' → hin k u'.os = false) → hget (finH h pl) k = hget u.os k
  | [], h, k, i, u, hi, _, _ => by simp at hi
  | v :: pl, h, k, 0, u, hi, hu, hl => by
    simp at hi; subst hi
    rw [finH, finH_none pl _ k (fun w hw => by
      obtain ⟨j, hj, rfl⟩ := List.getElem_of_mem hw
      exact hl (j + 1) _ (by omega) (by simp [List.getElem?_eq_getElem hj])), hget_hin' hu]
  | v :: pl, h, k, i + 1, u, hi, hu, hl => by
    rw [finH]
    exact finH_last pl _ k i u (by simpa using hi) hu fun i' u' h1 h2 => hl (i' + 1) u' (by omega) (by simpa using h2)
theorem tget_tput {d : Option Nat} {c : AV} {t : List (Nat × AV)} {x : Nat} : tget (tput d c t) x = if d = some x then c else tget t x := by
  cases d with
  | none => simp [tput]
  | some d =>
    simp only [tput, tget]
    by_cases h : x = d
    · subst h; simp
    · have : ¬ d = x := fun e => h e.symm
      simp [h, this]
theorem finT_none : ∀ (pl : List En) (t : List (Nat × AV)) (x : Nat), (∀ u ∈ pl, u.d ≠ some x) → tget (finT t pl) x = tget t x
  | [], t, x, _ => rfl
  | u :: pl, t, x, hu => by rw [finT, finT_none pl _ x (fun v hv => hu v (by simp [hv])), tget_tput, if_neg (hu u (by simp))]
theorem finT_last : ∀ (pl : List En) (t : List (Nat × AV)) (x i : Nat) (u : En), pl[i]? = some u → u.d = some x → (∀ (i' : Nat) u', i < i' → pl[i']? = some u' → u'.d ≠ some x) → tget (finT t pl) x = u.c
  | [], t, x, i, u, hi, _, _ => by simp at hi
  | v :: pl, t, x, 0, u, hi, hu, hl => by
    simp at hi; subst hi
    rw [finT, finT_none pl _ x (fun w hw => by
      obtain ⟨j, hj, rfl⟩ := List.getElem_of_mem hw
      exact hl (j + 1) _ (by omega) (by simp [List.getElem?_eq_getElem hj])), tget_tput, if_pos hu]
  | v :: pl, t, x, i + 1, u, hi, hu, hl => by
    rw [finT]
    exact finT_last pl _ x i u (by simpa using hi) hu fun i' u' h1 h2 => hl (i' + 1) u' (by omega) (by simpa using h2)
end Go.Proofs.Ytggnolfcgaglfaa
